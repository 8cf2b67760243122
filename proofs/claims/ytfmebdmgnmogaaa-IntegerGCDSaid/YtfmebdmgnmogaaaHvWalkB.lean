/- Rules for functions that write a row handed to them. No statement of its own. -/
import Derived.Test.YtfmebdmgnmogaaaHvWalk
set_option linter.unusedVariables false
namespace Go.Proofs.Ytfmebdmgnmogaaa.Hv
open Go Go.RowKit

/-- What a body with one borrowed row has to show at its end. -/
def RQB (P : Program) (rs : List ResultVar) (r : HV) (b' : HBlk) (e : Exit) (st : HS) : Prop := isRet e ∧ (∃ xs, ResL P 1 st rs xs ∧ r = oneOf xs) ∧ st.hp 0 = b' ∧ ∀ c ∈ b'.cells, c.flat = true

theorem calls_bor {P : Program} {f : FuncId} {fn : Func} {c : Code} {args : List HV} {r : HV} {b b' : HBlk} (hf : P.funcs[f]? = some fn) (hname : (fn.name == "runtime.NumGoroutine") = false) (hb : fn.body = some c) {rs : List ResultVar} (hrs : fn.results.toList = rs) {nt : Nat} (hnt : fn.ntmps = nt)
    (L : List (Nat × HV)) (hfr : ∀ t, lk L t = .any ∨ args[t]? = some (lk L t)) (hle : args.length ≤ nt) (hg : b.grow = false)
    (h : ∀ C : Ctx, C.P = P → C.n0 = 1 → hwp C c (RQB P rs r b') ⟨lk L, hlk [(0, b)], 1, nt⟩) : HCallsD P f [b] args r [b'] := by
  subst hrs hnt
  refine hcalls_intro hf hname hb [] (lk L) hfr hle (by simpa using hg) (fun C hP hn => ?_)
  rw [ofL_hlk1]
  refine hwp_mono (h C hP hn) (fun e st ⟨h1, ⟨xs, h2, h3⟩, h4, h5⟩ => ⟨h1, xs, h2, h3, rfl, fun id hid => ?_⟩)
  have : id = 0 := by simp at hid; omega
  subst this
  rw [h4]
  exact ⟨rfl, h5⟩
theorem cov_bor {C : Ctx} (hn : C.n0 = 1) {st : HS} (L : List (Nat × HV)) (b : HBlk) {nt : Nat} (h7 : nt = st.nt) (h1 : CovL st (hlk [(0, b)]) (sg []) L) (h2 : CovH st (hlk [(0, b)]) (sg []) [(0, b)]) : Cov C.n0 st ⟨lk L, hlk [(0, b)], 1, nt⟩ := by
  rw [hn]
  exact cov_lists [] L [(0, b)] 1 (covL_all h1) (covH_all h2) (by simp) (fun p hp h => by simp at hp; subst hp; simp at h) (fun id h => rfl) (Nat.le_refl _) h7
theorem rqb_none {P : Program} {e : Exit} {st : HS} {b' : HBlk} (he : isRet e) (h : st.hp 0 = b') (hf : ∀ c ∈ b'.cells, c.flat = true) : RQB P [] (.tup []) b' e st := ⟨he, ⟨[], trivial, rfl⟩, h, hf⟩
theorem rqb_raw {P : Program} {t : Nat} {v : Value} {e : Exit} {st : HS} {b' : HBlk} (he : isRet e) (hv : st.fr t = .raw v) (h : st.hp 0 = b') (hf : ∀ c ∈ b'.cells, c.flat = true) : RQB P [.tmp t] (.raw v) b' e st := by
  refine ⟨he, ⟨[.raw v], ⟨?_, trivial⟩, rfl⟩, h, hf⟩
  show True ∧ _
  rw [hv]
  exact ⟨trivial, .inl rfl, trivial, by simp [ids, id1]⟩
end Go.Proofs.Ytfmebdmgnmogaaa.Hv
