/- An integer's decimal text, as the program makes it: the contract. No statement of its own. -/
import Derived.Test.YtfmebdmgnmogaaaDoorQE1
import Derived.Test.YtfmebdmgnmogaaaDoorQSb
set_option linter.unusedSimpArgs false
set_option linter.unusedVariables false
set_option maxRecDepth 100000
set_option maxHeartbeats 8000000
namespace Go.Proofs.YtfmebdmgnmogaaaDoor
open Go Go.RowKit Hv

theorem shp_below {w w' : World} (b : Below w.heap.size w w') : Shp w w' := fun i cs e fz h => ⟨cs, by
  have : i < w.heap.size := by
    rcases Nat.lt_or_ge i w.heap.size with h1 | h1
    · exact h1
    · rw [Array.getElem?_eq_none h1] at h; cases h
  rw [b.block i this]; exact h, rfl⟩
theorem chg_below {w w' : World} (Xw : AP) (b : Below w.heap.size w w') : Chg Xw w w' :=
  ⟨b.os, b.tape, b.output, b.size, shp_below b, fun p v h _ => (b.cell (World.block_lt_of_cell? _ _ h)).trans h, fun i hi _ => b.block i hi⟩
theorem ofL_nil (id : Nat) : ofL [] id = {} := by simp [ofL]
/-- A contract that leaves all old memory as it was and gives a plain value. -/
theorem hcalls_below {P : Program} {f : FuncId} {args : List HV} {v : Value} (hcl : callable P f)
    (h : ∀ (X : AP) (m : Mp) (w : World) (vs : List Value), vs.length = args.length → GW w → (∀ (j : Nat) (x : HV) (v : Value), args[j]? = some x → vs[j]? = some v → Rep w (Xt X m (ofL [])) m (ofL []) x v) →
      Calls P f vs.toArray w fun e w' => e = .returned v ∧ Below w.heap.size w w') : HCallsD P f [] args (.raw v) [] := by
  refine ⟨hcl, fun X m w vs hl hX hH hG ha => ?_⟩
  refine (h X m w vs hl hG.1 ha).mono ?_
  rintro e w' ⟨rfl, b⟩
  refine ⟨v, m, rfl, fun _ _ => rfl, ⟨fun id h => ?_, fun id h => ?_, fun i j bi oi oj _ h => ?_, fun id b o off h => ?_, fun p hp => Nat.lt_of_lt_of_le (hX p hp) b.size⟩, .raw v, chg_below _ b⟩
  all_goals (rw [ofL_nil] at h; cases h)

def txt (b : Bool) (xs : List Int) : List UInt8 := if xs.length = 0 then [48] else fmtD b (fun i => (xs.getD i 0).toNat) (xs.length - 1)
theorem cells_ints {w : World} {X : AP} {m : Mp} {h : Hp} {k : IntKind} {xs : List Int} {vs : List Value} (hv : vs.length = (ints k xs).length)
    (hr : ∀ (j : Nat) (x : HV) (v : Value), (ints k xs)[j]? = some x → vs[j]? = some v → Rep w X m h x v) (i : Nat) (hi : i < xs.length) : vs[i]? = some (.int k (xs.getD i 0)) := by
  rw [ints_length] at hv
  have h1 : vs[i]? = some (vs[i]'(by omega)) := List.getElem?_eq_getElem (by omega)
  have := hr i (.raw (.int k (xs.getD i 0))) _ (by simp [ints, List.getD, hi]) h1
  rw [h1]
  generalize vs[i] = u at this
  cases this
  rfl
theorem gw_tab {w : World} (h : GW w) : Lib.TabIs Tryd.prog w "internal/strconv.uint64pow10" .u64 Lib.pow10Tab := by
  obtain ⟨T, fr, h⟩ := h
  have hg : Tryd.prog.globalNamed "internal/strconv.uint64pow10" = some gB := by kernel_rfl
  show World.var? Tryd.prog w _ = _
  unfold World.var?
  rw [hg]
  show (match w.heap[gB]? with | some (.cells cs _ _) => some cs | _ => none) = _
  rw [h]

theorem format_c {bx : Bool} {nx : Nat} {xx : List Int} {zx : Int} (hbx : bx = decide (zx < 0)) (hnx : nx = xx.length) (hxx : xx = dig (zx.natAbs : Int)) (hlx : xx.length ≤ 100000) : HCallsD Tryd.prog 6 [] [.agg [.raw (.bool bx), .sl nx false (ints .u32 xx)]] (.raw (.string (bs (txt bx xx)))) [] := by
  refine hcalls_below ⟨_, Tryd.func6, by rfl, by rfl⟩ (fun X m w vs hl hG ha => ?_)
  obtain ⟨v, rfl⟩ : ∃ v, vs = [v] := by
    match vs, hl with
    | [v], _ => exact ⟨v, rfl⟩
  have r := ha 0 _ _ rfl rfl
  have hlim : Lim xx := by rw [hxx]; exact dig_lim _
  generalize hav : HV.agg [.raw (.bool bx), .sl nx false (ints .u32 xx)] = av at r
  cases r with
  | agg cells us hul hr =>
    simp only [HV.agg.injEq] at hav
    subst hav
    match us, hul with
    | [u0, u1], _ =>
      have r0 := hr 0 _ _ rfl rfl
      have r1 := hr 1 _ _ rfl rfl
      cases r0
      cases r1 with
      | sl n full cells a c vs h1 h2 h3 h4 h5 h6 h7 =>
        have hcell := cells_ints h1 h7
        subst hnx
        show Calls Tryd.prog 6 #[.agg #[.bool bx, .slice a xx.length c]] w _
        rcases Nat.eq_zero_or_pos xx.length with h0 | h0
        · have : txt bx xx = [48] := by unfold txt; rw [if_pos h0]
          rw [this, h0]
          exact format_k0 bx a c w
        · obtain ⟨ad, rfl, _, _⟩ := h6 0 _ (hcell 0 h0)
          obtain ⟨k, hk⟩ : ∃ k, xx.length = k + 1 := ⟨xx.length - 1, by omega⟩
          have : txt bx xx = fmtD bx (fun i => (xx.getD i 0).toNat) k := by unfold txt; rw [if_neg (by omega), hk]; rfl
          rw [this, hk]
          have hc : ∀ i, i ≤ k → w.cell? (ad.add i) = some (.int .u32 ((xx.getD i 0).toNat : Nat)) := fun i hi => by
            obtain ⟨ad', e, hc, _⟩ := h6 i _ (hcell i (by omega))
            obtain rfl := Option.some.inj e
            rw [hc, Int.toNat_of_nonneg (hlim.getA i).1]
          have hxi : ∀ i, i ≤ k → (xx.getD i 0).toNat < 1000000000 := fun i _ => by have := hlim.getA i; omega
          cases bx
          · exact format_false _ k c ad w (gw_tab hG) hc hxi (by omega)
          · exact format_true _ k c ad w (gw_tab hG) hc hxi (by omega)
  | _ => cases hav
end Go.Proofs.YtfmebdmgnmogaaaDoor
