/- An integer's decimal text, as the program makes it: the contract. No statement of its own. -/
import Derived.Test.YtfmebdmgnmogaaaGreatDoorQE0
import Derived.Test.YtfmebdmgnmogaaaGreatDoorQSb
import Derived.Test.YtfmebdmgnmogaaaGreatDoorQI14
set_option linter.unusedVariables false
set_option linter.unusedSimpArgs false
set_option linter.unusedSimpArgs false
set_option linter.unusedVariables false
set_option maxRecDepth 100000
set_option maxHeartbeats 8000000
namespace Go.Proofs.YtfmebdmgnmogaaaGreatDoor
open Go Go.RowKit Hv

theorem shp_below {w w' : World} (b : Below w.heap.size w w') : Shp w w' := fun i cs e fz h => ⟨cs, by
  have : i < w.heap.size := by
    rcases Nat.lt_or_ge i w.heap.size with h1 | h1
    · exact h1
    · rw [Array.getElem?_eq_none h1] at h; cases h
  rw [b.block i this]; exact h, rfl⟩
theorem chg_below {w w' : World} (Xw : AP) (b : Below w.heap.size w w') : Chg Xw w w' :=
  ⟨b.os, b.tape, b.output, b.size, shp_below b, fun p v h _ => (b.cell (World.block_lt_of_cell? _ _ h)).trans h, fun i hi _ => b.block i hi⟩
theorem ofL_nil (id : Nat) : ofL [] id = {} := by simp [ofL]
/-- A contract that leaves all old memory as it was and gives a plain value. -/
theorem hcalls_below {P : Program} {f : FuncId} {args : List HV} {v : Value} (hcl : callable P f)
    (h : ∀ (X : AP) (m : Mp) (w : World) (vs : List Value), vs.length = args.length → GW w → (∀ (j : Nat) (x : HV) (v : Value), args[j]? = some x → vs[j]? = some v → Rep w (Xt X m (ofL [])) m (ofL []) x v) →
      Calls P f vs.toArray w fun e w' => e = .returned v ∧ Below w.heap.size w w') : HCallsD P f [] args (.raw v) [] := by
  refine ⟨hcl, fun X m w vs hl hX hH hG ha => ?_⟩
  refine (h X m w vs hl hG.1 ha).mono ?_
  rintro e w' ⟨rfl, b⟩
  refine ⟨v, m, rfl, fun _ _ => rfl, ⟨fun id h => ?_, fun id h => ?_, fun i j bi oi oj _ h => ?_, fun id b o off h => ?_, fun p hp => Nat.lt_of_lt_of_le (hX p hp) b.size⟩, .raw v, chg_below _ b⟩
  all_goals (rw [ofL_nil] at h; cases h)

def txt (b : Bool) (xs : List Int) : List UInt8 := if xs.length = 0 then [48] else fmtD b (fun i => (xs.getD i 0).toNat) (xs.length - 1)
theorem cells_ints {w : World} {X : AP} {m : Mp} {h : Hp} {k : IntKind} {xs : List Int} {vs : List Value} (hv : vs.length = (ints k xs).length)
    (hr : ∀ (j : Nat) (x : HV) (v : Value), (ints k xs)[j]? = some x → vs[j]? = some v → Rep w X m h x v) (i : Nat) (hi : i < xs.length) : vs[i]? = some (.int k (xs.getD i 0)) := by
  rw [ints_length] at hv
  have h1 : vs[i]? = some (vs[i]'(by omega)) := List.getElem?_eq_getElem (by omega)
  have := hr i (.raw (.int k (xs.getD i 0))) _ (by simp [ints, List.getD, hi]) h1
  rw [h1]
  generalize vs[i] = u at this
  cases this
  rfl
theorem gw_tab {w : World} (h : GW w) : Lib.TabIs Tryz.prog w "internal/strconv.uint64pow10" .u64 Lib.pow10Tab := by
  obtain ⟨T, fr, h⟩ := h
  have hg : Tryz.prog.globalNamed "internal/strconv.uint64pow10" = some gB := by kernel_rfl
  show World.var? Tryz.prog w _ = _
  unfold World.var?
  rw [hg]
  show (match w.heap[gB]? with | some (.cells cs _ _) => some cs | _ => none) = _
  rw [h]

theorem format_c {bx : Bool} {nx : Nat} {xx : List Int} {zx : Int} (hbx : bx = decide (zx < 0)) (hnx : nx = xx.length) (hxx : xx = dig (zx.natAbs : Int)) (hlx : xx.length ≤ 100000) : HCallsD Tryz.prog 83 [] [.agg [.raw (.bool bx), .sl nx false (ints .u32 xx)]] (.raw (.string (bs (txt bx xx)))) [] := by
  refine hcalls_below ⟨_, Tryz.func83, by rfl, by rfl⟩ (fun X m w vs hl hG ha => ?_)
  obtain ⟨v, rfl⟩ : ∃ v, vs = [v] := by
    match vs, hl with
    | [v], _ => exact ⟨v, rfl⟩
  have r := ha 0 _ _ rfl rfl
  have hlim : Lim xx := by rw [hxx]; exact dig_lim _
  generalize hav : HV.agg [.raw (.bool bx), .sl nx false (ints .u32 xx)] = av at r
  cases r with
  | agg cells us hul hr =>
    simp only [HV.agg.injEq] at hav
    subst hav
    match us, hul with
    | [u0, u1], _ =>
      have r0 := hr 0 _ _ rfl rfl
      have r1 := hr 1 _ _ rfl rfl
      cases r0
      cases r1 with
      | sl n full cells a c vs h1 h2 h3 h4 h5 h6 h7 =>
        have hcell := cells_ints h1 h7
        subst hnx
        show Calls Tryz.prog 83 #[.agg #[.bool bx, .slice a xx.length c]] w _
        rcases Nat.eq_zero_or_pos xx.length with h0 | h0
        · have : txt bx xx = [48] := by unfold txt; rw [if_pos h0]
          rw [this, h0]
          exact format_k0 bx a c w
        · obtain ⟨ad, rfl, _, _⟩ := h6 0 _ (hcell 0 h0)
          obtain ⟨k, hk⟩ : ∃ k, xx.length = k + 1 := ⟨xx.length - 1, by omega⟩
          have : txt bx xx = fmtD bx (fun i => (xx.getD i 0).toNat) k := by unfold txt; rw [if_neg (by omega), hk]; rfl
          rw [this, hk]
          have hc : ∀ i, i ≤ k → w.cell? (ad.add i) = some (.int .u32 ((xx.getD i 0).toNat : Nat)) := fun i hi => by
            obtain ⟨ad', e, hc, _⟩ := h6 i _ (hcell i (by omega))
            obtain rfl := Option.some.inj e
            rw [hc, Int.toNat_of_nonneg (hlim.getA i).1]
          have hxi : ∀ i, i ≤ k → (xx.getD i 0).toNat < 1000000000 := fun i _ => by have := hlim.getA i; omega
          cases bx
          · exact format_false _ k c ad w (gw_tab hG) hc hxi (by omega)
          · exact format_true _ k c ad w (gw_tab hG) hc hxi (by omega)
  | _ => cases hav
end Go.Proofs.YtfmebdmgnmogaaaGreatDoor
set_option linter.unusedSimpArgs false
set_option linter.unusedVariables false
set_option maxRecDepth 100000
set_option maxHeartbeats 4000000
namespace Go.Proofs.YtfmebdmgnmogaaaGreatDoor
open Go Go.RowKit Hv

theorem und21 : Tryz.prog.underlying 21 = some (.int .i32) := by kernel_rfl
theorem ty9 : tyT Tryz.prog 9 = some (false, 1) := by kernel_rfl
theorem ty5 : tyT Tryz.prog 5 = some (false, 1) := by kernel_rfl
theorem el44 : elT Tryz.prog 88 = some (5, 1, 1) := by kernel_rfl
theorem und44 : Tryz.prog.underlying 88 = some (.slice 5) := by kernel_rfl
attribute [push_cast] und21 ty9 ty5 el44 und44
attribute [push_cast] Go.IntWalk.u8_in Go.IntWalk.i32_in

def p10 : Nat → Int
  | 0 => 1
  | k + 1 => 10 * p10 k
theorem p10_pos (k : Nat) : 0 < p10 k := by
  induction k with
  | zero => decide
  | succ k ih => simp only [p10]; omega
theorem p10_add (a b : Nat) : p10 (a + b) = p10 a * p10 b := by
  induction b with
  | zero => simp [p10]
  | succ b ih => rw [← Nat.add_assoc]; simp only [p10]; rw [ih, Int.mul_left_comm]
theorem p10_9 (k : Nat) : p10 (9 * k) = P9 k := by
  induction k with
  | zero => rfl
  | succ k ih => rw [Nat.mul_succ, p10_add, ih]; simp only [P9, p10]; omega
theorem p10_le {a b : Nat} (h : a ≤ b) : p10 a ≤ p10 b := by
  obtain ⟨c, rfl⟩ := Nat.le.dest h
  rw [p10_add]
  have := p10_pos a; have := p10_pos c
  have h1 : p10 a * 1 ≤ p10 a * p10 c := Int.mul_le_mul_of_nonneg_left (by omega) (by omega)
  omega

/-- A digit's letter. -/
def ch (d : Int) : UInt8 := UInt8.ofNat (48 + d).toNat
theorem ch_nat {d : Int} (h0 : 0 ≤ d) (h1 : d < 10) : ((ch d).toNat : Int) = 48 + d := by
  obtain rfl | rfl | rfl | rfl | rfl | rfl | rfl | rfl | rfl | rfl : d = 0 ∨ d = 1 ∨ d = 2 ∨ d = 3 ∨ d = 4 ∨ d = 5 ∨ d = 6 ∨ d = 7 ∨ d = 8 ∨ d = 9 := by omega
  all_goals rfl
theorem enc_ch {d : Int} (h0 : 0 ≤ d) (h1 : d < 10) : Utf8.encode (48 + d) = bs [ch d] := by
  obtain rfl | rfl | rfl | rfl | rfl | rfl | rfl | rfl | rfl | rfl : d = 0 ∨ d = 1 ∨ d = 2 ∨ d = 3 ∨ d = 4 ∨ d = 5 ∨ d = 6 ∨ d = 7 ∨ d = 8 ∨ d = 9 := by omega
  all_goals rfl
theorem bs_app (a b : List UInt8) : bs a ++ bs b = bs (a ++ b) := by
  apply ByteArray.ext
  simp [bs]
/-- The last k digits. -/
def dgs : Nat → Int → List UInt8
  | 0, _ => []
  | k + 1, d => dgs k (d / 10) ++ [ch (d % 10)]
theorem dgs_length (k : Nat) (d : Int) : (dgs k d).length = k := by
  induction k generalizing d with
  | zero => rfl
  | succ k ih => simp [dgs, ih]
/-- The limbs n-1 .. 0, nine digits each. -/
def tl9 (xs : List Int) : Nat → List UInt8
  | 0 => []
  | k + 1 => dgs 9 (xs.getD k 0) ++ tl9 xs k
theorem tl9_length (xs : List Int) (k : Nat) : (tl9 xs k).length = 9 * k := by
  induction k with
  | zero => rfl
  | succ k ih => simp only [tl9, List.length_append, dgs_length, ih]; omega

def strip0 : List UInt8 → List UInt8
  | [] => []
  | c :: l => if c = 48 then strip0 l else c :: l
def rtxt (b : Bool) (xs : List Int) : List UInt8 := if xs.length = 0 then [48] else sgnD b ++ strip0 (tl9 xs xs.length)

/-- The value of a text of digits. -/
def vd (l : List UInt8) : Int := l.foldl (fun a c => 10 * a + ((c.toNat : Int) - 48)) 0
theorem vd_snoc (l : List UInt8) (c : UInt8) : vd (l ++ [c]) = 10 * vd l + ((c.toNat : Int) - 48) := by simp [vd]
theorem rev_ind {α : Type} {M : List α → Prop} (h0 : M []) (h1 : ∀ l c, M l → M (l ++ [c])) (l : List α) : M l := by
  have : ∀ l : List α, M l.reverse := fun l => by
    induction l with
    | nil => exact h0
    | cons c l ih => rw [List.reverse_cons]; exact h1 _ _ ih
  have := this l.reverse
  rwa [List.reverse_reverse] at this
theorem vd_app (a b : List UInt8) : vd (a ++ b) = vd a * p10 b.length + vd b := by
  refine rev_ind (M := fun b => vd (a ++ b) = vd a * p10 b.length + vd b) ?_ ?_ b
  · simp [vd, p10]
  · intro b c ih
    rw [← List.append_assoc, vd_snoc, vd_snoc, ih, List.length_append]
    simp only [List.length_cons, List.length_nil, p10, Nat.zero_add]
    rw [Int.mul_add, Int.mul_left_comm 10, Int.add_assoc]
def isD (c : UInt8) : Bool := decide (48 ≤ c.toNat ∧ c.toNat ≤ 57)
def allD (l : List UInt8) : Prop := ∀ c ∈ l, 48 ≤ c.toNat ∧ c.toNat ≤ 57
theorem vd_bound {l : List UInt8} (h : allD l) : 0 ≤ vd l ∧ vd l < p10 l.length := by
  revert h
  refine rev_ind (M := fun l => allD l → 0 ≤ vd l ∧ vd l < p10 l.length) (fun _ => by decide) ?_ l
  · intro l c ih h
    have h1 := ih (fun x hx => h x (by simp [hx]))
    have h2 := h c (by simp)
    rw [vd_snoc, List.length_append]
    simp only [List.length_cons, List.length_nil, p10, Nat.zero_add]
    omega
theorem allD_take {l : List UInt8} (h : allD l) (n : Nat) : allD (l.take n) := fun c hc => h c (List.mem_of_mem_take hc)
theorem allD_drop {l : List UInt8} (h : allD l) (n : Nat) : allD (l.drop n) := fun c hc => h c (List.mem_of_mem_drop hc)
theorem vd_take {l : List UInt8} {j : Nat} (h : j < l.length) : vd (l.take (j + 1)) = 10 * vd (l.take j) + (((l.getD j 0).toNat : Int) - 48) := by
  rw [List.take_add_one, List.getElem?_eq_getElem h, Option.toList_some, vd_snoc]
  simp [List.getD, h]

/-- What a text stands for. -/
def okP (l : List UInt8) : Prop := cutP 45 l ≠ [] ∧ ¬ ((cutP 45 l).head? = some 48 ∧ l ≠ [48]) ∧ allD (cutP 45 l)
open Classical in
noncomputable def pz (l : List UInt8) : Int := if okP l then sgnd (pre 45 l) (vd (cutP 45 l)) else 0
open Classical in
noncomputable def pe (l : List UInt8) : Int := if okP l then 0 else 2
theorem pz_no {l : List UInt8} (h : ¬ okP l) : pz l = 0 ∧ pe l = 2 := by unfold pz pe; rw [if_neg h, if_neg h]; exact ⟨rfl, rfl⟩
theorem pz_yes {l : List UInt8} (h : okP l) : pz l = sgnd (pre 45 l) (vd (cutP 45 l)) ∧ pe l = 0 := by unfold pz pe; rw [if_pos h, if_pos h]; exact ⟨rfl, rfl⟩
end Go.Proofs.YtfmebdmgnmogaaaGreatDoor
set_option linter.unusedSimpArgs false
set_option linter.unusedVariables false
set_option maxRecDepth 100000
set_option maxHeartbeats 8000000
namespace Go.Proofs.YtfmebdmgnmogaaaGreatDoor
open Go Go.RowKit Hv

theorem strip_step {s : List UInt8} (h : ((s.getD 0 0).toNat : Int) = 48) : strip0 s = strip0 (s.drop 1) := by
  cases s with
  | nil => rfl
  | cons c s =>
    have : c = 48 := by
      apply UInt8.toNat_inj.1
      have e : ((c.toNat : Nat) : Int) = 48 := h
      show c.toNat = 48
      omega
    simp only [strip0, this, if_true, List.drop_succ_cons, List.drop_zero]
theorem strip_stop {s : List UInt8} (h : ¬ ((s.getD 0 0).toNat : Int) = 48) : strip0 s = s := by
  cases s with
  | nil => rfl
  | cons c s =>
    have : ¬ c = 48 := by
      rintro rfl
      exact h rfl
    simp only [strip0, if_neg this]
theorem strip_pos {s : List UInt8} (h : strip0 s ≠ []) : 0 < s.length := by
  cases s with
  | nil => exact absurd rfl h
  | cons c s => simp
attribute [push_cast] bs_app
theorem dgs_zero (d : Int) : dgs 0 d = [] := rfl

theorem rformat_k {b : Bool} {xs : List Int} (hx : Lim xs) (hl : xs.length ≤ 1000) (h0 : 0 < xs.length) (hs : strip0 (tl9 xs xs.length) ≠ []) : HCallsD Tryz.prog 84 [] [.agg [.raw (.bool b), .sl xs.length false (ints .u32 xs)]] (.raw (.string (bs (sgnD b ++ strip0 (tl9 xs xs.length))))) [] := by
  refine cp1 (rs := [.tmp 2]) (nt := 46) Tryz.func84 (fun C hP hn => ?_)
  ((repeat' (first | refine gW ?_ | (refine gIf ?_ ?_ <;> (intro hc; try exact gX)) | with_reducible refine br_intro ?_ ?_ | (with_reducible intro _; try exact gX) | with_reducible refine ands_intro ?_ ?_)) <;> (try exact gF))
  refine hwp_loopS (fun i : Nat => ⟨lk [(1, .ptr 0 0), (3, .raw (.string (bs (tl9 xs i)))), (4, .raw (.int .i64 i))],
    hlk [(0, { al := true, live := true, wb := true, elem := 24, cells := [.raw (.bool b), .sl xs.length false (ints .u32 xs)] })], 1, 46⟩)
    (fun i => i ≤ xs.length) (fun i => xs.length - i) ⟨0, Nat.zero_le _, by exact cvG hn [(0, 0)]⟩ ?_
  intro i h1
  rcases Nat.lt_or_ge i xs.length with hi | hi
  · have hb := hx.getA i
    have ht := tl9_length xs i
    ((repeat' (first | refine gW ?_ | (refine gIf ?_ ?_ <;> (intro hc; try exact gX)) | with_reducible refine br_intro ?_ ?_ | (with_reducible intro _; try exact gX) | with_reducible refine ands_intro ?_ ?_)) <;> (try exact gF))
    refine hwp_loopS (fun x : Nat × Int × List UInt8 => ⟨lk [(1, .ptr 0 0), (3, .raw (.string (bs x.2.2))), (4, .raw (.int .i64 i)), (5, .raw (.int .u32 x.2.1)), (6, .raw (.int .i64 x.1))],
      hlk [(0, { al := true, live := true, wb := true, elem := 24, cells := [.raw (.bool b), .sl xs.length false (ints .u32 xs)] })], 1, 46⟩)
      (fun x => x.1 ≤ 9 ∧ 0 ≤ x.2.1 ∧ x.2.1 < 1000000000 ∧ x.2.2.length = 9 * i + x.1 ∧ dgs (9 - x.1) x.2.1 ++ x.2.2 = dgs 9 (xs.getD i 0) ++ tl9 xs i) (fun x => 9 - x.1)
      ⟨(0, xs.getD i 0, tl9 xs i), ⟨Nat.zero_le _, hb.1, hb.2, by simp only; omega, rfl⟩, by exact cvG hn [(0, 0)]⟩ ?_
    rintro ⟨j, nn, l⟩ ⟨g1, g2, g3, g4, g5⟩
    simp only at g1 g2 g3 g4 g5
    rcases Nat.lt_or_ge j 9 with hj | hj
    · have e1 : Utf8.encode (48 + nn % 10) = bs [ch (nn % 10)] := enc_ch (by omega) (by omega)
      (have hXx := And.intro @e1 (And.intro @List.length_cons.{0} (@List.length_nil.{0})); (repeat' (first | refine gWx ?_ | (refine gIf ?_ ?_ <;> (intro hc; try exact gX)) | with_reducible refine br_intro ?_ ?_ | (with_reducible intro _; try exact gX) | with_reducible refine ands_intro ?_ ?_)) <;> ((try clear hXx); try exact gF))
      refine ⟨(j + 1, nn / 10, [ch (nn % 10)] ++ l), by simp only; omega, ⟨by simp only; omega, by simp only; omega, by simp only; omega, by simp only [List.length_append, List.length_cons, List.length_nil]; omega, ?_⟩, ?_⟩
      · obtain ⟨k, hk⟩ : ∃ k, 9 - j = k + 1 := ⟨8 - j, by omega⟩
        have hk2 : 9 - (j + 1) = k := by omega
        rw [hk] at g5
        simp only [hk2]
        rw [← g5]
        simp only [dgs, List.append_assoc]
      · exact cvG hn [(0, 0)]
    · obtain rfl : j = 9 := by omega
      rw [show 9 - 9 = 0 from rfl, dgs_zero, List.nil_append] at g5
      subst g5
      ((repeat' (first | refine gW ?_ | (refine gIf ?_ ?_ <;> (intro hc; try exact gX)) | with_reducible refine br_intro ?_ ?_ | (with_reducible intro _; try exact gX) | with_reducible refine ands_intro ?_ ?_)) <;> (try exact gF))
      refine ⟨i + 1, by omega, by omega, ?_⟩
      exact cvG hn [(0, 0)]
  · obtain rfl : i = xs.length := by omega
    have ht := tl9_length xs xs.length
    ((repeat' (first | refine gW ?_ | (refine gIf ?_ ?_ <;> (intro hc; try exact gX)) | with_reducible refine br_intro ?_ ?_ | (with_reducible intro _; try exact gX) | with_reducible refine ands_intro ?_ ?_)) <;> (try exact gF))
    refine hwp_loopS (fun s : List UInt8 => ⟨lk [(1, .ptr 0 0), (3, .raw (.string (bs s)))],
      hlk [(0, { al := true, live := true, wb := true, elem := 24, cells := [.raw (.bool b), .sl xs.length false (ints .u32 xs)] })], 1, 46⟩)
      (fun s => strip0 s = strip0 (tl9 xs xs.length) ∧ s.length ≤ 9 * xs.length) (fun s => s.length)
      ⟨tl9 xs xs.length, ⟨rfl, by omega⟩, by exact cvG hn [(0, 0)]⟩ ?_
    rintro s ⟨g1, g2⟩
    have g3 := strip_pos (g1 ▸ hs)
    cases b
    all_goals (have hXx := And.intro @List.length_cons.{0} (@List.length_nil.{0}); (repeat' (first | refine gWx ?_ | (refine gIf ?_ ?_ <;> (intro hc; try exact gX)) | with_reducible refine br_intro ?_ ?_ | (with_reducible intro _; try exact gX) | with_reducible refine ands_intro ?_ ?_)) <;> ((try clear hXx); try exact gF))
    · refine ⟨s.drop 1, by simp; omega, ⟨by rw [← strip_step hc]; exact g1, by simp; omega⟩, ?_⟩
      exact cvG hn [(0, 0)]
    · rw [← g1, strip_stop (by assumption)]
      exact rqq1 rT
    · refine ⟨s.drop 1, by simp; omega, ⟨by rw [← strip_step hc]; exact g1, by simp; omega⟩, ?_⟩
      exact cvG hn [(0, 0)]
    · rw [← g1, strip_stop (by assumption)]
      exact rqq1 rT
theorem rformat_k0 {b : Bool} : HCallsD Tryz.prog 84 [] [.agg [.raw (.bool b), .sl 0 false (ints .u32 [])]] (.raw (.string (bs [48]))) [] := by
  refine cp1 (rs := [.tmp 2]) (nt := 46) Tryz.func84 (fun C hP hn => ?_)
  ((repeat' (first | refine gW ?_ | (refine gIf ?_ ?_ <;> (intro hc; try exact gX)) | with_reducible refine br_intro ?_ ?_ | (with_reducible intro _; try exact gX) | with_reducible refine ands_intro ?_ ?_)) <;> (try exact gF))
  exact rqq1 rT
/-- A number below 10^9: its nine digits. -/
theorem strip_rep (n : Nat) (l : List UInt8) : strip0 (List.replicate n 48 ++ l) = strip0 l := by
  induction n with
  | zero => rfl
  | succ n ih => simp only [List.replicate_succ, List.cons_append, strip0, if_true, ih]
theorem dgs_z (k : Nat) : dgs k 0 = List.replicate k 48 := by
  induction k with
  | zero => rfl
  | succ k ih =>
    simp only [dgs, Int.zero_ediv, Int.zero_emod, ih]
    rw [List.replicate_succ']
    rfl
theorem ch_n (x : Nat) : ch ((x : Int) % 10) = UInt8.ofNat (48 + x % 10) := by
  unfold ch
  rw [show (48 + (x : Int) % 10).toNat = 48 + x % 10 by omega]
theorem dec_small {x : Nat} (h : x < 10) : Lib.decDigits x = [UInt8.ofNat (48 + x)] := by rw [Lib.decDigits, dif_pos h]
theorem dec_big {x : Nat} (h : ¬ x < 10) : Lib.decDigits x = Lib.decDigits (x / 10) ++ [UInt8.ofNat (48 + x % 10)] := by rw [Lib.decDigits, dif_neg h]
theorem dgs_dec (k : Nat) : ∀ x : Nat, 0 < k → x < 10 ^ k → (Lib.decDigits x).length ≤ k ∧ dgs k x = List.replicate (k - (Lib.decDigits x).length) 48 ++ Lib.decDigits x := by
  induction k with
  | zero => intro x h; omega
  | succ k ih =>
    intro x _ hx
    have e : ((x : Int) / 10) = ((x / 10 : Nat) : Int) := by omega
    by_cases h : x < 10
    · rw [dec_small h]
      refine ⟨by simp, ?_⟩
      simp only [dgs]
      rw [e, ch_n, show x / 10 = 0 by omega, show x % 10 = x by omega]
      show dgs k 0 ++ _ = _
      rw [dgs_z]
      rfl
    · have hk : 0 < k := by
        rcases Nat.eq_zero_or_pos k with rfl | h0
        · exact absurd hx (by simpa using h)
        · exact h0
      obtain ⟨h1, h2⟩ := ih (x / 10) hk (by rw [Nat.pow_succ] at hx; omega)
      rw [dec_big h]
      refine ⟨by simp; omega, ?_⟩
      simp only [dgs]
      rw [e, ch_n, h2, List.length_append, List.append_assoc]
      simp only [List.length_cons, List.length_nil, Nat.zero_add, Nat.add_sub_add_right]
theorem dec_head (x : Nat) (h : 0 < x) : (Lib.decDigits x).head? ≠ some 48 ∧ Lib.decDigits x ≠ [] := by
  induction x using Nat.strongRecOn with
  | _ x ih =>
    by_cases h1 : x < 10
    · rw [dec_small h1]
      refine ⟨?_, by simp⟩
      obtain rfl | rfl | rfl | rfl | rfl | rfl | rfl | rfl | rfl : x = 1 ∨ x = 2 ∨ x = 3 ∨ x = 4 ∨ x = 5 ∨ x = 6 ∨ x = 7 ∨ x = 8 ∨ x = 9 := by omega
      all_goals decide
    · obtain ⟨h2, h3⟩ := ih (x / 10) (by omega) (by omega)
      rw [dec_big h1]
      refine ⟨?_, by simp⟩
      cases hd : Lib.decDigits (x / 10) with
      | nil => exact absurd hd h3
      | cons c l => rw [hd] at h2; exact h2
theorem strip_dec {x : Nat} (h : 0 < x) (l : List UInt8) : strip0 (Lib.decDigits x ++ l) = Lib.decDigits x ++ l := by
  obtain ⟨h2, h3⟩ := dec_head x h
  cases hd : Lib.decDigits x with
  | nil => exact absurd hd h3
  | cons c m =>
    rw [hd] at h2
    have : ¬ c = 48 := fun e => h2 (by rw [e]; rfl)
    simp only [List.cons_append, strip0, if_neg this]
theorem pad9_dgs {x : Nat} (h : x < 1000000000) : pad9 x = dgs 9 x := ((dgs_dec 9 x (by omega) h).2).symm
theorem tail_tl9 {xs : List Int} (hx : Lim xs) (k : Nat) : tailD (fun i => (xs.getD i 0).toNat) k = tl9 xs k := by
  induction k with
  | zero => rfl
  | succ k ih =>
    have h1 := hx.getA k
    simp only [tailD, tl9]
    rw [ih, pad9_dgs (by omega), Int.toNat_of_nonneg h1.1]
/-- Both texts are one. -/
theorem rtxt_eq {b : Bool} {xs : List Int} (hx : Lim xs) (h : 0 < xs.length) (hlast : xs.getD (xs.length - 1) 0 ≠ 0) : strip0 (tl9 xs xs.length) = Lib.decDigits (xs.getD (xs.length - 1) 0).toNat ++ tl9 xs (xs.length - 1) ∧ txt b xs = sgnD b ++ strip0 (tl9 xs xs.length) := by
  obtain ⟨k, hk⟩ : ∃ k, xs.length = k + 1 := ⟨xs.length - 1, by omega⟩
  have h1 := hx.getA k
  have e : strip0 (tl9 xs xs.length) = Lib.decDigits (xs.getD k 0).toNat ++ tl9 xs k := by
    rw [hk]
    simp only [tl9]
    rw [← Int.toNat_of_nonneg h1.1, ← pad9_dgs (by omega)]
    unfold pad9
    rw [List.append_assoc, strip_rep, strip_dec]
    · rw [Int.toNat_of_nonneg h1.1]
    · rw [hk] at hlast
      have : xs.getD k 0 ≠ 0 := hlast
      omega
  rw [e, hk]
  refine ⟨rfl, ?_⟩
  unfold txt
  rw [if_neg (by omega), hk]
  show fmtD b _ k = _
  unfold fmtD
  rw [tail_tl9 hx, List.append_assoc]
theorem rformat_c {bx : Bool} {nx : Nat} {xx : List Int} {zx : Int} (hbx : bx = decide (zx < 0)) (hnx : nx = xx.length) (hxx : xx = dig (zx.natAbs : Int)) (hlx : xx.length ≤ 100000) (hlen : xx.length ≤ 1000) : HCallsD Tryz.prog 84 [] [.agg [.raw (.bool bx), .sl nx false (ints .u32 xx)]] (.raw (.string (bs (txt bx xx)))) [] := by
  have hlim : Lim xx := by rw [hxx]; exact dig_lim _
  subst hnx
  rcases Nat.eq_zero_or_pos xx.length with h0 | h0
  · obtain rfl : xx = [] := List.eq_nil_of_length_eq_zero h0
    exact rformat_k0
  · have hlast : xx.getD (xx.length - 1) 0 ≠ 0 := by rw [hxx] at h0 ⊢; exact dig_get_last h0
    obtain ⟨e1, e2⟩ := rtxt_eq (b := bx) hlim h0 hlast
    rw [e2]
    refine rformat_k hlim hlen h0 ?_
    rw [e1]
    intro h
    have := (dec_head (xx.getD (xx.length - 1) 0).toNat (by have := hlim.getA (xx.length - 1); omega)).2
    exact this (List.append_eq_nil_iff.1 h).1
end Go.Proofs.YtfmebdmgnmogaaaGreatDoor
