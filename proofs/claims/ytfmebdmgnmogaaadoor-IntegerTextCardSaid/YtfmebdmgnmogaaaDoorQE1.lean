/- Numbers' text, as the library makes it. No statement of its own. -/
import Derived.Test.YtfmebdmgnmogaaaDoorQE0
import Derived.Shelf.Strings.Repeat
import Derived.Shelf.Strconv.Itoa2
import Derived.Lib.ItoaMem
import Derived.Lib.AppendIntMem
import Derived.Lib.Walk
import Derived.WalkKit
import Derived.BigCall
import Derived.BigGuard
import Derived.WalkSpells
import Derived.Deep.LoopGhost
import Derived.Deep.DeepCutAuto
import Derived.Deep.DeepFit
import Derived.Deep.CutBlock
set_option linter.unusedSimpArgs false
set_option linter.unusedVariables false
namespace Go.Proofs.YtfmebdmgnmogaaaDoor
open Go Go.RowKit Go.Sort Go.Lib

/-- What lies behind a fresh row of 24 bytes. -/
theorem holds_zero0 (w : World) (T : TypeId) (nd : Nat) (hs : nd ≤ 24) : Holds (fun (b : UInt8) => Value.int .u8 (b.toNat : Int)) (w.alloc (.cells Lib.zeros24 T)) w.heap.size 0 (Array.replicate nd (0 : UInt8)) := fun j hj => by
  have hj' : j < nd := by simpa using hj
  refine ⟨?_, World.frozen?_alloc_new _ _ _ _⟩
  rw [World.cell?_alloc_new, zeros24_at _ (by omega), getElem!_pos _ j hj]
  simp
theorem fin_zero (w : World) (o : Obj) (dk : Array UInt8) (k : Nat) : ∃ os, (putRow (fun (b : UInt8) => Value.int .u8 (b.toNat : Int)) (w.alloc o) w.heap.size 0 dk).drewN k = grow (w.drewN k) os := by
  rw [alloc_eq_grow]
  obtain ⟨os', _, e⟩ := putRow_grow_new (fun (b : UInt8) => Value.int .u8 (b.toNat : Int)) w #[o] w.heap.size 0 dk (Nat.le_refl _)
  exact ⟨os', by rw [e]; rfl⟩

set_option maxHeartbeats 6400000 in
set_option maxRecDepth 100000 in
theorem fmtInner_c (u : Nat) (hu64 : u < 18446744073709551616) (w : World) (htab : Lib.TabIs Tryd.prog w "internal/strconv.uint64pow10" .u64 Lib.pow10Tab) :
    Calls Tryd.prog 36 #[.int .u64 u, .int .i64 10] w fun e w' => e = .returned (.string ⟨(Lib.decDigits u).toArray⟩) ∧ Below w.heap.size w w' := by
  by_cases hs : u < 100
  · go_enter Tryd.func36, Tryd.ntmps36
    go_wp2_with (go_at_call 54; refine (Tryd.internal_strconv_small u hs _).mono ?_; rintro e w' ⟨rfl, rfl⟩)
    go_ret
    exact ⟨rfl, Below.refl _ _⟩
  · have hu1 : 1 ≤ u := by omega
    have hnd20 : Lib.nDigits u ≤ 20 := by have := Lib.numDigits_eq u hu1 hu64; split at this <;> omega
    have hb : Lib.nDigits u ≤ 24 := by omega
    have hal : Tryd.prog.arrayLen 82 = 24 := by simp [Program.arrayLen, Tryd.underlying82]
    have hsl1 : ∀ W, (Instr.sliceAt 82 (.pointer (some ⟨w.heap.size, 0, none⟩)) none (some (.int .i64 (Lib.nDigits u : Int))) none).run Tryd.prog W = .ok (.slice (some ⟨w.heap.size, 0, none⟩) (Lib.nDigits u) 24) W := fun W => by
      rw [run_sliceAt_array_h W 82 ⟨w.heap.size, 0, none⟩ (by simp [Program.arrayLen, Program.elem, Tryd.underlying82]) .i64 (Lib.nDigits u : Int) (by omega) (by rw [hal]; omega)]
      go_simp
    have hH0 := holds_zero0 w 82 (Lib.nDigits u) hb
    have hfmt := Tryd.internal_strconv_formatBase10 w.heap.size 0 24 u (Array.replicate (Lib.nDigits u) 0) (w.alloc (.cells Lib.zeros24 82)) hH0 (by rw [Array.size_replicate]; exact Lib.lt_pow_nDigits u) hu64 (by rw [Array.size_replicate]; omega)
    rw [Array.size_replicate] at hfmt
    have HH0 := Lib.hid hH0
    clear hH0 hal
    go_enter Tryd.func36, Tryd.ntmps36
    go_wp2_with (go_at_call 55; refine (Tryd.internal_strconv_numDigits u hu1 hu64 _ (Lib.tabIs_alloc htab _)).mono ?_; rintro e w' ⟨rfl, rfl⟩)
    go_at_call 56
    refine hfmt.mono ?_
    rintro e w' ⟨rfl, k, v', dk, rfl, hF⟩
    have hcv : (convert 44 9 (.slice (some ⟨w.heap.size, 0, none⟩) (Lib.nDigits u) 24)).run Tryd.prog ((putRow (fun (b : UInt8) => Value.int .u8 (b.toNat : Int)) (w.alloc (.cells Lib.zeros24 82)) w.heap.size 0 dk).drewN k) = .ok (.string ⟨(Lib.decDigits u).toArray⟩) ((putRow (fun (b : UInt8) => Value.int .u8 (b.toNat : Int)) (w.alloc (.cells Lib.zeros24 82)) w.heap.size 0 dk).drewN k) := by
      have h := run_convert_bytes_back (P := Tryd.prog) ((putRow (fun (b : UInt8) => Value.int .u8 (b.toNat : Int)) (w.alloc (.cells Lib.zeros24 82)) w.heap.size 0 dk).drewN k) 44 9 5 ⟨w.heap.size, 0, none⟩ 24 (Lib.decDigits u) Tryd.underlying44 Tryd.underlying5 Tryd.underlying9 (fun j hj => by
        rw [Lib.row_is_numeral hF j hj, Lib.add_plain, World.cell?_drewN]
        exact cell?_putRow (fun (b : UInt8) => Value.int .u8 (b.toNat : Int)) _ w.heap.size 0 _ dk HH0.out (by rw [hF.size, Array.size_replicate]) j (by rw [hF.size]; rw [Lib.decDigits_length] at hj; exact hj))
      rw [Lib.decDigits_length] at h
      exact h
    go_wp2
    go_ret
    obtain ⟨os, eo⟩ := fin_zero w (.cells Lib.zeros24 82) dk k
    refine ⟨rfl, ?_⟩
    rw [eo]
    exact Lib.below_grow _ _ (Nat.le_refl _) _ _

theorem fmtU_c (u : Nat) (hu64 : u < 18446744073709551616) (w : World) (htab : Lib.TabIs Tryd.prog w "internal/strconv.uint64pow10" .u64 Lib.pow10Tab) :
    Calls Tryd.prog 20 #[.int .u64 u, .int .i64 10] w fun e w' => e = .returned (.string ⟨(Lib.decDigits u).toArray⟩) ∧ Below w.heap.size w w' := by
  go_enter Tryd.func20, Tryd.ntmps20
  go_wp2_with (go_at_call 36; refine (fmtInner_c u hu64 _ htab).mono ?_; rintro e w' ⟨rfl, hb⟩)
  go_ret
  exact ⟨rfl, hb⟩
end Go.Proofs.YtfmebdmgnmogaaaDoor
set_option linter.unusedSimpArgs false
set_option linter.unusedVariables false
namespace Go.Proofs.YtfmebdmgnmogaaaDoor
open Go Go.RowKit Go.Sort Go.Lib

/-- A limb's nine digits. -/
def pad9 (x : Nat) : List UInt8 := List.replicate (9 - (Lib.decDigits x).length) 48 ++ Lib.decDigits x
/-- The limbs k-1 .. 0, nine digits each. -/
def tailD (x : Nat → Nat) : Nat → List UInt8
  | 0 => []
  | k + 1 => pad9 (x k) ++ tailD x k
def sgnD (neg : Bool) : List UInt8 := if neg then [45] else []
def fmtD (neg : Bool) (x : Nat → Nat) (n : Nat) : List UInt8 := sgnD neg ++ Lib.decDigits (x n) ++ tailD x n

theorem isB_below {T e : TypeId} {B b : Nat} {bs : List Value} {W W' : World} (h : Lib.IsBuilder T e B b bs W) (hb : Below W.heap.size W W') : Lib.IsBuilder T e B b bs W' := by
  have one : ∀ {p : Value}, Lib.BuilderAt T e B b p bs W → Lib.BuilderAt T e B b p bs W' := fun h => by
    have hlt := h.lt
    obtain ⟨hB, v, hv, hown, hne⟩ := h
    exact ⟨hB, v, (hb.block b hlt).trans hv, hown.kept (row := none) ⟨hb.os, hb.tape, hb.output, hb.size, fun k hk _ => hb.block k hk⟩ (Classical.em _), hne⟩
  exact h.elim (fun x => .inl (one x)) (fun x => .inr (one x))
/-- A builder in block B that holds these bytes. -/
def isB (W : World) (B : Nat) (p : List UInt8) : Prop := Lib.IsBuilder 46 5 B B (Lib.byteCells p) W
theorem isB.on {W W' : World} {B : Nat} {p : List UInt8} (h : isB W B p) (hb : Below W.heap.size W W') : isB W' B p := isB_below h hb
theorem isB.of {W : World} {B : Nat} {p : List UInt8} {q : Value} (h : Lib.BuilderAt 46 5 B B (.pointer (some ⟨B, 0, none⟩)) (Lib.byteCells p) W) : isB W B p := Or.inr h
theorem wb_c (B : Nat) (p : List UInt8) (W : World) (h : isB W B p) (hl : p.length < 140737488355328) (hB : B ≤ W.heap.size) :
    Calls Tryd.prog 18 #[.pointer (some ⟨B, 0, none⟩), .int .u8 45] W fun e w' => e = .returned .nilIface ∧ isB w' B (p ++ [45]) ∧ Below B W w' := by
  refine (Any.Builder_WriteByte Tryd.lays167 Tryd.Builder_Extra_167 B B (Lib.byteCells p) 45 W h (by rw [Lib.byteCells_length]; omega) hB).mono ?_
  rintro e w' ⟨rfl, h1, h2⟩
  refine ⟨rfl, Or.inr ?_, h2⟩
  rw [Lib.byteCells_append]
  exact h1
theorem ws_c (B : Nat) (p s : List UInt8) (W : World) (h : isB W B p) (hl : p.length + s.length ≤ 140737488355328) (hB : B ≤ W.heap.size) :
    Calls Tryd.prog 19 #[.pointer (some ⟨B, 0, none⟩), .string ⟨s.toArray⟩] W fun e w' => e = .returned (.tuple #[.int .i64 s.length, .nilIface]) ∧ isB w' B (p ++ s) ∧ Below B W w' := by
  refine (Any.Builder_WriteString { Tryd.lays105 with } Tryd.Builder_Extra_105 B B (Lib.byteCells p) ⟨s.toArray⟩ W h (by rw [Lib.byteCells_length]; exact hl) hB).mono ?_
  rintro e w' ⟨rfl, h1, h2⟩
  refine ⟨rfl, Or.inr ?_, h2⟩
  rw [Lib.byteCells_append]
  exact h1
theorem st_c (B : Nat) (p : List UInt8) (W : World) (h : isB W B p) (hB : B ≤ W.heap.size) :
    Calls Tryd.prog 22 #[.pointer (some ⟨B, 0, none⟩)] W fun e w' => e = .returned (.string ⟨p.toArray⟩) ∧ Below B W w' :=
  Tryd.Builder_String_any B B p W h hB
theorem rp_c (c : Nat) (W : World) (hc : c ≤ 9) :
    Calls Tryd.prog 21 #[.string ⟨#[48]⟩, .int .i64 c] W fun e w' => e = .returned (.string ⟨(List.replicate c (48 : UInt8)).toArray⟩) ∧ Below W.heap.size W w' := by
  refine (Tryd.strings_Repeat ⟨#[48]⟩ c W (by omega) (by show 1 * c ≤ _; omega)).mono ?_
  rintro e w' ⟨rfl, h⟩
  refine ⟨?_, h⟩
  have : Lib.repeatL [48] c = List.replicate c (48 : UInt8) := by
    obtain rfl | rfl | rfl | rfl | rfl | rfl | rfl | rfl | rfl | rfl : c = 0 ∨ c = 1 ∨ c = 2 ∨ c = 3 ∨ c = 4 ∨ c = 5 ∨ c = 6 ∨ c = 7 ∨ c = 8 ∨ c = 9 := by omega
    all_goals rfl
  exact congrArg (fun l : List UInt8 => Ending.returned (.string ⟨l.toArray⟩)) this
theorem rp_i (L : Nat) (W : World) (hc : L ≤ 9) :
    Calls Tryd.prog 21 #[.string ⟨#[48]⟩, .int .i64 (9 - (L : Int))] W fun e w' => e = .returned (.string ⟨(List.replicate (9 - L) (48 : UInt8)).toArray⟩) ∧ Below W.heap.size W w' := by
  rw [show (9 - (L : Int)) = ((9 - L : Nat) : Int) by omega]
  exact rp_c (9 - L) W (by omega)
theorem dd_len (x : Nat) (h : x < 1000000000) : 1 ≤ (Lib.decDigits x).length ∧ (Lib.decDigits x).length ≤ 9 := by
  rw [Lib.decDigits_length]
  refine ⟨Lib.nDigits_pos x, ?_⟩
  rcases Nat.lt_or_ge x 10 with h1 | h1
  · rw [Lib.nDigits_small h1]; omega
  rcases Nat.lt_or_ge x 100 with h2 | h2
  · rw [Lib.nDigits_unique 1 x (by omega) (by omega)]; omega
  rcases Nat.lt_or_ge x 1000 with h3 | h3
  · rw [Lib.nDigits_unique 2 x (by omega) (by omega)]; omega
  rcases Nat.lt_or_ge x 10000 with h4 | h4
  · rw [Lib.nDigits_unique 3 x (by omega) (by omega)]; omega
  rcases Nat.lt_or_ge x 100000 with h5 | h5
  · rw [Lib.nDigits_unique 4 x (by omega) (by omega)]; omega
  rcases Nat.lt_or_ge x 1000000 with h6 | h6
  · rw [Lib.nDigits_unique 5 x (by omega) (by omega)]; omega
  rcases Nat.lt_or_ge x 10000000 with h7 | h7
  · rw [Lib.nDigits_unique 6 x (by omega) (by omega)]; omega
  rcases Nat.lt_or_ge x 100000000 with h8 | h8
  · rw [Lib.nDigits_unique 7 x (by omega) (by omega)]; omega
  rcases Nat.lt_or_ge x 1000000000 with h9 | h9
  · rw [Lib.nDigits_unique 8 x (by omega) (by omega)]; omega
  omega
theorem tailD_len (x : Nat → Nat) (hx : ∀ k, x k < 1000000000) (n : Nat) : (tailD x n).length = 9 * n := by
  induction n with
  | zero => rfl
  | succ n ih =>
    have := dd_len (x n) (hx n)
    simp only [tailD, pad9, List.length_append, List.length_replicate, ih]; omega

set_option maxHeartbeats 3200000 in
set_option maxRecDepth 100000 in
theorem format_k0 (neg : Bool) (a : Option Addr) (cap : Nat) (w : World) :
    Calls Tryd.prog 6 #[.agg #[.bool neg, .slice a 0 cap]] w fun e w' => e = .returned (.string ⟨#[48]⟩) ∧ Below w.heap.size w w' := by
  go_enter Tryd.func6, Tryd.ntmps6
  go_wp2
  go_ret
  exact ⟨rfl, (Below.refl _ _).alloc (Nat.le_refl _) _⟩

set_option maxHeartbeats 3200000 in
set_option maxRecDepth 100000 in
theorem format_true (x : Nat → Nat) (n cap : Nat) (ad : Addr) (w : World) (htab : Lib.TabIs Tryd.prog w "internal/strconv.uint64pow10" .u64 Lib.pow10Tab)
    (hc : ∀ i, i ≤ n → w.cell? (ad.add i) = some (.int .u32 (x i))) (hx : ∀ i, i ≤ n → x i < 1000000000) (hl : n < 100000) :
    Calls Tryd.prog 6 #[.agg #[.bool true, .slice (some ad) (n + 1) cap]] w fun e w' => e = .returned (.string ⟨(fmtD true x n).toArray⟩) ∧ Below w.heap.size w w' := by
  have HC := Lib.hid hc
  have HX := Lib.hid hx
  have HT := Lib.hid (Lib.tabBelow_of_tabIs htab)
  clear hc hx htab
  have b0 : Below w.heap.size w (w.alloc (.cells #[.bool true, .slice (some ad) (n + 1) cap] 24)) := (Below.refl _ w).alloc (Nat.le_refl _) _
  have hbx1 : (w.alloc (.cells #[.bool true, .slice (some ad) (n + 1) cap] 24)).cell? ⟨w.heap.size, 1, none⟩ = some (.slice (some ad) (n + 1) cap) := by rw [World.cell?_alloc_new]; rfl
  have hnew : Lib.IsBuilder 46 5 (w.heap.size + 1) (w.heap.size + 1) (Lib.byteCells []) ((w.alloc (.cells #[.bool true, .slice (some ad) (n + 1) cap] 24)).alloc (.cells #[.pointer none, .slice none 0 0] 46)) := by
    have := Lib.fresh_isBuilder 46 5 (w.alloc (.cells #[.bool true, .slice (some ad) (n + 1) cap] 24))
    simpa [Lib.byteCells] using this
  have HNEW := Lib.hid hnew
  have HB1 := Lib.hid hbx1
  clear hnew hbx1
  have cWB := Any.Builder_WriteByte Tryd.lays167 Tryd.Builder_Extra_167 (w.heap.size + 1) (w.heap.size + 1) (Lib.byteCells []) 45 ((w.alloc (.cells #[.bool true, .slice (some ad) (n + 1) cap] 24)).alloc (.cells #[.pointer none, .slice none 0 0] 46)) HNEW.out (by decide) (by simp)
  go_enter Tryd.func6, Tryd.ntmps6
  go_upto_if 13 with fail
  go_cut [] (fun wx => Lib.IsBuilder 46 5 (w.heap.size + 1) (w.heap.size + 1) (Lib.byteCells (sgnD true)) wx ∧ Below (w.heap.size + 1) (w.alloc (.cells #[.bool true, .slice (some ad) (n + 1) cap] 24)) wx)
  case first =>
    go_wp2_with (go_at_call 18; go_fit cWB; rintro e W1 ⟨rfl, h1, b1⟩)
    go_meet
    exact ⟨Or.inr h1, ((Below.refl _ _).alloc (Nat.le_of_eq (by simp)) _).trans b1⟩
  case rest =>
    obtain ⟨hB, hb⟩ := hcut
    clear cWB
    have h1 : wc.cell? ⟨w.heap.size, 1, none⟩ = some (.slice (some ad) (n + 1) cap) := (hb.cell (Nat.lt_succ_self _)).trans HB1.out
    have hbw : Below w.heap.size w wc := b0.trans (hb.mono (Nat.le_succ _))
    have h2 : wc.cell? (ad.add n) = some (.int .u32 (x n)) := cell_later hbw (HC.out n (Nat.le_refl _))
    have hxn := HX.out n (Nat.le_refl _)
    have cF := fmtU_c (x n) (by omega) wc (HT.out wc hbw)
    go_wp2_with (go_at_call 20; go_fit cF; rintro e W2 ⟨rfl, b2⟩)
    have hB2 : isB W2 (w.heap.size + 1) (sgnD true) := isB.on hB b2
    have hdl := dd_len (x n) hxn
    have hsl : (sgnD true).length ≤ 1 := by decide
    have hz : w.heap.size + 1 ≤ wc.heap.size := by have := hb.size; simp at this; omega
    have cS := ws_c (w.heap.size + 1) (sgnD true) (Lib.decDigits (x n)) W2 hB2 (by omega) (Nat.le_trans hz b2.size)
    go_wp2_with (go_at_call 19; go_fit cS; rintro e W3 ⟨rfl, hB3, b3⟩)
    have hbw3 : Below (w.heap.size + 1) (w.alloc (.cells #[.bool true, .slice (some ad) (n + 1) cap] 24)) W3 := hb.trans ((b2.mono hz).trans b3)
    clear cF cS hB2 h1 h2 hbw hxn hB hb hz b2 b3
    go_loopg [5] n (fun g s5 wx => ∃ (z : Int) (p : List UInt8), s5 = .int .i64 z ∧ z = (g : Int) - 1 ∧ p.length ≤ 10 + 9 * (n - g) ∧ p ++ tailD x g = fmtD true x n ∧ isB wx (w.heap.size + 1) p ∧ Below (w.heap.size + 1) (w.alloc (.cells #[.bool true, .slice (some ad) (n + 1) cap] 24)) wx ∧ g ≤ n)
    case atStart =>
      exact ⟨(n : Int) + 1 - 2, _, rfl, by omega, by rw [List.length_append]; omega, rfl, hB3, hbw3, Nat.le_refl _⟩
    case round =>
      obtain ⟨z, p, rfl, hz, hp, hpt, hB, hb, hg⟩ := hrel
      have hzz : w.heap.size + 1 ≤ wr.heap.size := by have := hb.size; simp at this; omega
      have hbw : Below w.heap.size w wr := b0.trans (hb.mono (Nat.le_succ _))
      cases gk with
      | zero =>
        obtain rfl : z = -1 := by omega
        have cT := st_c (w.heap.size + 1) p wr hB hzz
        have HP := Lib.hid hpt
        clear hpt hz
        go_wp2_with (go_at_call 22; go_fit cT; rintro e W4 ⟨rfl, b4⟩)
        go_ret
        have := HP.out
        rw [show tailD x 0 = [] from rfl, List.append_nil] at this
        rw [this]
        exact ⟨rfl, hbw.trans (b4.mono (Nat.le_succ _))⟩
      | succ g =>
        obtain rfl : z = (g : Int) := by omega
        have h1 : wr.cell? ⟨w.heap.size, 1, none⟩ = some (.slice (some ad) (n + 1) cap) := (hb.cell (Nat.lt_succ_self _)).trans HB1.out
        have h2 : wr.cell? (ad.add g) = some (.int .u32 (x g)) := cell_later hbw (HC.out g (by omega))
        have hxn := HX.out g (by omega)
        have hdl := dd_len (x g) hxn
        have cF := fmtU_c (x g) (by omega) wr (HT.out wr hbw)
        have HP := Lib.hid hpt
        clear hpt hz
        have hgi : ((g : Int) < (n : Int) + 1) := by omega
        go_wp2_with (go_at_call 20; go_fit cF; rintro e W4 ⟨rfl, b4⟩)
        have cR := rp_i (Lib.decDigits (x g)).length W4 hdl.2
        go_wp2_with (go_at_call 21; go_fit cR; rintro e W5 ⟨rfl, b5⟩)
        have hz4 := Nat.le_trans hzz (Nat.le_trans b4.size b5.size)
        have cS := ws_c (w.heap.size + 1) p (List.replicate (9 - (Lib.decDigits (x g)).length) 48) W5 ((hB.on b4).on b5) (by rw [List.length_replicate]; omega) hz4
        rw [List.toArray_replicate] at cS
        go_wp2_with (go_at_call 19; go_fit cS; rintro e W6 ⟨rfl, hB6, b6⟩)
        have cS2 := ws_c (w.heap.size + 1) _ (Lib.decDigits (x g)) W6 hB6 (by rw [List.length_append, List.length_replicate]; omega) (Nat.le_trans hz4 b6.size)
        go_wp2_with (go_at_call 19; go_fit cS2; rintro e W7 ⟨rfl, hB7, b7⟩)
        go_roundg g
        case measure => omega
        case rel =>
          refine ⟨(g : Int) - 1, _, rfl, rfl, ?_, ?_, hB7, hb.trans ((b4.mono hzz).trans ((b5.mono (Nat.le_trans hzz b4.size)).trans (b6.trans b7))), by omega⟩
          · rw [List.length_append, List.length_append, List.length_replicate]; omega
          · rw [← HP.out]
            simp only [tailD, pad9, List.append_assoc]
set_option maxHeartbeats 3200000 in
set_option maxRecDepth 100000 in
theorem format_false (x : Nat → Nat) (n cap : Nat) (ad : Addr) (w : World) (htab : Lib.TabIs Tryd.prog w "internal/strconv.uint64pow10" .u64 Lib.pow10Tab)
    (hc : ∀ i, i ≤ n → w.cell? (ad.add i) = some (.int .u32 (x i))) (hx : ∀ i, i ≤ n → x i < 1000000000) (hl : n < 100000) :
    Calls Tryd.prog 6 #[.agg #[.bool false, .slice (some ad) (n + 1) cap]] w fun e w' => e = .returned (.string ⟨(fmtD false x n).toArray⟩) ∧ Below w.heap.size w w' := by
  have HC := Lib.hid hc
  have HX := Lib.hid hx
  have HT := Lib.hid (Lib.tabBelow_of_tabIs htab)
  clear hc hx htab
  have b0 : Below w.heap.size w (w.alloc (.cells #[.bool false, .slice (some ad) (n + 1) cap] 24)) := (Below.refl _ w).alloc (Nat.le_refl _) _
  have hbx1 : (w.alloc (.cells #[.bool false, .slice (some ad) (n + 1) cap] 24)).cell? ⟨w.heap.size, 1, none⟩ = some (.slice (some ad) (n + 1) cap) := by rw [World.cell?_alloc_new]; rfl
  have hnew : Lib.IsBuilder 46 5 (w.heap.size + 1) (w.heap.size + 1) (Lib.byteCells []) ((w.alloc (.cells #[.bool false, .slice (some ad) (n + 1) cap] 24)).alloc (.cells #[.pointer none, .slice none 0 0] 46)) := by
    have := Lib.fresh_isBuilder 46 5 (w.alloc (.cells #[.bool false, .slice (some ad) (n + 1) cap] 24))
    simpa [Lib.byteCells] using this
  have HNEW := Lib.hid hnew
  have HB1 := Lib.hid hbx1
  clear hnew hbx1
  have cWB := Any.Builder_WriteByte Tryd.lays167 Tryd.Builder_Extra_167 (w.heap.size + 1) (w.heap.size + 1) (Lib.byteCells []) 45 ((w.alloc (.cells #[.bool false, .slice (some ad) (n + 1) cap] 24)).alloc (.cells #[.pointer none, .slice none 0 0] 46)) HNEW.out (by decide) (by simp)
  go_enter Tryd.func6, Tryd.ntmps6
  go_upto_if 13 with fail
  go_cut [] (fun wx => Lib.IsBuilder 46 5 (w.heap.size + 1) (w.heap.size + 1) (Lib.byteCells (sgnD false)) wx ∧ Below (w.heap.size + 1) (w.alloc (.cells #[.bool false, .slice (some ad) (n + 1) cap] 24)) wx)
  case first =>
    go_wp2_with (go_at_call 18; go_fit cWB; rintro e W1 ⟨rfl, h1, b1⟩)
    go_meet
    exact ⟨HNEW.out, (Below.refl _ _).alloc (Nat.le_of_eq (by simp)) _⟩
  case rest =>
    obtain ⟨hB, hb⟩ := hcut
    clear cWB
    have h1 : wc.cell? ⟨w.heap.size, 1, none⟩ = some (.slice (some ad) (n + 1) cap) := (hb.cell (Nat.lt_succ_self _)).trans HB1.out
    have hbw : Below w.heap.size w wc := b0.trans (hb.mono (Nat.le_succ _))
    have h2 : wc.cell? (ad.add n) = some (.int .u32 (x n)) := cell_later hbw (HC.out n (Nat.le_refl _))
    have hxn := HX.out n (Nat.le_refl _)
    have cF := fmtU_c (x n) (by omega) wc (HT.out wc hbw)
    go_wp2_with (go_at_call 20; go_fit cF; rintro e W2 ⟨rfl, b2⟩)
    have hB2 : isB W2 (w.heap.size + 1) (sgnD false) := isB.on hB b2
    have hdl := dd_len (x n) hxn
    have hsl : (sgnD false).length ≤ 1 := by decide
    have hz : w.heap.size + 1 ≤ wc.heap.size := by have := hb.size; simp at this; omega
    have cS := ws_c (w.heap.size + 1) (sgnD false) (Lib.decDigits (x n)) W2 hB2 (by omega) (Nat.le_trans hz b2.size)
    go_wp2_with (go_at_call 19; go_fit cS; rintro e W3 ⟨rfl, hB3, b3⟩)
    have hbw3 : Below (w.heap.size + 1) (w.alloc (.cells #[.bool false, .slice (some ad) (n + 1) cap] 24)) W3 := hb.trans ((b2.mono hz).trans b3)
    clear cF cS hB2 h1 h2 hbw hxn hB hb hz b2 b3
    go_loopg [5] n (fun g s5 wx => ∃ (z : Int) (p : List UInt8), s5 = .int .i64 z ∧ z = (g : Int) - 1 ∧ p.length ≤ 10 + 9 * (n - g) ∧ p ++ tailD x g = fmtD false x n ∧ isB wx (w.heap.size + 1) p ∧ Below (w.heap.size + 1) (w.alloc (.cells #[.bool false, .slice (some ad) (n + 1) cap] 24)) wx ∧ g ≤ n)
    case atStart =>
      exact ⟨(n : Int) + 1 - 2, _, rfl, by omega, by rw [List.length_append]; omega, rfl, hB3, hbw3, Nat.le_refl _⟩
    case round =>
      obtain ⟨z, p, rfl, hz, hp, hpt, hB, hb, hg⟩ := hrel
      have hzz : w.heap.size + 1 ≤ wr.heap.size := by have := hb.size; simp at this; omega
      have hbw : Below w.heap.size w wr := b0.trans (hb.mono (Nat.le_succ _))
      cases gk with
      | zero =>
        obtain rfl : z = -1 := by omega
        have cT := st_c (w.heap.size + 1) p wr hB hzz
        have HP := Lib.hid hpt
        clear hpt hz
        go_wp2_with (go_at_call 22; go_fit cT; rintro e W4 ⟨rfl, b4⟩)
        go_ret
        have := HP.out
        rw [show tailD x 0 = [] from rfl, List.append_nil] at this
        rw [this]
        exact ⟨rfl, hbw.trans (b4.mono (Nat.le_succ _))⟩
      | succ g =>
        obtain rfl : z = (g : Int) := by omega
        have h1 : wr.cell? ⟨w.heap.size, 1, none⟩ = some (.slice (some ad) (n + 1) cap) := (hb.cell (Nat.lt_succ_self _)).trans HB1.out
        have h2 : wr.cell? (ad.add g) = some (.int .u32 (x g)) := cell_later hbw (HC.out g (by omega))
        have hxn := HX.out g (by omega)
        have hdl := dd_len (x g) hxn
        have cF := fmtU_c (x g) (by omega) wr (HT.out wr hbw)
        have HP := Lib.hid hpt
        clear hpt hz
        have hgi : ((g : Int) < (n : Int) + 1) := by omega
        go_wp2_with (go_at_call 20; go_fit cF; rintro e W4 ⟨rfl, b4⟩)
        have cR := rp_i (Lib.decDigits (x g)).length W4 hdl.2
        go_wp2_with (go_at_call 21; go_fit cR; rintro e W5 ⟨rfl, b5⟩)
        have hz4 := Nat.le_trans hzz (Nat.le_trans b4.size b5.size)
        have cS := ws_c (w.heap.size + 1) p (List.replicate (9 - (Lib.decDigits (x g)).length) 48) W5 ((hB.on b4).on b5) (by rw [List.length_replicate]; omega) hz4
        rw [List.toArray_replicate] at cS
        go_wp2_with (go_at_call 19; go_fit cS; rintro e W6 ⟨rfl, hB6, b6⟩)
        have cS2 := ws_c (w.heap.size + 1) _ (Lib.decDigits (x g)) W6 hB6 (by rw [List.length_append, List.length_replicate]; omega) (Nat.le_trans hz4 b6.size)
        go_wp2_with (go_at_call 19; go_fit cS2; rintro e W7 ⟨rfl, hB7, b7⟩)
        go_roundg g
        case measure => omega
        case rel =>
          refine ⟨(g : Int) - 1, _, rfl, rfl, ?_, ?_, hB7, hb.trans ((b4.mono hzz).trans ((b5.mono (Nat.le_trans hzz b4.size)).trans (b6.trans b7))), by omega⟩
          · rw [List.length_append, List.length_append, List.length_replicate]; omega
          · rw [← HP.out]
            simp only [tailD, pad9, List.append_assoc]
end Go.Proofs.YtfmebdmgnmogaaaDoor
