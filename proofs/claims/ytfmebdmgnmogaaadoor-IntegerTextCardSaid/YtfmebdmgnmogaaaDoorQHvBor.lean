/- A call that is handed a stretch of a block for writing. No statement of its own. -/
import Derived.Test.YtfmebdmgnmogaaaDoorQHvRun
namespace Go.Proofs.YtfmebdmgnmogaaaDoor.Hv
open Go Go.RowKit

variable {C : Ctx} {st : HS} {m : Mp} {a : Act} {w : World}

theorem ofL_one (b : HBlk) (id : Nat) : ofL [b] id = if id = 0 then b else {} := by
  cases id with
  | zero => rfl
  | succ id => rfl

def m0 (m : Mp) (id off : Nat) : Mp := fun k => if k = 0 then (m id).map fun p => (p.1, p.2 + off) else none
theorem m0_some {m : Mp} {id b o : Nat} (off : Nat) (h : m id = some (b, o)) : m0 m id off 0 = some (b, o + off) := by simp [m0, h]

theorem callB_sound (g : Good C st m a w) {f : FuncId} {args : List HV} {vs : List Value} {j id off n : Nat} {full : Bool} (hl : vs.length = args.length) (hr : ∀ (j : Nat) (x : HV) (v : Value), args[j]? = some x → vs[j]? = some v → R C st m w x v)
    (hj : args[j]? = some (.own id off n full)) (hok : ∀ x ∈ args.set j (.raw (.bool true)), okz st.hp x) (hlive : (st.hp id).live = true) (hwb : (st.hp id).wb = true)
    (hwin : off + n * (st.hp id).sz ≤ (st.hp id).cells.length) (hnot : id ∉ (args.set j (.raw (.bool true))).flatMap ids) (hflat : ∀ c ∈ (st.hp id).cells, c.flat = true) {x : HV} {cs : List HV}
    (hc : HCallsD C.P f [{ st.hp id with grow := false, cells := ((st.hp id).cells.drop off).take (n * (st.hp id).sz) }] (((args.set j (.raw (.bool true))).map (fzn st.hp)).set j (.own 0 0 n full)) x
      [{ ({ st.hp id with grow := false, cells := ((st.hp id).cells.drop off).take (n * (st.hp id).sz) } : HBlk) with cells := cs }])
    (hlen : cs.length = (((st.hp id).cells.drop off).take (n * (st.hp id).sz)).length) (hcf : ∀ c ∈ cs, c.flat = true) :
    Calls C.P f vs.toArray w fun e w' => ∃ v, e = .returned v ∧ Good C { st with hp := setAll st.hp (offs st.hp ((args.set j (.raw (.bool true))).flatMap ids) ++ [backB st.hp id off cs]) } m a w' ∧
      (x.flat = true → Rep w' (Xt C.Xo m (setAll st.hp (offs st.hp ((args.set j (.raw (.bool true))).flatMap ids) ++ [backB st.hp id off cs]))) m (setAll st.hp (offs st.hp ((args.set j (.raw (.bool true))).flatMap ids) ++ [backB st.hp id off cs])) x v) := by
  have hset : setAll st.hp (offs st.hp ((args.set j (.raw (.bool true))).flatMap ids) ++ [backB st.hp id off cs]) =
      upd (frz st.hp ((args.set j (.raw (.bool true))).flatMap ids)) id { st.hp id with cells := splice (st.hp id).cells off cs } := by
    have := frz_offs st.hp ((args.set j (.raw (.bool true))).flatMap ids)
    unfold setAll at this ⊢
    rw [List.foldl_append, this]
    rfl
  rw [hset]
  clear hset
  have gf := g.frz ((args.set j (.raw (.bool true))).flatMap ids)
  have hfz : ∀ y ∈ args.set j (.raw (.bool true)), ∀ q ∈ ids y, q ∈ (args.set j (.raw (.bool true))).flatMap ids := fun y hy q hq => List.mem_flatMap.2 ⟨y, hy, hq⟩
  generalize hL : (args.set j (.raw (.bool true))).flatMap ids = L at *
  have hid1 : frz st.hp L id = st.hp id := by unfold frz; rw [if_neg hnot]
  generalize hH1 : frz st.hp L = h1 at *
  have K := gf.heap
  simp only at K
  have hlive1 : (h1 id).live = true := by rw [hid1]; exact hlive
  have hwb1 : (h1 id).wb = true := by rw [hid1]; exact hwb
  generalize hB : ({ st.hp id with grow := false, cells := ((st.hp id).cells.drop off).take (n * (st.hp id).sz) } : HBlk) = B at *
  have Bl : B.live = true := by subst hB; exact hlive
  have Bw : B.wb = true := by subst hB; exact hwb
  have Bg : B.grow = false := by subst hB; rfl
  have Be : B.elem = (st.hp id).elem := by subst hB; rfl
  have Bs : B.sz = (st.hp id).sz := by subst hB; rfl
  have Ba : B.al = true := by subst hB; exact g.heap.alive id hlive
  have Bc : B.cells = ((st.hp id).cells.drop off).take (n * (st.hp id).sz) := by subst hB; rfl
  rw [← Bc] at hlen
  have Bn : B.cells.length = n * (st.hp id).sz := by rw [Bc]; simp; omega
  -- the window
  let Win : AP := fun p => ∃ b o, m id = some (b, o) ∧ p.block = b ∧ o + off ≤ p.off ∧ p.off < o + off + B.cells.length
  have WinX : ∀ p, Win p → Xid m h1 id p := fun p ⟨b, o, e1, e2, e3, e4⟩ => ⟨hlive1, b, o, e1, e2, .inl ⟨hwb1, by omega, by rw [hid1]; omega⟩⟩
  have XofB : ∀ (D : HBlk), D.live = true → D.wb = true → D.grow = false → D.cells.length = B.cells.length → ∀ (m' : Mp), m' 0 = m0 m id off 0 → ∀ p, (∃ q, Xid m' (ofL [D]) q p) ↔ Win p := by
    intro D d1 d2 d3 d4 m' hm' p
    constructor
    · rintro ⟨q, hq, b, o, e1, e2, hr⟩
      rw [ofL_one] at hq hr
      by_cases hq0 : q = 0
      · subst hq0
        simp only [if_true, d3, d4, Bool.false_eq_true, false_and, or_false] at hr
        rw [hm'] at e1
        simp only [m0, if_true, Option.map_eq_some_iff] at e1
        obtain ⟨⟨b', o'⟩, e3, e4⟩ := e1
        simp only [Prod.mk.injEq] at e4
        obtain ⟨rfl, rfl⟩ := e4
        exact ⟨b', o', e3, e2, hr.2.1, hr.2.2⟩
      · rw [if_neg hq0] at hq; cases hq
    · rintro ⟨b, o, e1, e2, e3, e4⟩
      refine ⟨0, by rw [ofL_one]; exact d1, b, o + off, by rw [hm']; exact m0_some off e1, e2, .inl ⟨by rw [ofL_one]; exact d2, e3, ?_⟩⟩
      rw [ofL_one, if_pos rfl, d4]; exact e4
  have XofB0 := XofB B Bl Bw Bg rfl (m0 m id off) rfl
  let X : AP := fun p => Xt C.Xo m h1 p ∧ ¬ Win p
  have XtLe : ∀ p, Xt X (m0 m id off) (ofL [B]) p → Xt C.Xo m h1 p := fun p h => by
    rcases h with h | h
    · exact h.1
    · exact .inr ⟨id, WinX p ((XofB0 p).1 h)⟩
  have hlt : ∀ p, X p → p.block < w.heap.size := fun p hp => by
    rcases hp.1 with h | ⟨q, h⟩
    · exact K.lt p h
    · exact Xid_lt K h
  have heapB : HeapOK w X (m0 m id off) (ofL [B]) := by
    refine ⟨fun q hq => ?_, fun q hq => ?_, fun q r bi oi oj hqr hq hr => ?_, fun q b o off' hq hm hrg => ?_, hlt⟩
    · rw [ofL_one] at hq ⊢
      by_cases h0 : q = 0
      · rw [if_pos h0]; exact Ba
      · rw [if_neg h0] at hq; cases hq
    · rw [ofL_one] at hq
      by_cases h0 : q = 0
      · subst h0
        rcases K.real id hlive1 with ⟨e1, e2⟩ | ⟨b, o, cs0, e1, e2, e3, e4⟩
        · refine .inl ⟨by simp [m0, e1], ?_⟩
          rw [ofL_one, if_pos rfl, Bc]
          rw [hid1] at e2
          rw [e2]; simp
        · refine .inr ⟨b, o + off, cs0, m0_some off e1, ?_, ?_, fun k y hy => ?_⟩
          · rw [ofL_one, if_pos rfl, Be, ← hid1]; exact e2
          · rw [ofL_one, if_pos rfl, Bn]; rw [hid1] at e3; omega
          · rw [ofL_one, if_pos rfl, Bc] at hy
            simp only [List.getElem?_take, List.getElem?_drop] at hy
            split at hy
            · rename_i hk
              have hy' : (h1 id).cells[off + k]? = some y := by rw [hid1]; exact hy
              obtain ⟨v, v1, v2, v3⟩ := e4 _ y hy'
              exact ⟨v, by rw [show o + off + k = o + (off + k) by omega]; exact v1, v2, flat_fz (v3.mono (fun p u hp hx => ⟨hp, fun h => hx (XtLe p h)⟩) (Shp.refl w) (HpLe.refl _ _)) (hflat y (List.mem_of_getElem? hy))⟩
            · cases hy
      · rw [if_neg h0] at hq; cases hq
    · rw [ofL_one] at hq hr
      by_cases h0 : q = 0
      · by_cases h1' : r = 0
        · omega
        · rw [if_neg h1'] at hr; cases hr
      · rw [if_neg h0] at hq; cases hq
    · rw [ofL_one] at hq
      by_cases h0 : q = 0
      · subst h0
        rw [ofL_one, if_pos rfl] at hrg
        simp only [Bg, Bool.false_eq_true, false_and, or_false] at hrg
        simp only [m0, if_true, Option.map_eq_some_iff] at hm
        obtain ⟨⟨b', o'⟩, e3, e4⟩ := hm
        simp only [Prod.mk.injEq] at e4
        obtain ⟨rfl, rfl⟩ := e4
        exact fun h => h.2 ⟨b', o', e3, rfl, hrg.1, hrg.2⟩
      · rw [if_neg h0] at hq; cases hq
  have hjl : j < args.length := (List.getElem?_eq_some_iff.1 hj).1
  have hG : GW w ∧ ∀ q p, Xid (m0 m id off) (ofL [B]) q p → ∀ v, ¬ gl p v := by
    refine ⟨gf.gw, fun q p h v hgl => ?_⟩
    have hw := (XofB0 p).1 ⟨q, h⟩
    rcases Nat.lt_or_ge id C.n0 with hid | hid
    · exact gf.g0.2 p v hgl (gf.win id p hid (WinX p hw))
    · obtain ⟨b, o, w1, w2, _, _⟩ := hw
      have h1 := gf.fresh id b o hid hlive1 w1
      have h2 : p.block < C.w0.heap.size := by rw [show p.block = gB from hgl]; exact gf.g0.1.lt
      omega
  refine (hc.2 X (m0 m id off) w vs (by simpa using hl) hlt heapB hG (fun k y v hy hv => ?_)).mono ?_
  · by_cases hkj : k = j
    · subst hkj
      rw [List.getElem?_set_self (by simpa using hjl)] at hy
      injection hy with hy; subst hy
      have r0 := hr k _ v hj hv
      cases r0 with
      | own _ _ _ _ ad c ha hc' hf hb =>
        refine .own 0 0 n full ad c (by rw [ofL_one]; exact Ba) hc' hf (fun h0 => ?_)
        obtain ⟨b, o, cs0, e, e1, e2, e3, e4⟩ := hb h0
        exact ⟨b, o + off, cs0, e, m0_some off e1, e2, e3, by rw [ofL_one, if_pos rfl, Bs]; exact e4⟩
    · rw [List.getElem?_set_ne (fun e => hkj e.symm)] at hy
      simp only [List.getElem?_map, Option.map_eq_some_iff] at hy
      obtain ⟨y', hy', rfl⟩ := hy
      have hmem := List.mem_of_getElem? hy'
      have hya : args[k]? = some y' := by rw [List.getElem?_set_ne (fun e => hkj e.symm)] at hy'; exact hy'
      have r0 := fz_rep g L (hr k y' v hya hv) (hok y' hmem) (hfz y' hmem) (m' := m0 m id off) (h' := ofL [B])
      rw [hH1] at r0
      exact (nf_rep r0).mono (fun p u hp hx => ⟨hp, fun h => hx (XtLe p h)⟩) (Shp.refl w) (HpLe.refl _ _)
  · rintro e w' ⟨v, m', he, hm', hheap, hrep, hch⟩
    have hm0 := hm' 0 (by simp)
    have hcell : ∀ p u, w.cell? p = some u → ¬ Win p → w'.cell? p = some u := fun p u hp hx => hch.cell p u hp (fun h => hx ((XofB0 p).1 h))
    have hblk : ∀ i, i < w.heap.size → (∀ o', ¬ Win ⟨i, o', none⟩) → w'.heap[i]? = w.heap[i]? := fun i hi hx => hch.blk i hi (fun o' h => hx o' ((XofB0 _).1 h))
    have XofB1 := XofB { B with cells := cs } Bl Bw Bg hlen m' hm0
    have hsl : (splice (st.hp id).cells off cs).length = (st.hp id).cells.length := splice_length _ _ _ (by rw [hlen, Bn]; exact hwin)
    have hXid : ∀ k p, Xid m (upd h1 id { st.hp id with cells := splice (st.hp id).cells off cs }) k p ↔ Xid m h1 k p := by
      intro k p
      by_cases hk : k = id
      · subst hk; unfold Xid; rw [upd_same]; simp only [hsl, hid1]
      · exact Xid_ext rfl (upd_ne _ _ hk)
    have hXt : ∀ p, Xt C.Xo m (upd h1 id { st.hp id with cells := splice (st.hp id).cells off cs }) p ↔ Xt C.Xo m h1 p := fun p =>
      ⟨fun h => h.imp (fun x => x) (fun ⟨k, h⟩ => ⟨k, (hXid k p).1 h⟩), fun h => h.imp (fun x => x) (fun ⟨k, h⟩ => ⟨k, (hXid k p).2 h⟩)⟩
    have hle : HpLe m m h1 (upd h1 id { st.hp id with cells := splice (st.hp id).cells off cs }) := fun k hk => by
      by_cases h : k = id
      · subst h; rw [upd_same, hid1]; rw [hid1] at hk; exact ⟨hk, rfl, rfl⟩
      · rw [upd_ne _ _ h]; exact ⟨hk, rfl, rfl⟩
    have hkeep : ∀ p u, w.cell? p = some u → ¬ Xt C.Xo m h1 p → w'.cell? p = some u := fun p u hp hx => hcell p u hp (fun h => hx (.inr ⟨id, WinX p h⟩))
    have hmono : ∀ {y u}, Rep w (Xt C.Xo m h1) m h1 y u → Rep w' (Xt C.Xo m (upd h1 id { st.hp id with cells := splice (st.hp id).cells off cs })) m (upd h1 id { st.hp id with cells := splice (st.hp id).cells off cs }) y u := fun r =>
      r.mono (fun p u hp hx => ⟨hkeep p u hp hx, fun h => hx ((hXt p).1 h)⟩) hch.shp hle
    have XtBack : ∀ p, Xt C.Xo m h1 p → Xt X m' (ofL [{ B with cells := cs }]) p := fun p hp => by
      by_cases hw : Win p
      · exact .inr ((XofB1 p).2 hw)
      · exact .inl ⟨hp, hw⟩
    have hback : ∀ {y : HV} {u : Value}, y.flat = true → Rep w' (Xt X m' (ofL [{ B with cells := cs }])) m' (ofL [{ B with cells := cs }]) y u →
        Rep w' (Xt C.Xo m (upd h1 id { st.hp id with cells := splice (st.hp id).cells off cs })) m (upd h1 id { st.hp id with cells := splice (st.hp id).cells off cs }) y u := fun hf r =>
      flat_fz (r.mono (fun p u hp hx => ⟨hp, fun h => hx (XtBack p ((hXt p).1 h))⟩) (Shp.refl _) (HpLe.refl _ _)) hf
    refine ⟨v, he, ?_, fun hf => hback hf hrep⟩
    have halone : ∀ k b ok o, k ≠ id → (h1 k).live = true → m id = some (b, o) → m k ≠ some (b, ok) := fun k b ok o hk hkl hmi hmk => by
      have := (K.sep id k b o ok (Ne.symm hk) hlive1 hkl hmi hmk).1
      rw [hwb1] at this; cases this
    have e : ∀ q, (upd h1 id { st.hp id with cells := splice (st.hp id).cells off cs } q).live = (h1 q).live ∧ (upd h1 id { st.hp id with cells := splice (st.hp id).cells off cs } q).wb = (h1 q).wb ∧
        (upd h1 id { st.hp id with cells := splice (st.hp id).cells off cs } q).grow = (h1 q).grow ∧ (upd h1 id { st.hp id with cells := splice (st.hp id).cells off cs } q).cells.length = (h1 q).cells.length ∧
        (upd h1 id { st.hp id with cells := splice (st.hp id).cells off cs } q).al = (h1 q).al ∧ (upd h1 id { st.hp id with cells := splice (st.hp id).cells off cs } q).elem = (h1 q).elem := fun q => by
      by_cases h : q = id
      · subst h; rw [upd_same, hid1]; exact ⟨rfl, rfl, rfl, hsl, rfl, rfl⟩
      · rw [upd_ne _ _ h]; exact ⟨rfl, rfl, rfl, rfl, rfl, rfl⟩
    refine gf.step (m' := m) (fun p u hp hx => ⟨hkeep p u hp hx, fun h => hx ((hXt p).1 h)⟩) hch.shp hle ⟨fun k hk => ?_, fun k hk => ?_, fun k q bi oi oj hkj hk hq mk mj => ?_, fun k b' o' off' hk hmk hr => ?_, fun p hp => Nat.lt_of_lt_of_le (K.lt p hp) hch.size⟩ ?_ (fun _ _ => rfl)
      (fun k b' o' hk hkl hmk => gf.fresh k b' o' hk (by rw [(e k).1] at hkl; exact hkl) hmk) (fun k p hk hx' => gf.win k p hk ((hXid k p).1 hx'))
    · rw [(e k).2.2.2.2.1]; rw [(e k).1] at hk; exact K.alive k hk
    · rw [(e k).1] at hk
      by_cases hki : k = id
      · subst hki
        rcases K.real k hlive1 with ⟨q1, q2⟩ | ⟨b, o, cs0, q1, q2, q3, q4⟩
        · refine .inl ⟨q1, ?_⟩
          have : (upd h1 k { st.hp k with cells := splice (st.hp k).cells off cs } k).cells.length = 0 := by rw [(e k).2.2.2.1, q2]; rfl
          exact List.eq_nil_of_length_eq_zero this
        · obtain ⟨cs1, r1, r2⟩ := hch.shp b cs0 _ _ q2
          refine .inr ⟨b, o, cs1, q1, by rw [(e k).2.2.2.2.2]; exact r1, by rw [(e k).2.2.2.1, r2]; exact q3, fun i y hy => ?_⟩
          rw [upd_same] at hy
          simp only at hy
          rw [splice_get _ _ _ (by rw [hlen, Bn]; exact hwin)] at hy
          by_cases c1 : off ≤ i ∧ i < off + cs.length
          · rw [if_neg (by omega), if_pos c1.2] at hy
            rcases hheap.real 0 (by rw [ofL_one]; exact Bl) with ⟨z1, _⟩ | ⟨b2, o2, cs2, z1, z2, z3, z4⟩
            · rw [hm0, m0_some off q1] at z1; cases z1
            · rw [hm0, m0_some off q1] at z1
              injection z1 with z1; injection z1 with z5 z6; subst z5 z6
              have : cs2 = cs1 := by rw [r1] at z2; injection z2 with z2; injection z2 with z7; exact z7.symm
              subst this
              obtain ⟨u, u1, u2, u3⟩ := z4 (i - off) y (by rw [ofL_one, if_pos rfl]; exact hy)
              exact ⟨u, by rw [show o + i = o + off + (i - off) by omega]; exact u1, u2, hback (hcf y (List.mem_of_getElem? hy)) u3⟩
          · have hy' : (h1 k).cells[i]? = some y := by
              rw [hid1]
              by_cases c2 : i < off
              · rw [if_pos c2] at hy; exact hy
              · rw [if_neg c2, if_neg (by omega)] at hy; exact hy
            obtain ⟨u, u1, u2, u3⟩ := q4 i y hy'
            refine ⟨u, ?_, u2, hmono u3⟩
            have hc' := hcell ⟨b, o + i, none⟩ u (by rw [cell_row q2]; exact u1) (fun ⟨b', o', w1, w2, w3, w4⟩ => by
              rw [q1] at w1; injection w1 with w1; injection w1 with w5 w6; subst w5 w6
              simp only at w3 w4
              omega)
            rw [cell_row r1] at hc'
            exact hc'
      · rw [upd_ne _ _ hki]
        rcases K.real k hk with q1 | ⟨b, o, cs0, q1, q2, q3, q4⟩
        · exact .inl q1
        · refine .inr ⟨b, o, cs0, q1, ?_, q3, fun i y hy => ?_⟩
          · rw [hblk b (Array.getElem?_eq_some_iff.1 q2).1 (fun o' ⟨b', o2, w1, w2, _, _⟩ => by
              simp only at w2; subst w2
              exact halone k b o o2 hki hk w1 q1)]
            exact q2
          · obtain ⟨u, u1, u2, u3⟩ := q4 i y hy
            exact ⟨u, u1, u2, hmono u3⟩
    · rw [(e k).1] at hk; rw [(e q).1] at hq
      rw [(e k).2.1, (e q).2.1, (e k).2.2.1, (e q).2.2.1, (e k).2.2.2.1, (e q).2.2.2.1]
      exact K.sep k q bi oi oj hkj hk hq mk mj
    · rw [(e k).1] at hk
      rw [(e k).2.2.1, (e k).2.2.2.1] at hr
      exact K.out k b' o' off' hk hmk hr
    · have c := gf.chg
      by_cases hid : id < C.n0
      · refine ⟨hch.os.trans c.os, hch.tape.trans c.tape, hch.output.trans c.output, Nat.le_trans c.size hch.size, c.shp.trans hch.shp, fun p u hp hx => ?_, fun i hi hx => ?_⟩
        · exact hcell p u (c.cell p u hp hx) (fun h => hx (gf.win id p hid (WinX p h)))
        · exact (hblk i (Nat.lt_of_lt_of_le hi c.size) (fun o' h => hx o' (gf.win id _ hid (WinX _ h)))).trans (c.blk i hi hx)
      · have hbig : ∀ p, Win p → C.w0.heap.size ≤ p.block := fun p ⟨b, o, w1, w2, _, _⟩ => by rw [w2]; exact gf.fresh id b o (by omega) hlive1 w1
        refine ⟨hch.os.trans c.os, hch.tape.trans c.tape, hch.output.trans c.output, Nat.le_trans c.size hch.size, c.shp.trans hch.shp, fun p u hp hx => ?_, fun i hi hx => ?_⟩
        · exact hcell p u (c.cell p u hp hx) (fun h => by have := hbig p h; have := World.block_lt_of_cell? _ _ hp; omega)
        · exact (hblk i (Nat.lt_of_lt_of_le hi c.size) (fun o' h => by have := hbig _ h; simp only at this; omega)).trans (c.blk i hi hx)

end Go.Proofs.YtfmebdmgnmogaaaDoor.Hv
