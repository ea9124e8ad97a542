/-
  The walk of ratoonref01's Reader.effect: an effect is read.
  Conditions: the reader stands within its bytes; they are at most 2 to the power 40.
-/
import Derived.Test.YtbhgaaendekghaaEfR0
import Derived.Test.YtbhgaaendekghaaEfQ
import Derived.Test.YtbhgaaendekghaaRqR
namespace Go.Proofs.Ytbhgaaendekghaa
open Go.RowKit

/-- What effect reads, and where the reader stands then: it goes on though it has failed. -/
def rEff (l : List UInt8) (pos : Nat) (f : Bool) : Ef × Nat × Bool :=
  (fOf (rI 5 l pos f).1 (rMsg l (rI 5 l pos f).2.1 (rI 5 l pos f).2.2).1 (rByt 1536 l (rMsg l (rI 5 l pos f).2.1 (rI 5 l pos f).2.2).2.1 (rMsg l (rI 5 l pos f).2.1 (rI 5 l pos f).2.2).2.2).1,
    (rByt 1536 l (rMsg l (rI 5 l pos f).2.1 (rI 5 l pos f).2.2).2.1 (rMsg l (rI 5 l pos f).2.1 (rI 5 l pos f).2.2).2.2).2)
theorem rEff_eq (l : List UInt8) (pos : Nat) (f : Bool) (zs : List Int) (q : Nat) (g : Bool) (m : M) (qm : Nat) (gm : Bool) (x : List UInt8) (q' : Nat) (g' : Bool) (h : rI 5 l pos f = (zs, q, g)) (hm : rMsg l q g = (m, qm, gm)) (hb : rByt 1536 l qm gm = (x, q', g')) :
    rEff l pos f = (fOf zs m x, q', g') := by
  unfold rEff
  rw [h]
  dsimp only
  rw [hm]
  dsimp only
  rw [hb]
theorem rMsg_fail (l : List UInt8) (pos : Nat) : (rMsg l pos true).2 = (pos, true) := by unfold rMsg; rw [if_pos rfl]
/-- It reads what decF reads. -/
theorem rEff_dec (l : List UInt8) (pos : Nat) : match decF (l.drop pos) with
    | some (x, n) => rEff l pos false = (x, pos + n, false)
    | none => (rEff l pos false).2.2 = true := by
  have hd := rI_dec 5 l pos
  obtain ⟨zs, q, g, h⟩ : ∃ zs q g, rI 5 l pos false = (zs, q, g) := ⟨_, _, _, rfl⟩
  obtain ⟨m, qm, gm, hm⟩ : ∃ m q' g', rMsg l q g = (m, q', g') := ⟨_, _, _, rfl⟩
  obtain ⟨x, q', g', hb⟩ : ∃ x q'' g'', rByt 1536 l qm gm = (x, q'', g'') := ⟨_, _, _, rfl⟩
  rw [rEff_eq l pos false _ _ _ _ _ _ _ _ _ h hm hb]
  have fail : gm = true → g' = true := fun e => by
    subst e
    rw [rByt_fail] at hb
    injection hb with _ hb
    injection hb with _ hb
    exact hb.symm
  have fail1 : g = true → g' = true := fun e => by
    subst e
    have := rMsg_fail l q
    rw [hm] at this
    injection this with _ h2
    exact fail h2
  unfold decF
  cases hr : decN 5 (l.drop pos) with
  | none =>
    rw [hr] at hd
    dsimp only at hd
    rw [h] at hd
    exact fail1 hd
  | some r =>
    obtain ⟨ys, k⟩ := r
    rw [hr] at hd
    dsimp only at hd
    rw [h] at hd
    injection hd with e1 e2
    injection e2 with e2 e3
    subst e1 e2 e3
    unfold rMsg at hm
    rw [if_neg (by simp), ← List.drop_drop] at hm
    dsimp only
    cases hM : decM ((l.drop pos).drop k) with
    | none =>
      rw [hM] at hm
      injection hm with _ hm
      injection hm with _ hm
      exact fail hm.symm
    | some r =>
      obtain ⟨m', j⟩ := r
      rw [hM] at hm
      injection hm with e1 e2
      injection e2 with e2 e3
      subst e1 e2 e3
      unfold rByt at hb
      rw [if_neg (by simp), Nat.add_assoc, ← List.drop_drop] at hb
      dsimp only
      cases hB : decB 1536 ((l.drop pos).drop (k + j)) with
      | none =>
        rw [hB] at hb
        injection hb with _ hb
        injection hb with _ hb
        exact hb.symm
      | some r =>
        obtain ⟨d, i⟩ := r
        rw [hB] at hb
        injection hb with e1 e2
        injection e2 with e2 e3
        subst e1 e2 e3
        dsimp only
        simp only [Nat.add_assoc]
theorem rEff_fail (l : List UInt8) (pos : Nat) : (rEff l pos true).2.2 = true := by
  obtain ⟨zs, q, g, h⟩ : ∃ zs q g, rI 5 l pos true = (zs, q, g) := ⟨_, _, _, rfl⟩
  have hf := rI_fail 5 l pos
  rw [h] at hf
  dsimp only at hf
  subst hf
  obtain ⟨m, qm, gm, hm⟩ : ∃ m q' g', rMsg l q true = (m, q', g') := ⟨_, _, _, rfl⟩
  have h2 := rMsg_fail l q
  rw [hm] at h2
  injection h2 with _ h2
  subst h2
  rw [rEff_eq l pos true _ _ _ _ _ _ _ _ _ h hm (rByt_fail 1536 l qm)]
theorem rEff_pos {l : List UInt8} {pos : Nat} (f : Bool) (hp : pos ≤ l.length) : (rEff l pos f).2.1 ≤ l.length := by
  have h0 : ∀ (n : Nat) (pos : Nat) (f : Bool), pos ≤ l.length → (rI n l pos f).2.1 ≤ l.length := by
    intro n
    induction n with
    | zero => intro pos f h; exact h
    | succ n ih => intro pos f h; exact ih _ _ (rInt_pos f h)
  exact rByt_pos _ (rMsg_pos _ (h0 5 pos f hp))

/-- What effect answers. -/
def RfEffPost (r : Ef × Nat × Bool) (p : Nat) (A : Option Addr) (c : Nat) (l : List UInt8) (w : World) (e : Ending) (w' : World) : Prop :=
  ∃ q : FR, q.x = r.1 ∧ e = .returned (.agg q.cells.toArray) ∧ FD w.heap.size w' q ∧ RF w' p A c l r.2.1 r.2.2 ∧ Only (One p) w w'

set_option maxRecDepth 100000 in
set_option maxHeartbeats 8000000 in
theorem rfEff_any (p : Nat) (A : Option Addr) (c : Nat) (l : List UInt8) (pos : Nat) (f : Bool) (w : World) (h : RF w p A c l pos f) (hp : pos ≤ l.length) (hl : l.length ≤ 1099511627776) (hc : c ≤ maxLen) :
    Calls Try.prog 58 #[.pointer (some ⟨p, 0, none⟩)] w (RfEffPost (rEff l pos f) p A c l w) := by
  have hpw := h.box.lt
  obtain ⟨z1, p1, f1, e1⟩ : ∃ z q g, rInt l pos f = (z, q, g) := ⟨_, _, _, rfl⟩
  have b1 : p1 ≤ l.length := by have := rInt_pos (l := l) (pos := pos) f hp; rw [e1] at this; exact this
  obtain ⟨z2, p2, f2, e2⟩ : ∃ z q g, rInt l p1 f1 = (z, q, g) := ⟨_, _, _, rfl⟩
  have b2 : p2 ≤ l.length := by have := rInt_pos (l := l) (pos := p1) f1 b1; rw [e2] at this; exact this
  obtain ⟨z3, p3, f3, e3⟩ : ∃ z q g, rInt l p2 f2 = (z, q, g) := ⟨_, _, _, rfl⟩
  have b3 : p3 ≤ l.length := by have := rInt_pos (l := l) (pos := p2) f2 b2; rw [e3] at this; exact this
  obtain ⟨z4, p4, f4, e4⟩ : ∃ z q g, rInt l p3 f3 = (z, q, g) := ⟨_, _, _, rfl⟩
  have b4 : p4 ≤ l.length := by have := rInt_pos (l := l) (pos := p3) f3 b3; rw [e4] at this; exact this
  obtain ⟨z5, p5, f5, e5⟩ : ∃ z q g, rInt l p4 f4 = (z, q, g) := ⟨_, _, _, rfl⟩
  have b5 : p5 ≤ l.length := by have := rInt_pos (l := l) (pos := p4) f4 b4; rw [e5] at this; exact this
  obtain ⟨⟨src, dst, mk, seq, m0, m1, m2, m3, md⟩, pm, fm, em⟩ : ∃ m q g, rMsg l p5 f5 = (m, q, g) := ⟨_, _, _, rfl⟩
  have bm : pm ≤ l.length := by have := rMsg_pos (l := l) (pos := p5) f5 b5; rw [em] at this; exact this
  obtain ⟨x, pb, fb, eb⟩ : ∃ z q g, rByt 1536 l pm fm = (z, q, g) := ⟨_, _, _, rfl⟩
  have h5 : rI 5 l pos f = ([z1, z2, z3, z4, z5], p5, f5) := by
    unfold rI rI rI rI rI rI
    simp only [e1, e2, e3, e4, e5]
  have hM := rEff_eq l pos f _ _ _ _ _ _ _ _ _ h5 em eb
  rw [hM]
  have HEM := Lib.hid em
  have HBM := Lib.hid bm
  have HEB := Lib.hid eb
  have HE1 := Lib.hid e1
  have HB1 := Lib.hid b1
  have HE2 := Lib.hid e2
  have HB2 := Lib.hid b2
  have HE3 := Lib.hid e3
  have HB3 := Lib.hid b3
  have HE4 := Lib.hid e4
  have HB4 := Lib.hid b4
  have HE5 := Lib.hid e5
  have HB5 := Lib.hid b5
  have HL := Lib.hid hl
  have HC := Lib.hid hc
  have HPW := Lib.hid hpw
  obtain ⟨w0, hw0⟩ : ∃ w0, w.alloc (.cells zFR.cells.toArray 58) = w0 := ⟨_, rfl⟩
  have hO0 : Only Nil w w0 := by rw [← hw0]; exact (Only.refl _ _).alloc _
  have hg0 : Blk w0 w.heap.size 58 zFR.cells.toArray := by rw [← hw0]; exact Blk.new _ _ _
  have HO0 := Lib.hid hO0
  have HG0 := Lib.hid hg0
  have HC1 := Lib.hid (rfInt_any p A c l pos f w0 (h.onlyNil hO0) hp hl)
  rw [e1] at HC1
  have hw0 : w.alloc (.cells #[Value.int .i64 0, .int .i64 0, .int .i64 0, .int .i64 0, .int .i64 0, .int .i64 0, .int .i64 0, .int .i64 0, .int .i64 0, .int .i64 0, .int .i64 0, .int .i64 0, .int .i64 0, .slice none 0 0, .slice none 0 0] 58) = w0 := hw0
  clear h hp hl hc hpw hO0 hg0 em bm eb h5 hM e1 e2 e3 e4 e5 b1 b2 b3 b4 b5
  go_enter Try.func58, Try.ntmps58
  go_wp2_with fail
  try rw [hw0]
  clear hw0
  refine HC1.out.mono ?_
  clear HC1
  rintro e w1 ⟨rfl, hR1, hO1⟩
  have HR1 := Lib.hid hR1
  have HN1 := Lib.hid hO1.size
  have HG1 := Lib.hid (HG0.out.only hO1 (fun hx => by have := HPW.out; unfold One at hx; omega))
  have HO1 : Hid (Only (One p) w w1) := Lib.hid ((HO0.out.any).then_ hO1)
  clear hR1 hO1
  obtain ⟨g4, hg4⟩ : ∃ g4, g4 = w1.heap.size := ⟨_, rfl⟩
  obtain ⟨w2, hw2⟩ : ∃ w2, w2 = w1.alloc (.cells #[Value.int .i64 z1, .int .i64 0, .int .i64 0, .int .i64 0, .int .i64 0, .int .i64 0, .int .i64 0, .int .i64 0, .int .i64 0, .int .i64 0, .int .i64 0, .int .i64 0, .int .i64 0, .slice none 0 0, .slice none 0 0] 58) := ⟨_, rfl⟩
  have hO2 : Only Nil w1 w2 := by rw [hw2]; exact (Only.refl _ _).alloc _
  have hm2 : Blk w2 g4 58 (⟨none, 0, none, 0, ⟨z1, 0, 0, 0, 0, zM, []⟩⟩ : FR).cells.toArray := by rw [hw2, hg4]; exact Blk.new _ _ _
  have hgp : p < g4 := by have := HR1.out.box.lt; omega
  have hgw : w.heap.size < g4 := by have := HG0.out.lt; have := HO0.out.size; have := HN1.out; omega
  have HGP := Lib.hid hgp
  have HGW := Lib.hid hgw
  have HR2 := Lib.hid (HR1.out.onlyNil hO2)
  have HG2 := Lib.hid (HG1.out.onlyNil hO2)
  have HM2 := Lib.hid hm2
  have HO2 := Lib.hid (HO1.out.thenNil hO2)
  have HGG := Lib.hid hg4
  have HW2 := Lib.hid hw2
  clear hO2 hm2 hgp hgw hg4 hw2
  go_wp2_with fail
  rw [← HGG.out, ← HW2.out]
  clear HGG HW2
  refine wp_loop_rounds 5 ?_
  rw [rounds_succ]
  have HC2 := Lib.hid (rfInt_any p A c l p1 f1 w2 HR2.out HB1.out HL.out)
  rw [HE2.out] at HC2
  go_wp2_with fail
  refine HC2.out.mono ?_
  clear HC2
  rintro e u2 ⟨rfl, hR, hO⟩
  have hm := HM2.out.only hO (fun hx => by have := HGP.out; unfold One at hx; omega)
  have km : ∀ i, u2.cell? ⟨g4, i, none⟩ = #[Value.int .i64 z1, .int .i64 0, .int .i64 0, .int .i64 0, .int .i64 0, .int .i64 0, .int .i64 0, .int .i64 0, .int .i64 0, .int .i64 0, .int .i64 0, .int .i64 0, .int .i64 0, .slice none 0 0, .slice none 0 0][i]? := fun i => hm.cell i
  have fz : ∀ i, u2.frozen? ⟨g4, i, none⟩ = false := fun i => hm.frozen i
  obtain ⟨w3, hw⟩ : ∃ v, u2.setCell ⟨g4, 1, none⟩ (.int .i64 z2) = v := ⟨_, rfl⟩
  have hS : Only (One g4) u2 w3 := by rw [← hw]; (repeat' (first | with_reducible exact Only.refl _ _ | with_reducible refine Only.setCell ?_ (Or.inl ?_) _ | with_reducible refine Only.drewN ?_ _ | with_reducible refine Only.drew ?_ | with_reducible refine Only.alloc ?_ _ | (exact rfl)))
  have hm2 : Blk w3 g4 58 (⟨none, 0, none, 0, ⟨z1, z2, 0, 0, 0, zM, []⟩⟩ : FR).cells.toArray := by
    rw [← hw]
    have := hm.set_ 1 (.int .i64 z2)
    simpa [FR.cells, mcells] using this
  have HR3 := Lib.hid (hR.far hm (fr_no _) (by have := HGP.out; omega) hS)
  have HM3 := Lib.hid hm2
  have HG3 := Lib.hid ((HG2.out.only hO (fun hx => by have := HPW.out; unfold One at hx; omega)).only hS (fun hx => by have := HGW.out; unfold One at hx; omega))
  have HO3 := Lib.hid ((HO2.out.then_ hO).trans hS (fun x hx => .inr (by have := HGW.out; unfold One at hx; omega)))
  clear hR hO hm hS hm2
  go_wp2_with fail
  clear hw km fz
  rw [rounds_succ]
  have HC3 := Lib.hid (rfInt_any p A c l p2 f2 w3 HR3.out HB2.out HL.out)
  rw [HE3.out] at HC3
  go_wp2_with fail
  refine HC3.out.mono ?_
  clear HC3
  rintro e u3 ⟨rfl, hR, hO⟩
  have hm := HM3.out.only hO (fun hx => by have := HGP.out; unfold One at hx; omega)
  have km : ∀ i, u3.cell? ⟨g4, i, none⟩ = #[Value.int .i64 z1, .int .i64 z2, .int .i64 0, .int .i64 0, .int .i64 0, .int .i64 0, .int .i64 0, .int .i64 0, .int .i64 0, .int .i64 0, .int .i64 0, .int .i64 0, .int .i64 0, .slice none 0 0, .slice none 0 0][i]? := fun i => hm.cell i
  have fz : ∀ i, u3.frozen? ⟨g4, i, none⟩ = false := fun i => hm.frozen i
  obtain ⟨w4, hw⟩ : ∃ v, u3.setCell ⟨g4, 2, none⟩ (.int .i64 z3) = v := ⟨_, rfl⟩
  have hS : Only (One g4) u3 w4 := by rw [← hw]; (repeat' (first | with_reducible exact Only.refl _ _ | with_reducible refine Only.setCell ?_ (Or.inl ?_) _ | with_reducible refine Only.drewN ?_ _ | with_reducible refine Only.drew ?_ | with_reducible refine Only.alloc ?_ _ | (exact rfl)))
  have hm2 : Blk w4 g4 58 (⟨none, 0, none, 0, ⟨z1, z2, z3, 0, 0, zM, []⟩⟩ : FR).cells.toArray := by
    rw [← hw]
    have := hm.set_ 2 (.int .i64 z3)
    simpa [FR.cells, mcells] using this
  have HR4 := Lib.hid (hR.far hm (fr_no _) (by have := HGP.out; omega) hS)
  have HM4 := Lib.hid hm2
  have HG4 := Lib.hid ((HG3.out.only hO (fun hx => by have := HPW.out; unfold One at hx; omega)).only hS (fun hx => by have := HGW.out; unfold One at hx; omega))
  have HO4 := Lib.hid ((HO3.out.then_ hO).trans hS (fun x hx => .inr (by have := HGW.out; unfold One at hx; omega)))
  clear hR hO hm hS hm2
  go_wp2_with fail
  clear hw km fz
  rw [rounds_succ]
  have HC4 := Lib.hid (rfInt_any p A c l p3 f3 w4 HR4.out HB3.out HL.out)
  rw [HE4.out] at HC4
  go_wp2_with fail
  refine HC4.out.mono ?_
  clear HC4
  rintro e u4 ⟨rfl, hR, hO⟩
  have hm := HM4.out.only hO (fun hx => by have := HGP.out; unfold One at hx; omega)
  have km : ∀ i, u4.cell? ⟨g4, i, none⟩ = #[Value.int .i64 z1, .int .i64 z2, .int .i64 z3, .int .i64 0, .int .i64 0, .int .i64 0, .int .i64 0, .int .i64 0, .int .i64 0, .int .i64 0, .int .i64 0, .int .i64 0, .int .i64 0, .slice none 0 0, .slice none 0 0][i]? := fun i => hm.cell i
  have fz : ∀ i, u4.frozen? ⟨g4, i, none⟩ = false := fun i => hm.frozen i
  obtain ⟨w5, hw⟩ : ∃ v, u4.setCell ⟨g4, 3, none⟩ (.int .i64 z4) = v := ⟨_, rfl⟩
  have hS : Only (One g4) u4 w5 := by rw [← hw]; (repeat' (first | with_reducible exact Only.refl _ _ | with_reducible refine Only.setCell ?_ (Or.inl ?_) _ | with_reducible refine Only.drewN ?_ _ | with_reducible refine Only.drew ?_ | with_reducible refine Only.alloc ?_ _ | (exact rfl)))
  have hm2 : Blk w5 g4 58 (⟨none, 0, none, 0, ⟨z1, z2, z3, z4, 0, zM, []⟩⟩ : FR).cells.toArray := by
    rw [← hw]
    have := hm.set_ 3 (.int .i64 z4)
    simpa [FR.cells, mcells] using this
  have HR5 := Lib.hid (hR.far hm (fr_no _) (by have := HGP.out; omega) hS)
  have HM5 := Lib.hid hm2
  have HG5 := Lib.hid ((HG4.out.only hO (fun hx => by have := HPW.out; unfold One at hx; omega)).only hS (fun hx => by have := HGW.out; unfold One at hx; omega))
  have HO5 := Lib.hid ((HO4.out.then_ hO).trans hS (fun x hx => .inr (by have := HGW.out; unfold One at hx; omega)))
  clear hR hO hm hS hm2
  go_wp2_with fail
  clear hw km fz
  rw [rounds_succ]
  have HC5 := Lib.hid (rfInt_any p A c l p4 f4 w5 HR5.out HB4.out HL.out)
  rw [HE5.out] at HC5
  go_wp2_with fail
  refine HC5.out.mono ?_
  clear HC5
  rintro e u5 ⟨rfl, hR, hO⟩
  have hm := HM5.out.only hO (fun hx => by have := HGP.out; unfold One at hx; omega)
  have km : ∀ i, u5.cell? ⟨g4, i, none⟩ = #[Value.int .i64 z1, .int .i64 z2, .int .i64 z3, .int .i64 z4, .int .i64 0, .int .i64 0, .int .i64 0, .int .i64 0, .int .i64 0, .int .i64 0, .int .i64 0, .int .i64 0, .int .i64 0, .slice none 0 0, .slice none 0 0][i]? := fun i => hm.cell i
  have fz : ∀ i, u5.frozen? ⟨g4, i, none⟩ = false := fun i => hm.frozen i
  obtain ⟨w6, hw⟩ : ∃ v, u5.setCell ⟨g4, 4, none⟩ (.int .i64 z5) = v := ⟨_, rfl⟩
  have hS : Only (One g4) u5 w6 := by rw [← hw]; (repeat' (first | with_reducible exact Only.refl _ _ | with_reducible refine Only.setCell ?_ (Or.inl ?_) _ | with_reducible refine Only.drewN ?_ _ | with_reducible refine Only.drew ?_ | with_reducible refine Only.alloc ?_ _ | (exact rfl)))
  have hm2 : Blk w6 g4 58 (⟨none, 0, none, 0, ⟨z1, z2, z3, z4, z5, zM, []⟩⟩ : FR).cells.toArray := by
    rw [← hw]
    have := hm.set_ 4 (.int .i64 z5)
    simpa [FR.cells, mcells] using this
  have HR6 := Lib.hid (hR.far hm (fr_no _) (by have := HGP.out; omega) hS)
  have HM6 := Lib.hid hm2
  have HG6 := Lib.hid ((HG5.out.only hO (fun hx => by have := HPW.out; unfold One at hx; omega)).only hS (fun hx => by have := HGW.out; unfold One at hx; omega))
  have HO6 := Lib.hid ((HO5.out.then_ hO).trans hS (fun x hx => .inr (by have := HGW.out; unfold One at hx; omega)))
  clear hR hO hm hS hm2
  go_wp2_with fail
  clear hw km fz
  rw [rounds_succ]
  have HCM := Lib.hid (rfMsg_any p A c l p5 f5 w6 HR6.out HB5.out HL.out HC.out)
  rw [HEM.out] at HCM
  go_wp2_with fail
  with_reducible refine HCM.out.mono ?_
  clear HCM
  rintro e u6 ⟨Am, cm, rfl, hcm, hownm, hR, hO⟩
  dsimp only at hcm hownm hR
  have hm := HM6.out.only hO (fun hx => by have := HGP.out; unfold One at hx; omega)
  have km : ∀ i, u6.cell? ⟨g4, i, none⟩ = #[Value.int .i64 z1, .int .i64 z2, .int .i64 z3, .int .i64 z4, .int .i64 z5, .int .i64 0, .int .i64 0, .int .i64 0, .int .i64 0, .int .i64 0, .int .i64 0, .int .i64 0, .int .i64 0, .slice none 0 0, .slice none 0 0][i]? := fun i => hm.cell i
  have fz : ∀ i, u6.frozen? ⟨g4, i, none⟩ = false := fun i => hm.frozen i
  obtain ⟨w7, hw7⟩ : ∃ v, v = setFM u6 g4 Am cm ⟨src, dst, mk, seq, m0, m1, m2, m3, md⟩ := ⟨_, rfl⟩
  have hS : Only (One g4) u6 w7 := by rw [hw7]; exact setFM_only _ _ _ _ _
  have hm2 : Blk w7 g4 58 (⟨Am, cm, none, 0, ⟨z1, z2, z3, z4, z5, ⟨src, dst, mk, seq, m0, m1, m2, m3, md⟩, []⟩⟩ : FR).cells.toArray := by rw [hw7]; exact setFM_blk hm Am cm ⟨src, dst, mk, seq, m0, m1, m2, m3, md⟩
  have HR7 := Lib.hid (hR.far hm (fr_no _) (by have := HGP.out; omega) hS)
  have HG7 := Lib.hid ((HG6.out.only hO (fun hx => by have := HPW.out; unfold One at hx; omega)).only hS (fun hx => by have := HGW.out; unfold One at hx; omega))
  have HWM7 := Lib.hid (own_only hownm hS (fun q hq hx => own_blk_ne hownm hm (by decide) (by rw [hq, hx])))
  have HQ6 : Hid (w.heap.size ≤ w6.heap.size) := Lib.hid (by have := HGW.out; have := HM6.out.lt; omega)
  have HO7 := Lib.hid ((HO6.out.then_ hO).trans hS (fun x hx => .inr (by have := HGW.out; unfold One at hx; omega)))
  have HCM := Lib.hid hcm
  have HM7 := Lib.hid hm2
  unfold setFM at hw7
  dsimp only at hw7
  have HW7 : Hid (w7 = (((((((((u6.setCell ⟨g4, 5, none⟩ (.int .i64 src)).setCell ⟨g4, 6, none⟩ (.int .i64 dst)).setCell ⟨g4, 7, none⟩ (.int .i64 mk)).setCell ⟨g4, 8, none⟩ (.int .i64 seq)).setCell ⟨g4, 9, none⟩ (.int .i64 m0)).setCell ⟨g4, 10, none⟩ (.int .i64 m1)).setCell ⟨g4, 11, none⟩ (.int .i64 m2)).setCell ⟨g4, 12, none⟩ (.int .i64 m3)).setCell ⟨g4, 13, none⟩ (.slice Am md.length cm))) := Lib.hid hw7
  clear hR hO hm hS hm2 hcm hownm hw7
  unfold mcells
  dsimp only
  go_upto_region 7 with fail
  rw [← HW7.out]
  clear HW7 km fz
  have HCB := Lib.hid (rfByt_any 1536 p A c l pm fm w7 HR7.out HBM.out HL.out HC.out)
  rw [HEB.out] at HCB
  go_wp2_with fail
  with_reducible refine HCB.out.mono ?_
  clear HCB
  rintro e u7 ⟨Ad, cd, rfl, hcd, hownd, hR, hO⟩
  dsimp only at hcd hownd hR ⊢
  have hm := HM7.out.only hO (fun hx => by have := HGP.out; unfold One at hx; omega)
  obtain ⟨w8, hw8⟩ : ∃ v, v = u7.setCell ⟨g4, 14, none⟩ (.slice Ad x.length cd) := ⟨_, rfl⟩
  have hS : Only (One g4) u7 w8 := by rw [hw8]; (repeat' (first | with_reducible exact Only.refl _ _ | with_reducible refine Only.setCell ?_ (Or.inl ?_) _ | with_reducible refine Only.drewN ?_ _ | with_reducible refine Only.drew ?_ | with_reducible refine Only.alloc ?_ _ | (exact rfl)))
  have hm2 : Blk w8 g4 58 (⟨Am, cm, Ad, cd, ⟨z1, z2, z3, z4, z5, ⟨src, dst, mk, seq, m0, m1, m2, m3, md⟩, x⟩⟩ : FR).cells.toArray := by
    rw [hw8]
    have := hm.set_ 14 (.slice Ad x.length cd)
    simpa [FR.cells, mcells] using this
  have hownm := own_only HWM7.out hO (fun q hq hx => own_blk_ne HWM7.out HR7.out.box (by decide) (by rw [hq, hx]))
  have HR8 := Lib.hid (hR.far hm (fr_no _) (by have := HGP.out; omega) hS)
  have HG8 := Lib.hid ((HG7.out.only hO (fun hx => by have := HPW.out; unfold One at hx; omega)).only hS (fun hx => by have := HGW.out; unfold One at hx; omega))
  have HWM8 := Lib.hid (own_only hownm hS (fun q hq hx => own_blk_ne hownm hm (by decide) (by rw [hq, hx])))
  have HWD8 := Lib.hid (own_only hownd hS (fun q hq hx => own_blk_ne hownd hm (by decide) (by rw [hq, hx])))
  have HQ7 : Hid (w.heap.size ≤ w7.heap.size) := Lib.hid (by have := HGW.out; have := HM7.out.lt; omega)
  have HO8 := Lib.hid ((HO7.out.then_ hO).trans hS (fun x hx => .inr (by have := HGW.out; unfold One at hx; omega)))
  have HM8 := Lib.hid hm2
  have HCD := Lib.hid hcd
  have km : ∀ i, u7.cell? ⟨g4, i, none⟩ = #[Value.int .i64 z1, .int .i64 z2, .int .i64 z3, .int .i64 z4, .int .i64 z5, .int .i64 src, .int .i64 dst, .int .i64 mk, .int .i64 seq, .int .i64 m0, .int .i64 m1, .int .i64 m2, .int .i64 m3, .slice Am md.length cm, .slice none 0 0][i]? := fun i => hm.cell i
  have fz : ∀ i, u7.frozen? ⟨g4, i, none⟩ = false := fun i => hm.frozen i
  have HW8 := Lib.hid hw8
  clear hR hO hm hS hm2 hcd hownm hownd hw8
  go_upto_region 8 with fail
  rw [← HW8.out]
  clear HW8 km fz
  have n3 : g4 ≠ w.heap.size := by have := HGW.out; omega
  have n4 : w.heap.size ≠ g4 := by have := HGW.out; omega
  have km : ∀ i, w8.cell? ⟨g4, i, none⟩ = #[Value.int .i64 z1, .int .i64 z2, .int .i64 z3, .int .i64 z4, .int .i64 z5, .int .i64 src, .int .i64 dst, .int .i64 mk, .int .i64 seq, .int .i64 m0, .int .i64 m1, .int .i64 m2, .int .i64 m3, .slice Am md.length cm, .slice Ad x.length cd][i]? := fun i => HM8.out.cell i
  have kg : ∀ i, w8.cell? ⟨w.heap.size, i, none⟩ = #[Value.int .i64 0, .int .i64 0, .int .i64 0, .int .i64 0, .int .i64 0, .int .i64 0, .int .i64 0, .int .i64 0, .int .i64 0, .int .i64 0, .int .i64 0, .int .i64 0, .int .i64 0, .slice none 0 0, .slice none 0 0][i]? := fun i => HG8.out.cell i
  have fg : ∀ i, w8.frozen? ⟨w.heap.size, i, none⟩ = false := fun i => HG8.out.frozen i
  have n1 : p ≠ w.heap.size := by have := HPW.out; omega
  have hfin : RfEffPost (fOf [z1, z2, z3, z4, z5] ⟨src, dst, mk, seq, m0, m1, m2, m3, md⟩ x, pb, fb) p A c l w (.returned (.agg (⟨Am, cm, Ad, cd, ⟨z1, z2, z3, z4, z5, ⟨src, dst, mk, seq, m0, m1, m2, m3, md⟩, x⟩⟩ : FR).cells.toArray)) (setF w8 w.heap.size (⟨Am, cm, Ad, cd, ⟨z1, z2, z3, z4, z5, ⟨src, dst, mk, seq, m0, m1, m2, m3, md⟩, x⟩⟩ : FR)) := by
    have hS := setF_only w8 w.heap.size (⟨Am, cm, Ad, cd, ⟨z1, z2, z3, z4, z5, ⟨src, dst, mk, seq, m0, m1, m2, m3, md⟩, x⟩⟩ : FR)
    refine ⟨(⟨Am, cm, Ad, cd, ⟨z1, z2, z3, z4, z5, ⟨src, dst, mk, seq, m0, m1, m2, m3, md⟩, x⟩⟩ : FR), rfl, rfl, ⟨HCM.out, ?_, HCD.out, ?_⟩, HR8.out.far HG8.out (fr_no _) n1 hS, HO8.out.trans hS (fun x hx => .inr (by unfold One at hx; omega))⟩
    · exact own_base (own_only HWM8.out hS (fun q hq hx => own_blk_ne HWM8.out HG8.out (by decide) (by rw [hq, hx]))) HQ6.out
    · exact own_base (own_only HWD8.out hS (fun q hq hx => own_blk_ne HWD8.out HG8.out (by decide) (by rw [hq, hx]))) HQ7.out
  have hb9 := setF_blk HG8.out rfl (⟨Am, cm, Ad, cd, ⟨z1, z2, z3, z4, z5, ⟨src, dst, mk, seq, m0, m1, m2, m3, md⟩, x⟩⟩ : FR)
  obtain ⟨w9, hw9⟩ : ∃ w9, w9 = setF w8 w.heap.size (⟨Am, cm, Ad, cd, ⟨z1, z2, z3, z4, z5, ⟨src, dst, mk, seq, m0, m1, m2, m3, md⟩, x⟩⟩ : FR) := ⟨_, rfl⟩
  rw [← hw9] at hb9 hfin
  have k9 : ∀ i, w9.cell? ⟨w.heap.size, i, none⟩ = #[Value.int .i64 z1, .int .i64 z2, .int .i64 z3, .int .i64 z4, .int .i64 z5, .int .i64 src, .int .i64 dst, .int .i64 mk, .int .i64 seq, .int .i64 m0, .int .i64 m1, .int .i64 m2, .int .i64 m3, .slice Am md.length cm, .slice Ad x.length cd][i]? := fun i => hb9.cell i
  have HF := Lib.hid hfin
  unfold setF at hw9
  dsimp only at hw9
  have HW9 := Lib.hid hw9
  clear hfin hb9 hw9
  go_wp2_with fail
  rw [← HW9.out]
  refine bodyPost_ret (v := .agg #[Value.int .i64 z1, .int .i64 z2, .int .i64 z3, .int .i64 z4, .int .i64 z5, .int .i64 src, .int .i64 dst, .int .i64 mk, .int .i64 seq, .int .i64 m0, .int .i64 m1, .int .i64 m2, .int .i64 m3, .slice Am md.length cm, .slice Ad x.length cd]) (by simp [results, Try.results58, go_sem, k9]) rfl ?_
  have e : (Value.agg #[Value.int .i64 z1, .int .i64 z2, .int .i64 z3, .int .i64 z4, .int .i64 z5, .int .i64 src, .int .i64 dst, .int .i64 mk, .int .i64 seq, .int .i64 m0, .int .i64 m1, .int .i64 m2, .int .i64 m3, .slice Am md.length cm, .slice Ad x.length cd]) = .agg (⟨Am, cm, Ad, cd, ⟨z1, z2, z3, z4, z5, ⟨src, dst, mk, seq, m0, m1, m2, m3, md⟩, x⟩⟩ : FR).cells.toArray := rfl
  rw [e]
  exact HF.out

end Go.Proofs.Ytbhgaaendekghaa
