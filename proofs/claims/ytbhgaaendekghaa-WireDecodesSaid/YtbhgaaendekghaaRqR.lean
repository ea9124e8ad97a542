/-
  The walk of ratoonref01's Reader.Msg: a message is read.
  Conditions: the reader stands within its bytes; they are at most 2 to the power 40.
-/
import Derived.Test.YtbhgaaendekghaaMqP
import Derived.Test.YtbhgaaendekghaaMqR
import Derived.Test.YtbhgaaendekghaaRfM
namespace Go.Proofs.Ytbhgaaendekghaa
open Go.RowKit

theorem RF.far {w w' : World} {p g : Nat} {A : Option Addr} {c : Nat} {l : List UInt8} {pos : Nat} {f : Bool} {t : TypeId} {cs : Array Value} (h : RF w p A c l pos f) (hg : Blk w g t cs) (hcs : NoU8 cs) (hne : p ≠ g) (hO : Only (One g) w w') : RF w' p A c l pos f :=
  ⟨h.box.only hO hne, (h.bytes.box hg hcs hO (Nat.le_refl _)).up hO.size, h.cap⟩

/-- n integers read one after the other, and where the reader stands then. -/
def rI : Nat → List UInt8 → Nat → Bool → List Int × Nat × Bool
  | 0, _, pos, f => ([], pos, f)
  | n + 1, l, pos, f => ((rInt l pos f).1 :: (rI n l (rInt l pos f).2.1 (rInt l pos f).2.2).1, (rI n l (rInt l pos f).2.1 (rInt l pos f).2.2).2)
theorem rInt_fail (l : List UInt8) (pos : Nat) : rInt l pos true = (0, pos, true) := rfl
theorem rI_fail : ∀ (n : Nat) (l : List UInt8) (pos : Nat), (rI n l pos true).2.2 = true := by
  intro n
  induction n with
  | zero => intro l pos; rfl
  | succ n ih => intro l pos; exact ih l pos
theorem rI_dec : ∀ (n : Nat) (l : List UInt8) (pos : Nat), match decN n (l.drop pos) with
    | some (zs, k) => rI n l pos false = (zs, pos + k, false)
    | none => (rI n l pos false).2.2 = true := by
  intro n
  induction n with
  | zero => intro l pos; rfl
  | succ n ih =>
    intro l pos
    unfold decN
    cases hd : dec (l.drop pos) with
    | none =>
      have e : rInt l pos false = (0, pos, true) := by unfold rInt; rw [if_neg (by simp), hd]
      dsimp only
      unfold rI
      rw [e]
      exact rI_fail n l pos
    | some r =>
      obtain ⟨z, k⟩ := r
      have e : rInt l pos false = (z, pos + k, false) := by unfold rInt; rw [if_neg (by simp), hd]
      dsimp only
      have h := ih l (pos + k)
      rw [← List.drop_drop] at h
      unfold rI
      rw [e]
      dsimp only
      cases hr : decN n ((l.drop pos).drop k) with
      | none => rw [hr] at h; exact h
      | some q =>
        obtain ⟨zs, j⟩ := q
        rw [hr] at h
        dsimp only at h
        dsimp only [Option.map_some]
        rw [h, Nat.add_assoc]
theorem rI_length : ∀ (n : Nat) (l : List UInt8) (pos : Nat) (f : Bool), (rI n l pos f).1.length = n := by
  intro n
  induction n with
  | zero => intro l pos f; rfl
  | succ n ih => intro l pos f; unfold rI; rw [List.length_cons, ih]
theorem rByt_fail (most : Int) (l : List UInt8) (pos : Nat) : rByt most l pos true = ([], pos, true) := rfl
theorem rMsg_eq (l : List UInt8) (pos : Nat) (f : Bool) (zs : List Int) (q : Nat) (g : Bool) (x : List UInt8) (q' : Nat) (g' : Bool) (h : rI 8 l pos f = (zs, q, g)) (hb : rByt 1536 l q g = (x, q', g')) :
    rMsg l pos f = if g' = true then (zM, pos, true) else (mOf zs x, q', false) := by
  unfold rMsg
  cases f
  · rw [if_neg (by simp)]
    have hd := rI_dec 8 l pos
    unfold decM
    cases hr : decN 8 (l.drop pos) with
    | none =>
      rw [hr] at hd
      dsimp only at hd
      rw [h] at hd
      dsimp only at hd
      subst hd
      rw [rByt_fail] at hb
      injection hb with _ hb
      injection hb with _ hb
      subst hb
      rfl
    | some r =>
      obtain ⟨ys, k⟩ := r
      rw [hr] at hd
      dsimp only at hd
      rw [h] at hd
      injection hd with e1 e2
      injection e2 with e2 e3
      subst e1 e2 e3
      unfold rByt at hb
      rw [if_neg (by simp)] at hb
      rw [← List.drop_drop] at hb
      dsimp only
      cases hB : decB 1536 ((l.drop pos).drop k) with
      | none =>
        rw [hB] at hb
        injection hb with _ hb
        injection hb with _ hb
        subst hb
        rfl
      | some r =>
        obtain ⟨d, j⟩ := r
        rw [hB] at hb
        injection hb with e1 e2
        injection e2 with e2 e3
        subst e1 e2 e3
        dsimp only
        rw [if_neg (by simp), Nat.add_assoc]
  · rw [if_pos rfl]
    have hf := rI_fail 8 l pos
    rw [h] at hf
    dsimp only at hf
    subst hf
    rw [rByt_fail] at hb
    injection hb with _ hb
    injection hb with _ hb
    subst hb
    rfl

/-- What Msg answers. -/
def RfMsgPost (r : M × Nat × Bool) (p : Nat) (A : Option Addr) (c : Nat) (l : List UInt8) (w : World) (e : Ending) (w' : World) : Prop :=
  ∃ Ax cx, e = .returned (.agg (mcells Ax cx r.1).toArray) ∧ r.1.data.length ≤ cx ∧ w'.ownsRow w.heap.size 5 1 (.slice Ax r.1.data.length cx) r.1.data.length (bcells r.1.data) ∧ RF w' p A c l r.2.1 r.2.2 ∧ Only (One p) w w'

set_option maxRecDepth 100000 in
set_option maxHeartbeats 4000000 in
theorem rfMsg_any (p : Nat) (A : Option Addr) (c : Nat) (l : List UInt8) (pos : Nat) (f : Bool) (w : World) (h : RF w p A c l pos f) (hp : pos ≤ l.length) (hl : l.length ≤ 1099511627776) (hc : c ≤ maxLen) :
    Calls Try.prog 13 #[.pointer (some ⟨p, 0, none⟩)] w (RfMsgPost (rMsg l pos f) p A c l w) := by
  have hpw := h.box.lt
  obtain ⟨z1, p1, f1, e1⟩ : ∃ z q g, rInt l pos f = (z, q, g) := ⟨_, _, _, rfl⟩
  have b1 : p1 ≤ l.length := by have := rInt_pos (l := l) (pos := pos) f hp; rw [e1] at this; exact this
  obtain ⟨z2, p2, f2, e2⟩ : ∃ z q g, rInt l p1 f1 = (z, q, g) := ⟨_, _, _, rfl⟩
  have b2 : p2 ≤ l.length := by have := rInt_pos (l := l) (pos := p1) f1 b1; rw [e2] at this; exact this
  obtain ⟨z3, p3, f3, e3⟩ : ∃ z q g, rInt l p2 f2 = (z, q, g) := ⟨_, _, _, rfl⟩
  have b3 : p3 ≤ l.length := by have := rInt_pos (l := l) (pos := p2) f2 b2; rw [e3] at this; exact this
  obtain ⟨z4, p4, f4, e4⟩ : ∃ z q g, rInt l p3 f3 = (z, q, g) := ⟨_, _, _, rfl⟩
  have b4 : p4 ≤ l.length := by have := rInt_pos (l := l) (pos := p3) f3 b3; rw [e4] at this; exact this
  obtain ⟨z5, p5, f5, e5⟩ : ∃ z q g, rInt l p4 f4 = (z, q, g) := ⟨_, _, _, rfl⟩
  have b5 : p5 ≤ l.length := by have := rInt_pos (l := l) (pos := p4) f4 b4; rw [e5] at this; exact this
  obtain ⟨z6, p6, f6, e6⟩ : ∃ z q g, rInt l p5 f5 = (z, q, g) := ⟨_, _, _, rfl⟩
  have b6 : p6 ≤ l.length := by have := rInt_pos (l := l) (pos := p5) f5 b5; rw [e6] at this; exact this
  obtain ⟨z7, p7, f7, e7⟩ : ∃ z q g, rInt l p6 f6 = (z, q, g) := ⟨_, _, _, rfl⟩
  have b7 : p7 ≤ l.length := by have := rInt_pos (l := l) (pos := p6) f6 b6; rw [e7] at this; exact this
  obtain ⟨z8, p8, f8, e8⟩ : ∃ z q g, rInt l p7 f7 = (z, q, g) := ⟨_, _, _, rfl⟩
  have b8 : p8 ≤ l.length := by have := rInt_pos (l := l) (pos := p7) f7 b7; rw [e8] at this; exact this
  obtain ⟨x, pb, fb, eb⟩ : ∃ z q g, rByt 1536 l p8 f8 = (z, q, g) := ⟨_, _, _, rfl⟩
  have h8 : rI 8 l pos f = ([z1, z2, z3, z4, z5, z6, z7, z8], p8, f8) := by
    unfold rI rI rI rI rI rI rI rI rI
    simp only [e1, e2, e3, e4, e5, e6, e7, e8]
  have hM := rMsg_eq l pos f _ _ _ _ _ _ h8 eb
  obtain ⟨r, hr⟩ : ∃ r, rMsg l pos f = r := ⟨_, rfl⟩
  rw [hr] at hM ⊢
  have HRR := Lib.hid hM
  clear hr
  have HEB := Lib.hid eb
  have HE1 := Lib.hid e1
  have HB1 := Lib.hid b1
  have HE2 := Lib.hid e2
  have HB2 := Lib.hid b2
  have HE3 := Lib.hid e3
  have HB3 := Lib.hid b3
  have HE4 := Lib.hid e4
  have HB4 := Lib.hid b4
  have HE5 := Lib.hid e5
  have HB5 := Lib.hid b5
  have HE6 := Lib.hid e6
  have HB6 := Lib.hid b6
  have HE7 := Lib.hid e7
  have HB7 := Lib.hid b7
  have HE8 := Lib.hid e8
  have HB8 := Lib.hid b8
  have H := Lib.hid h
  have HP := Lib.hid hp
  have HL := Lib.hid hl
  have HC := Lib.hid hc
  have HPW := Lib.hid hpw
  obtain ⟨w0, hw0⟩ : ∃ w0, w.alloc (.cells (mcells none 0 zM).toArray 26) = w0 := ⟨_, rfl⟩
  have hO0 : Only Nil w w0 := by rw [← hw0]; exact (Only.refl _ _).alloc _
  have hg0 : Blk w0 w.heap.size 26 (mcells none 0 zM).toArray := by rw [← hw0]; exact Blk.new _ _ _
  have hb0 := (h.onlyNil hO0).box
  obtain ⟨N, hN⟩ : ∃ N, l.length = N := ⟨_, rfl⟩
  rw [hN] at hb0
  have kp : ∀ i, w0.cell? ⟨p, i, none⟩ = #[Value.slice A N c, .int .i64 pos, .bool f][i]? := fun i => hb0.cell i
  have HN := Lib.hid hN
  have HO0 := Lib.hid hO0
  have HG0 := Lib.hid hg0
  unfold mcells zM at hw0
  dsimp only at hw0
  rw [show ([] : List UInt8).length = 0 from rfl] at hw0
  have HC1 := Lib.hid (rfInt_any p A c l pos f w0 (h.onlyNil hO0) hp hl)
  rw [e1] at HC1
  clear h hp hl hc hpw hO0 hg0 hb0 hN eb h8 hM e1 e2 e3 e4 e5 e6 e7 e8 b1 b2 b3 b4 b5 b6 b7 b8
  go_enter Try.func13, Try.ntmps13
  go_wp2_with fail
  clear hw0
  refine HC1.out.mono ?_
  clear HC1
  rintro e w1 ⟨rfl, hR1, hO1⟩
  have HR1 := Lib.hid hR1
  have HN1 := Lib.hid hO1.size
  have HG1 := Lib.hid (HG0.out.only hO1 (fun hx => by have := HPW.out; unfold One at hx; omega))
  have HO1 : Hid (Only (One p) w w1) := Lib.hid ((HO0.out.any).then_ hO1)
  clear hR1 hO1 kp
  have HC2 := Lib.hid (rfInt_any p A c l p1 f1 w1 HR1.out HB1.out HL.out)
  rw [HE2.out] at HC2
  go_wp2_with fail
  refine HC2.out.mono ?_
  clear HC2
  rintro e w2 ⟨rfl, hR2, hO2⟩
  have HR2 := Lib.hid hR2
  have HN2 := Lib.hid (Nat.le_trans HN1.out hO2.size)
  have HG2 := Lib.hid (HG1.out.only hO2 (fun hx => by have := HPW.out; unfold One at hx; omega))
  have HO2 := Lib.hid (HO1.out.then_ hO2)
  clear hR2 hO2
  have HC3 := Lib.hid (rfInt_any p A c l p2 f2 w2 HR2.out HB2.out HL.out)
  rw [HE3.out] at HC3
  go_wp2_with fail
  refine HC3.out.mono ?_
  clear HC3
  rintro e w3 ⟨rfl, hR3, hO3⟩
  have HR3 := Lib.hid hR3
  have HN3 := Lib.hid (Nat.le_trans HN2.out hO3.size)
  have HG3 := Lib.hid (HG2.out.only hO3 (fun hx => by have := HPW.out; unfold One at hx; omega))
  have HO3 := Lib.hid (HO2.out.then_ hO3)
  clear hR3 hO3
  have HC4 := Lib.hid (rfInt_any p A c l p3 f3 w3 HR3.out HB3.out HL.out)
  rw [HE4.out] at HC4
  go_wp2_with fail
  refine HC4.out.mono ?_
  clear HC4
  rintro e w4 ⟨rfl, hR4, hO4⟩
  have HR4 := Lib.hid hR4
  have HN4 := Lib.hid (Nat.le_trans HN3.out hO4.size)
  have HG4 := Lib.hid (HG3.out.only hO4 (fun hx => by have := HPW.out; unfold One at hx; omega))
  have HO4 := Lib.hid (HO3.out.then_ hO4)
  clear hR4 hO4
  obtain ⟨g4, hg4⟩ : ∃ g4, g4 = w4.heap.size := ⟨_, rfl⟩
  obtain ⟨w5, hw5⟩ : ∃ w5, w5 = w4.alloc (.cells (mcells none 0 ⟨z1, z2, z3, z4, 0, 0, 0, 0, []⟩).toArray 26) := ⟨_, rfl⟩
  have hO5 : Only Nil w4 w5 := by rw [hw5]; exact (Only.refl _ _).alloc _
  have hm5 : Blk w5 g4 26 (mcells none 0 ⟨z1, z2, z3, z4, 0, 0, 0, 0, []⟩).toArray := by rw [hw5, hg4]; exact Blk.new _ _ _
  have hgp : p < g4 := by have := HR4.out.box.lt; omega
  have hgw : w.heap.size < g4 := by have := HG0.out.lt; have := HO0.out.size; have := HN4.out; omega
  have HGP := Lib.hid hgp
  have HGW := Lib.hid hgw
  have HR5 := Lib.hid (HR4.out.onlyNil hO5)
  have HG5 := Lib.hid (HG4.out.onlyNil hO5)
  have HM5 := Lib.hid hm5
  have HO5 := Lib.hid (HO4.out.thenNil hO5)
  unfold mcells at hw5
  dsimp only at hw5
  rw [show ([] : List UInt8).length = 0 from rfl] at hw5
  have HGG := Lib.hid hg4
  have HW5 := Lib.hid hw5
  clear hO5 hm5 hgp hgw hg4 hw5
  go_wp2_with fail
  rw [← HGG.out, ← HW5.out]
  clear HGG HW5
  refine wp_loop_rounds 5 ?_
  rw [rounds_succ]
  have HC5 := Lib.hid (rfInt_any p A c l p4 f4 w5 HR5.out HB4.out HL.out)
  rw [HE5.out] at HC5
  go_wp2_with fail
  refine HC5.out.mono ?_
  clear HC5
  rintro e u5 ⟨rfl, hR, hO⟩
  have hm := HM5.out.only hO (fun hx => by have := HGP.out; unfold One at hx; omega)
  have km : ∀ i, u5.cell? ⟨g4, i, none⟩ = (mcells none 0 ⟨z1, z2, z3, z4, 0, 0, 0, 0, []⟩).toArray[i]? := fun i => hm.cell i
  have fm : ∀ i, u5.frozen? ⟨g4, i, none⟩ = false := fun i => hm.frozen i
  unfold mcells at km
  dsimp only at km
  obtain ⟨w6, hw⟩ : ∃ v, u5.setCell ⟨g4, 4, none⟩ (.int .i64 z5) = v := ⟨_, rfl⟩
  have hS : Only (One g4) u5 w6 := by rw [← hw]; (repeat' (first | with_reducible exact Only.refl _ _ | with_reducible refine Only.setCell ?_ (Or.inl ?_) _ | with_reducible refine Only.drewN ?_ _ | with_reducible refine Only.drew ?_ | with_reducible refine Only.alloc ?_ _ | (exact rfl)))
  have hm2 : Blk w6 g4 26 (mcells none 0 ⟨z1, z2, z3, z4, z5, 0, 0, 0, []⟩).toArray := by
    rw [← hw]
    have := hm.set_ 4 (.int .i64 z5)
    simpa [mcells] using this
  have HR6 := Lib.hid (hR.far hm (mc_no _ _ _) (by have := HGP.out; omega) hS)
  have HM6 := Lib.hid hm2
  have HG6 := Lib.hid ((HG5.out.only hO (fun hx => by have := HPW.out; unfold One at hx; omega)).only hS (fun hx => by have := HGW.out; unfold One at hx; omega))
  have HQ6 : Hid (w.heap.size ≤ w6.heap.size) := Lib.hid (by have := HGW.out; have := hm2.lt; omega)
  have HO6 := Lib.hid ((HO5.out.then_ hO).trans hS (fun x hx => .inr (by have := HGW.out; unfold One at hx; omega)))
  clear hR hO hm hS hm2
  go_wp2_with fail
  clear hw km fm
  rw [rounds_succ]
  have HC6 := Lib.hid (rfInt_any p A c l p5 f5 w6 HR6.out HB5.out HL.out)
  rw [HE6.out] at HC6
  go_wp2_with fail
  refine HC6.out.mono ?_
  clear HC6
  rintro e u6 ⟨rfl, hR, hO⟩
  have hm := HM6.out.only hO (fun hx => by have := HGP.out; unfold One at hx; omega)
  have km : ∀ i, u6.cell? ⟨g4, i, none⟩ = (mcells none 0 ⟨z1, z2, z3, z4, z5, 0, 0, 0, []⟩).toArray[i]? := fun i => hm.cell i
  have fm : ∀ i, u6.frozen? ⟨g4, i, none⟩ = false := fun i => hm.frozen i
  unfold mcells at km
  dsimp only at km
  obtain ⟨w7, hw⟩ : ∃ v, u6.setCell ⟨g4, 5, none⟩ (.int .i64 z6) = v := ⟨_, rfl⟩
  have hS : Only (One g4) u6 w7 := by rw [← hw]; (repeat' (first | with_reducible exact Only.refl _ _ | with_reducible refine Only.setCell ?_ (Or.inl ?_) _ | with_reducible refine Only.drewN ?_ _ | with_reducible refine Only.drew ?_ | with_reducible refine Only.alloc ?_ _ | (exact rfl)))
  have hm2 : Blk w7 g4 26 (mcells none 0 ⟨z1, z2, z3, z4, z5, z6, 0, 0, []⟩).toArray := by
    rw [← hw]
    have := hm.set_ 5 (.int .i64 z6)
    simpa [mcells] using this
  have HR7 := Lib.hid (hR.far hm (mc_no _ _ _) (by have := HGP.out; omega) hS)
  have HM7 := Lib.hid hm2
  have HG7 := Lib.hid ((HG6.out.only hO (fun hx => by have := HPW.out; unfold One at hx; omega)).only hS (fun hx => by have := HGW.out; unfold One at hx; omega))
  have HQ7 : Hid (w.heap.size ≤ w7.heap.size) := Lib.hid (by have := HGW.out; have := hm2.lt; omega)
  have HO7 := Lib.hid ((HO6.out.then_ hO).trans hS (fun x hx => .inr (by have := HGW.out; unfold One at hx; omega)))
  clear hR hO hm hS hm2
  go_wp2_with fail
  clear hw km fm
  rw [rounds_succ]
  have HC7 := Lib.hid (rfInt_any p A c l p6 f6 w7 HR7.out HB6.out HL.out)
  rw [HE7.out] at HC7
  go_wp2_with fail
  refine HC7.out.mono ?_
  clear HC7
  rintro e u7 ⟨rfl, hR, hO⟩
  have hm := HM7.out.only hO (fun hx => by have := HGP.out; unfold One at hx; omega)
  have km : ∀ i, u7.cell? ⟨g4, i, none⟩ = (mcells none 0 ⟨z1, z2, z3, z4, z5, z6, 0, 0, []⟩).toArray[i]? := fun i => hm.cell i
  have fm : ∀ i, u7.frozen? ⟨g4, i, none⟩ = false := fun i => hm.frozen i
  unfold mcells at km
  dsimp only at km
  obtain ⟨w8, hw⟩ : ∃ v, u7.setCell ⟨g4, 6, none⟩ (.int .i64 z7) = v := ⟨_, rfl⟩
  have hS : Only (One g4) u7 w8 := by rw [← hw]; (repeat' (first | with_reducible exact Only.refl _ _ | with_reducible refine Only.setCell ?_ (Or.inl ?_) _ | with_reducible refine Only.drewN ?_ _ | with_reducible refine Only.drew ?_ | with_reducible refine Only.alloc ?_ _ | (exact rfl)))
  have hm2 : Blk w8 g4 26 (mcells none 0 ⟨z1, z2, z3, z4, z5, z6, z7, 0, []⟩).toArray := by
    rw [← hw]
    have := hm.set_ 6 (.int .i64 z7)
    simpa [mcells] using this
  have HR8 := Lib.hid (hR.far hm (mc_no _ _ _) (by have := HGP.out; omega) hS)
  have HM8 := Lib.hid hm2
  have HG8 := Lib.hid ((HG7.out.only hO (fun hx => by have := HPW.out; unfold One at hx; omega)).only hS (fun hx => by have := HGW.out; unfold One at hx; omega))
  have HQ8 : Hid (w.heap.size ≤ w8.heap.size) := Lib.hid (by have := HGW.out; have := hm2.lt; omega)
  have HO8 := Lib.hid ((HO7.out.then_ hO).trans hS (fun x hx => .inr (by have := HGW.out; unfold One at hx; omega)))
  clear hR hO hm hS hm2
  go_wp2_with fail
  clear hw km fm
  rw [rounds_succ]
  have HC8 := Lib.hid (rfInt_any p A c l p7 f7 w8 HR8.out HB7.out HL.out)
  rw [HE8.out] at HC8
  go_wp2_with fail
  refine HC8.out.mono ?_
  clear HC8
  rintro e u8 ⟨rfl, hR, hO⟩
  have hm := HM8.out.only hO (fun hx => by have := HGP.out; unfold One at hx; omega)
  have km : ∀ i, u8.cell? ⟨g4, i, none⟩ = (mcells none 0 ⟨z1, z2, z3, z4, z5, z6, z7, 0, []⟩).toArray[i]? := fun i => hm.cell i
  have fm : ∀ i, u8.frozen? ⟨g4, i, none⟩ = false := fun i => hm.frozen i
  unfold mcells at km
  dsimp only at km
  obtain ⟨w9, hw⟩ : ∃ v, u8.setCell ⟨g4, 7, none⟩ (.int .i64 z8) = v := ⟨_, rfl⟩
  have hS : Only (One g4) u8 w9 := by rw [← hw]; (repeat' (first | with_reducible exact Only.refl _ _ | with_reducible refine Only.setCell ?_ (Or.inl ?_) _ | with_reducible refine Only.drewN ?_ _ | with_reducible refine Only.drew ?_ | with_reducible refine Only.alloc ?_ _ | (exact rfl)))
  have hm2 : Blk w9 g4 26 (mcells none 0 ⟨z1, z2, z3, z4, z5, z6, z7, z8, []⟩).toArray := by
    rw [← hw]
    have := hm.set_ 7 (.int .i64 z8)
    simpa [mcells] using this
  have HR9 := Lib.hid (hR.far hm (mc_no _ _ _) (by have := HGP.out; omega) hS)
  have HM9 := Lib.hid hm2
  have HG9 := Lib.hid ((HG8.out.only hO (fun hx => by have := HPW.out; unfold One at hx; omega)).only hS (fun hx => by have := HGW.out; unfold One at hx; omega))
  have HQ9 : Hid (w.heap.size ≤ w9.heap.size) := Lib.hid (by have := HGW.out; have := hm2.lt; omega)
  have HO9 := Lib.hid ((HO8.out.then_ hO).trans hS (fun x hx => .inr (by have := HGW.out; unfold One at hx; omega)))
  clear hR hO hm hS hm2
  go_wp2_with fail
  clear hw km fm
  rw [rounds_succ]
  have HCB := Lib.hid (rfByt_any 1536 p A c l p8 f8 w9 HR9.out HB8.out HL.out HC.out)
  rw [HEB.out] at HCB
  go_wp2_with fail
  refine HCB.out.mono ?_
  clear HCB
  rintro e w10 ⟨Ax, cx, rfl, hcx, hown, hR, hO⟩
  dsimp only at hcx hown hR ⊢
  have hm := HM9.out.only hO (fun hx => by have := HGP.out; unfold One at hx; omega)
  have km : ∀ i, w10.cell? ⟨g4, i, none⟩ = (mcells none 0 ⟨z1, z2, z3, z4, z5, z6, z7, z8, []⟩).toArray[i]? := fun i => hm.cell i
  have fm : ∀ i, w10.frozen? ⟨g4, i, none⟩ = false := fun i => hm.frozen i
  have hS : Only (One g4) w10 (w10.setCell ⟨g4, 8, none⟩ (.slice Ax x.length cx)) := by (repeat' (first | with_reducible exact Only.refl _ _ | with_reducible refine Only.setCell ?_ (Or.inl ?_) _ | with_reducible refine Only.drewN ?_ _ | with_reducible refine Only.drew ?_ | with_reducible refine Only.alloc ?_ _ | (exact rfl)))
  have hm2 : Blk (w10.setCell ⟨g4, 8, none⟩ (.slice Ax x.length cx)) g4 26 (mcells Ax cx ⟨z1, z2, z3, z4, z5, z6, z7, z8, x⟩).toArray := by
    have := hm.set_ 8 (.slice Ax x.length cx)
    simpa [mcells] using this
  have hR11 := hR.far hm (mc_no _ _ _) (by have := HGP.out; omega) hS
  have hown11 := own_only hown hS (fun q hq hx => own_blk_ne hown hm (by decide) (by rw [hq, hx]))
  have hg : Blk (w10.setCell ⟨g4, 8, none⟩ (.slice Ax x.length cx)) w.heap.size 26 (mcells none 0 zM).toArray := (HG9.out.only hO (fun hx => by have := HPW.out; unfold One at hx; omega)).only hS (fun hx => by have := HGW.out; unfold One at hx; omega)
  have hO11 := (HO9.out.then_ hO).trans hS (fun x hx => .inr (by have := HGW.out; unfold One at hx; omega))
  unfold mcells at km hm2
  dsimp only at km hm2
  obtain ⟨X, hX⟩ : ∃ X, x.length = X := ⟨_, rfl⟩
  have HX := Lib.hid hX
  rw [hX] at hcx hS hm2 hR11 hown11 hg hO11 ⊢
  obtain ⟨w11, hw11⟩ : ∃ v, v = w10.setCell ⟨g4, 8, none⟩ (.slice Ax X cx) := ⟨_, rfl⟩
  rw [← hw11] at hm2 hR11 hown11 hg hO11
  have HW := Lib.hid hw11
  have HM11 := Lib.hid hm2
  have HR11 := Lib.hid hR11
  have HW11 := Lib.hid hown11
  have HG11 := Lib.hid hg
  have HO11 := Lib.hid hO11
  have HCX := Lib.hid hcx
  clear hcx hown hR hO hm hS hm2 hR11 hown11 hg hO11 hX hw11
  go_upto_region 8 with fail
  rw [← HW.out]
  clear HW km fm
  have hbx := HR11.out.box
  rw [HN.out] at hbx
  have kp : ∀ i, w11.cell? ⟨p, i, none⟩ = #[Value.slice A N c, .int .i64 pb, .bool fb][i]? := fun i => hbx.cell i
  have fp : ∀ i, w11.frozen? ⟨p, i, none⟩ = false := fun i => hbx.frozen i
  have HBX := Lib.hid hbx
  have n1 : p ≠ w.heap.size := by have := HPW.out; omega
  have n2 : w.heap.size ≠ p := by have := HPW.out; omega
  have n3 : g4 ≠ w.heap.size := by have := HGW.out; omega
  have n4 : w.heap.size ≠ g4 := by have := HGW.out; omega
  have km : ∀ i, w11.cell? ⟨g4, i, none⟩ = #[Value.int .i64 z1, .int .i64 z2, .int .i64 z3, .int .i64 z4, .int .i64 z5, .int .i64 z6, .int .i64 z7, .int .i64 z8, .slice Ax X cx][i]? := fun i => HM11.out.cell i
  have kg : ∀ i, w11.cell? ⟨w.heap.size, i, none⟩ = #[Value.int .i64 0, .int .i64 0, .int .i64 0, .int .i64 0, .int .i64 0, .int .i64 0, .int .i64 0, .int .i64 0, .slice none 0 0][i]? := fun i => HG11.out.cell i
  have fg : ∀ i, w11.frozen? ⟨w.heap.size, i, none⟩ = false := fun i => HG11.out.frozen i
  clear hbx
  cases fb
  · have hfin : RfMsgPost r p A c l w (.returned (.agg (mcells Ax cx ⟨z1, z2, z3, z4, z5, z6, z7, z8, x⟩).toArray)) (setM w11 w.heap.size Ax cx ⟨z1, z2, z3, z4, z5, z6, z7, z8, x⟩) := by
      have hS := setM_only w11 w.heap.size Ax cx ⟨z1, z2, z3, z4, z5, z6, z7, z8, x⟩
      rw [HRR.out, if_neg (by simp)]
      refine ⟨Ax, cx, rfl, ?_, ?_, HR11.out.far HG11.out (mc_no _ _ _) n1 hS, HO11.out.trans hS (fun x hx => .inr (by unfold One at hx; omega))⟩
      · show x.length ≤ cx
        rw [HX.out]; exact HCX.out
      · show (setM w11 w.heap.size Ax cx ⟨z1, z2, z3, z4, z5, z6, z7, z8, x⟩).ownsRow w.heap.size 5 1 (.slice Ax x.length cx) x.length (bcells x)
        rw [HX.out]
        exact own_base (own_only HW11.out hS (fun q hq hx => own_blk_ne HW11.out HG11.out (by decide) (by rw [hq, hx]))) HQ9.out
    unfold setM mcells at hfin
    dsimp only at hfin
    rw [HX.out] at hfin
    have HF := Lib.hid hfin
    clear hfin
    go_wp2_with fail
    refine bodyPost_ret (v := .agg #[.int .i64 z1, .int .i64 z2, .int .i64 z3, .int .i64 z4, .int .i64 z5, .int .i64 z6, .int .i64 z7, .int .i64 z8, .slice Ax X cx]) (by simp [results, Try.results13, go_sem, kg, km]) rfl ?_
    exact HF.out
  · obtain ⟨w12, hw12⟩ : ∃ v, v = w11.setCell ⟨p, 1, none⟩ (.int .i64 pos) := ⟨_, rfl⟩
    have hS1 : Only (One p) w11 w12 := by rw [hw12]; (repeat' (first | with_reducible exact Only.refl _ _ | with_reducible refine Only.setCell ?_ (Or.inl ?_) _ | with_reducible refine Only.drewN ?_ _ | with_reducible refine Only.drew ?_ | with_reducible refine Only.alloc ?_ _ | (exact rfl)))
    have hb12 : Blk w12 p 40 #[.slice A N c, .int .i64 pos, .bool true] := by rw [hw12]; exact HBX.out.set_ 1 _
    rw [← HN.out] at hb12
    have hR12 := HR11.out.move hS1 hb12
    have hg12 := HG11.out.only hS1 (fun hx => n2 hx)
    have hfin : RfMsgPost r p A c l w (.returned (.agg (mcells none 0 zM).toArray)) (setM w12 w.heap.size none 0 zM) := by
      have hS := setM_only w12 w.heap.size none 0 zM
      rw [HRR.out, if_pos rfl]
      exact ⟨none, 0, rfl, Nat.le_refl _, World.ownsRow_nil _ _ _ _, hR12.far hg12 (mc_no _ _ _) n1 hS, (HO11.out.then_ hS1).trans hS (fun x hx => .inr (by unfold One at hx; omega))⟩
    rw [hw12] at hfin
    unfold setM mcells zM at hfin
    dsimp only at hfin
    rw [show ([] : List UInt8).length = 0 from rfl] at hfin
    have HF := Lib.hid hfin
    clear hfin hw12 hS1 hb12 hR12 hg12
    go_wp2_with fail
    refine bodyPost_ret (v := .agg #[.int .i64 0, .int .i64 0, .int .i64 0, .int .i64 0, .int .i64 0, .int .i64 0, .int .i64 0, .int .i64 0, .slice none 0 0]) (by simp [results, Try.results13, go_sem, kg]) rfl ?_
    exact HF.out

end Go.Proofs.Ytbhgaaendekghaa
