/-
  The walk of wire's msg: a message is read from a reader.
  Conditions: the reader stands within its bytes; they are at most 2 to the power 40.
-/
import Derived.Test.YtbhgaaendekghaaMqP
import Derived.Test.YtbhgaaendekghaaWrB
import Derived.Test.YtbhgaaendekghaaWrN
import Derived.StillTailTactics
namespace Go.Proofs.Ytbhgaaendekghaa
open Go.RowKit

/-- What msg answers. -/
def MsgPost (p : Nat) (A : Option Addr) (c : Nat) (l : List UInt8) (pos : Nat) (f : Bool) (w : World) (e : Ending) (w' : World) : Prop :=
  ∃ pos' : Nat, RR w' p A c l pos' f ∧ pos' ≤ l.length ∧ Only (One p) w w' ∧
    ((∃ (m : M) (n : Nat) (Ax : Option Addr) (cx : Nat), decM (l.drop pos) = some (m, n) ∧ pos' = pos + n ∧ e = .returned (.tuple #[.agg (mcells Ax cx m).toArray, .bool true]) ∧ m.data.length ≤ cx ∧ w'.ownsRow w.heap.size 5 1 (.slice Ax m.data.length cx) m.data.length (bcells m.data)) ∨
      (decM (l.drop pos) = none ∧ e = .returned (.tuple #[.agg (mcells none 0 zM).toArray, .bool false])))

theorem mc_no (A : Option Addr) (c : Nat) (m : M) : NoU8 (mcells A c m).toArray := by
  intro i z
  unfold mcells
  match i with
  | 0 => simp
  | 1 => simp
  | 2 => simp
  | 3 => simp
  | 4 => simp
  | 5 => simp
  | 6 => simp
  | 7 => simp
  | 8 => simp
  | n + 9 => simp

/-- A message stored cell by cell. -/
def setM (w : World) (g : Nat) (A : Option Addr) (c : Nat) (m : M) : World :=
  ((((((((w.setCell ⟨g, 0, none⟩ (.int .i64 m.src)).setCell ⟨g, 1, none⟩ (.int .i64 m.dst)).setCell ⟨g, 2, none⟩ (.int .i64 m.kind)).setCell ⟨g, 3, none⟩ (.int .i64 m.seq)).setCell ⟨g, 4, none⟩ (.int .i64 m.a0)).setCell ⟨g, 5, none⟩ (.int .i64 m.a1)).setCell ⟨g, 6, none⟩ (.int .i64 m.a2)).setCell ⟨g, 7, none⟩ (.int .i64 m.a3)).setCell ⟨g, 8, none⟩ (.slice A m.data.length c)
theorem setM_only (w : World) (g : Nat) (A : Option Addr) (c : Nat) (m : M) : Only (One g) w (setM w g A c m) := by
  unfold setM
  (repeat' (first | with_reducible exact Only.refl _ _ | with_reducible refine Only.setCell ?_ (Or.inl ?_) _ | with_reducible refine Only.drewN ?_ _ | with_reducible refine Only.drew ?_ | with_reducible refine Only.alloc ?_ _ | (exact rfl)))
theorem setM_blk {w : World} {g : Nat} {t : TypeId} {cs : Array Value} (h : Blk w g t cs) (hs : cs.size = 9) (A : Option Addr) (c : Nat) (m : M) : Blk (setM w g A c m) g t (mcells A c m).toArray := by
  obtain ⟨l⟩ := cs
  match l, hs with
  | [c0, c1, c2, c3, c4, c5, c6, c7, c8], _ =>
    have := ((((((((h.set_ 0 (.int .i64 m.src)).set_ 1 (.int .i64 m.dst)).set_ 2 (.int .i64 m.kind)).set_ 3 (.int .i64 m.seq)).set_ 4 (.int .i64 m.a0)).set_ 5 (.int .i64 m.a1)).set_ 6 (.int .i64 m.a2)).set_ 7 (.int .i64 m.a3)).set_ 8 (.slice A m.data.length c)
    simpa [setM, mcells] using this

theorem array_at4 : ∀ (u : World) (a : Option Addr), (Instr.arrayAt 24 (.slice a 4 4)).run Try.prog u = .ok (.pointer a) u := fun u a => by
  simp [Instr.arrayAt, run_underlying Try.underlying24]

set_option maxRecDepth 100000 in
set_option maxHeartbeats 2000000 in
theorem rdmsg_any (p : Nat) (A : Option Addr) (c : Nat) (l : List UInt8) (pos : Nat) (f : Bool) (w : World) (h : RR w p A c l pos f) (hp : pos ≤ l.length) (hl : l.length ≤ 1099511627776) (hc : c ≤ maxLen) :
    Calls Try.prog 76 #[.pointer (some ⟨p, 0, none⟩)] w (MsgPost p A c l pos f w) := by
  obtain ⟨w2, hw2⟩ : ∃ w2, w2 = (w.alloc (.cells (mcells none 0 zM).toArray 26)).alloc (.cells (ints (List.replicate 8 0)) 113) := ⟨_, rfl⟩
  have hO2 : Only Nil w w2 := by rw [hw2]; exact ((Only.refl _ _).alloc _).alloc _
  have hb2 : Blk w2 w.heap.size 26 (mcells none 0 zM).toArray := by rw [hw2]; exact (Blk.new _ _ _).alloc _
  have hb4 : Blk w2 (w.heap.size + 1) 113 (ints (List.replicate 8 0)) := by
    rw [hw2]
    have := Blk.new (w.alloc (.cells (mcells none 0 zM).toArray 26)) 113 (ints (List.replicate 8 0))
    rw [World.size_alloc] at this
    exact this
  have hpw := h.box.lt
  have hs2 : w2.heap.size = w.heap.size + 1 + 1 := by rw [hw2, World.size_alloc, World.size_alloc]
  have hN := numbers_any 8 (w.heap.size + 1) 8 113 (List.replicate 8 0) p A c l pos f w2 (h.onlyNil hO2) hp hl hb4 (by simp) (by omega) (by omega)
  have HNU := Lib.hid hN
  have HB2 := Lib.hid hb2
  have HO2 := Lib.hid hO2
  have HPW := Lib.hid hpw
  have HPL := Lib.hid hp
  have HL := Lib.hid hl
  have HC := Lib.hid hc
  have HS2 := Lib.hid hs2
  have HW2 := Lib.hid hw2
  clear h hp hl hc hN hb2 hb4 hO2 hpw hs2 hw2
  go_enter Try.func76, Try.ntmps76
  go_upto_region 2 with fail
  rw [show (w.alloc (.cells #[Value.int .i64 0, .int .i64 0, .int .i64 0, .int .i64 0, .int .i64 0, .int .i64 0, .int .i64 0, .int .i64 0, .slice none 0 0] 26)).alloc (.cells #[Value.int .i64 0, .int .i64 0, .int .i64 0, .int .i64 0, .int .i64 0, .int .i64 0, .int .i64 0, .int .i64 0] 113) = w2 from HW2.out.symm]
  go_wp2_with fail
  refine HNU.out.mono ?_
  rintro e w3 ⟨pos', zs, hR, hp', hzl, hb4, hO3, ⟨k, hd, rfl, rfl⟩ | ⟨hd, rfl⟩⟩
  rotate_left
  · have hM : decM (l.drop pos) = none := by unfold decM; rw [hd]
    have hb2 := HB2.out.only hO3 (fun hx => by have := HPW.out; rcases hx with hx | hx <;> omega)
    have k2 : ∀ i, w3.cell? ⟨w.heap.size, i, none⟩ = (mcells none 0 zM).toArray[i]? := fun i => hb2.cell i
    have f2 : ∀ i, w3.frozen? ⟨w.heap.size, i, none⟩ = false := fun i => hb2.frozen i
    unfold mcells zM at k2
    have hfin : ∀ u, Only (One w.heap.size) w3 u → MsgPost p A c l pos f w (.returned (.tuple #[.agg (mcells none 0 zM).toArray, .bool false])) u := fun u hu =>
      ⟨pos', hR.far hb2 (mc_no _ _ _) (by have := HPW.out; omega) hu, hp', ((HO2.out.any (S := One p)).trans hO3 (fun x hx => by rcases hx with hx | hx; exact .inl hx; exact .inr (by omega))).trans hu (fun x hx => .inr (by unfold One at hx; omega)), .inr ⟨hM, rfl⟩⟩
    have HF := Lib.hid hfin
    clear hR hp' hzl hb4 hO3 hd hM hb2 hfin
    go_wp2_with fail
    refine bodyPost_ret (v := .tuple #[.agg (mcells none 0 zM).toArray, .bool false]) (by simp [results, Try.results76, go_sem, k2, mcells, zM]) rfl ?_
    refine HF.out _ ?_
    (repeat' (first | with_reducible exact Only.refl _ _ | with_reducible refine Only.setCell ?_ (Or.inl ?_) _ | with_reducible refine Only.drewN ?_ _ | with_reducible refine Only.drew ?_ | with_reducible refine Only.alloc ?_ _ | (exact rfl)))
  have hb2 := HB2.out.only hO3 (fun hx => by have := HPW.out; rcases hx with hx | hx <;> omega)
  match zs, hzl with
  | [z0, z1, z2, z3, z4, z5, z6, z7], _ =>
  have k2 : ∀ i, w3.cell? ⟨w.heap.size, i, none⟩ = (mcells none 0 zM).toArray[i]? := fun i => hb2.cell i
  have f2 : ∀ i, w3.frozen? ⟨w.heap.size, i, none⟩ = false := fun i => hb2.frozen i
  have k4 : ∀ i, w3.cell? ⟨w.heap.size + 1, i, none⟩ = #[Value.int .i64 z0, .int .i64 z1, .int .i64 z2, .int .i64 z3, .int .i64 z4, .int .i64 z5, .int .i64 z6, .int .i64 z7][i]? := fun i => hb4.cell i
  have hap := array_at4
  have d4 : ∀ i, w3.drew.cell? ⟨w.heap.size + 1, i, none⟩ = #[Value.int .i64 z0, .int .i64 z1, .int .i64 z2, .int .i64 z3, .int .i64 z4, .int .i64 z5, .int .i64 z6, .int .i64 z7][i]? := fun i => hb4.drew.cell i
  have d2 : ∀ i, w3.drew.cell? ⟨w.heap.size, i, none⟩ = (mcells none 0 zM).toArray[i]? := fun i => hb2.drew.cell i
  unfold mcells zM at k2 d2
  have HR := Lib.hid hR
  have HP' := Lib.hid hp'
  have HO3 := Lib.hid hO3
  have HD := Lib.hid hd
  have HB2 := Lib.hid hb2
  clear hR hp' hO3 hd hb2 hb4
  go_wp2_with fail
  go_still_tail 12, (by kernel_rfl)
  go_wp2_with fail
  obtain ⟨m0, hm0⟩ : ∃ m0 : M, m0 = ⟨z0, z1, z2, z3, z4, z5, z6, z7, []⟩ := ⟨_, rfl⟩
  obtain ⟨w4, hw4⟩ : ∃ w4, (setM w3 w.heap.size none 0 m0).drew = w4 := ⟨_, rfl⟩
  have hO4 : Only (One w.heap.size) w3 w4 := by rw [← hw4]; exact (setM_only _ _ _ _ _).drew
  have hb4 : Blk w4 w.heap.size 26 (mcells none 0 m0).toArray := by rw [← hw4]; exact (setM_blk HB2.out rfl _ _ _).drew
  have hR4 : RR w4 p A c l (pos + k) f := HR.out.far HB2.out (mc_no _ _ _) (by have := HPW.out; omega) hO4
  have HO4 : Hid (Only (One p) w w4) := Lib.hid (((HO2.out.any (S := One p)).trans HO3.out (fun x hx => by rcases hx with hx | hx; exact .inl hx; exact .inr (by omega))).trans hO4 (fun x hx => .inr (by unfold One at hx; omega)))
  clear k2 d2 f2 k4 d4 hap
  rw [show (((((((((w3.setCell ⟨w.heap.size, 0, none⟩ (.int .i64 z0)).setCell ⟨w.heap.size, 1, none⟩ (.int .i64 z1)).setCell ⟨w.heap.size, 2, none⟩ (.int .i64 z2)).setCell ⟨w.heap.size, 3, none⟩ (.int .i64 z3)).setCell ⟨w.heap.size, 4, none⟩ (.int .i64 z4)).setCell ⟨w.heap.size, 5, none⟩ (.int .i64 z5)).setCell ⟨w.heap.size, 6, none⟩ (.int .i64 z6)).setCell ⟨w.heap.size, 7, none⟩ (.int .i64 z7)).setCell ⟨w.heap.size, 8, none⟩ (.slice none 0 0)).drew = w4 from by rw [← hw4, hm0]; rfl]
  clear hw4
  have HBY := Lib.hid (rdbytes_any 1536 p A c l (pos + k) f w4 hR4 HP'.out HL.out HC.out)
  have HB4 := Lib.hid hb4
  have hn1 := (nums_mOf (zs := [z0, z1, z2, z3, z4, z5, z6, z7]) [] rfl).1
  have HM0 := Lib.hid hm0
  clear hO4 hb4 hR4 hn1
  obtain ⟨src, dst, kind, seq, a0, a1, a2, a3, dt⟩ := m0
  injection hm0 with e0 e1 e2 e3 e4 e5 e6 e7 e8
  subst e0 e1 e2 e3 e4 e5 e6 e7 e8
  clear HM0
  refine HBY.out.mono ?_
  rintro e w5 ⟨pos', hR, hp', hO5, ⟨x, n, Ax, cx, hdb, rfl, rfl, hcx, hown⟩ | ⟨hdb, rfl⟩⟩
  · have hM : decM (l.drop pos) = some (⟨src, dst, kind, seq, a0, a1, a2, a3, x⟩, k + n) := by
      unfold decM
      rw [HD.out]
      dsimp only
      rw [List.drop_drop, hdb]
      rfl
    have hb5 := HB4.out.only hO5 (fun hx => by have := HPW.out; unfold One at hx; omega)
    have k5 : ∀ i, w5.cell? ⟨w.heap.size, i, none⟩ = (mcells none 0 ⟨src, dst, kind, seq, a0, a1, a2, a3, []⟩).toArray[i]? := fun i => hb5.cell i
    have f5 : ∀ i, w5.frozen? ⟨w.heap.size, i, none⟩ = false := fun i => hb5.frozen i
    unfold mcells at k5
    dsimp only at k5
    have hfin : ∀ u, Only (One w.heap.size) w5 u → MsgPost p A c l pos f w (.returned (.tuple #[.agg (mcells Ax cx ⟨src, dst, kind, seq, a0, a1, a2, a3, x⟩).toArray, .bool true])) u := fun u hu =>
      ⟨pos + k + n, hR.far hb5 (mc_no _ _ _) (by have := HPW.out; omega) hu, hp', (HO4.out.then_ hO5).trans hu (fun x hx => .inr (by unfold One at hx; omega)), .inl ⟨_, k + n, Ax, cx, hM, by omega, rfl, hcx, own_base (own_only hown hu (fun q hq hx => own_blk_ne hown hb5 (by decide) (by rw [hq, hx]))) HO4.out.size⟩⟩
    obtain ⟨X, hX⟩ : ∃ X, x.length = X := ⟨_, rfl⟩
    unfold mcells at hfin
    dsimp only at hfin
    rw [hX] at hfin ⊢
    have HF := Lib.hid hfin
    clear hR hp' hO5 hdb hcx hown hM hb5 hfin hX
    go_wp2_with fail
    refine bodyPost_ret (v := .tuple #[.agg #[.int .i64 src, .int .i64 dst, .int .i64 kind, .int .i64 seq, .int .i64 a0, .int .i64 a1, .int .i64 a2, .int .i64 a3, .slice Ax X cx], .bool true]) (by simp [results, Try.results76, go_sem, k5]) rfl ?_
    refine HF.out _ ?_
    (repeat' (first | with_reducible exact Only.refl _ _ | with_reducible refine Only.setCell ?_ (Or.inl ?_) _ | with_reducible refine Only.drewN ?_ _ | with_reducible refine Only.drew ?_ | with_reducible refine Only.alloc ?_ _ | (exact rfl)))
  · have hM : decM (l.drop pos) = none := by
      unfold decM
      rw [HD.out]
      dsimp only
      rw [List.drop_drop, hdb]
    have hb5 := HB4.out.only hO5 (fun hx => by have := HPW.out; unfold One at hx; omega)
    have k5 : ∀ i, w5.cell? ⟨w.heap.size, i, none⟩ = (mcells none 0 ⟨src, dst, kind, seq, a0, a1, a2, a3, []⟩).toArray[i]? := fun i => hb5.cell i
    have f5 : ∀ i, w5.frozen? ⟨w.heap.size, i, none⟩ = false := fun i => hb5.frozen i
    unfold mcells at k5
    dsimp only at k5
    have hfin : ∀ u, Only (One w.heap.size) w5 u → MsgPost p A c l pos f w (.returned (.tuple #[.agg (mcells none 0 zM).toArray, .bool false])) u := fun u hu =>
      ⟨pos', hR.far hb5 (mc_no _ _ _) (by have := HPW.out; omega) hu, hp', (HO4.out.then_ hO5).trans hu (fun x hx => .inr (by unfold One at hx; omega)), .inr ⟨hM, rfl⟩⟩
    have HF := Lib.hid hfin
    clear hR hp' hO5 hdb hM hb5 hfin
    go_wp2_with fail
    refine bodyPost_ret (v := .tuple #[.agg (mcells none 0 zM).toArray, .bool false]) (by simp [results, Try.results76, go_sem, k5, mcells, zM]) rfl ?_
    refine HF.out _ ?_
    (repeat' (first | with_reducible exact Only.refl _ _ | with_reducible refine Only.setCell ?_ (Or.inl ?_) _ | with_reducible refine Only.drewN ?_ _ | with_reducible refine Only.drew ?_ | with_reducible refine Only.alloc ?_ _ | (exact rfl)))

end Go.Proofs.Ytbhgaaendekghaa
