/-
  The walk of wire's effect, case 3.
  Conditions: the reader stands within its bytes; they are at most 2 to the power 40.
-/
import Derived.Test.YtbhgaaendekghaaEfR0
namespace Go.Proofs.Ytbhgaaendekghaa
open Go.RowKit

set_option maxRecDepth 100000 in
set_option maxHeartbeats 4000000 in
theorem rdeff3 (p : Nat) (A : Option Addr) (c : Nat) (l : List UInt8) (pos : Nat) (f : Bool) (w : World) (h : RR w p A c l pos f) (hp : pos ≤ l.length) (hl : l.length ≤ 1099511627776) (hc : c ≤ maxLen) (hcase : decN 5 (l.drop pos) ≠ none ∧ ∀ zs k, decN 5 (l.drop pos) = some (zs, k) → decM (l.drop (pos + k)) ≠ none ∧ ∀ m n, decM (l.drop (pos + k)) = some (m, n) → decB 1536 (l.drop (pos + k + n)) ≠ none) :
    Calls Try.prog 78 #[.pointer (some ⟨p, 0, none⟩)] w (EffPost p A c l pos f w) := by
  obtain ⟨w2, hw2⟩ : ∃ w2, w2 = (w.alloc (.cells zFR.cells.toArray 58)).alloc (.cells (ints (List.replicate 5 0)) 114) := ⟨_, rfl⟩
  have hO2 : Only Nil w w2 := by rw [hw2]; exact ((Only.refl _ _).alloc _).alloc _
  have hb2 : Blk w2 w.heap.size 58 zFR.cells.toArray := by rw [hw2]; exact (Blk.new _ _ _).alloc _
  have hb4 : Blk w2 (w.heap.size + 1) 114 (ints (List.replicate 5 0)) := by
    rw [hw2]
    have := Blk.new (w.alloc (.cells zFR.cells.toArray 58)) 114 (ints (List.replicate 5 0))
    rw [World.size_alloc] at this
    exact this
  have hpw := h.box.lt
  have HCASE := Lib.hid hcase
  clear hcase
  have hs2 : w2.heap.size = w.heap.size + 1 + 1 := by rw [hw2, World.size_alloc, World.size_alloc]
  have hN := numbers_any 5 (w.heap.size + 1) 5 114 (List.replicate 5 0) p A c l pos f w2 (h.onlyNil hO2) hp hl hb4 (by simp) (by omega) (by omega)
  have HNU := Lib.hid hN
  have HB2 := Lib.hid hb2
  have HO2 := Lib.hid hO2
  have HPW := Lib.hid hpw
  have HPL := Lib.hid hp
  have HL := Lib.hid hl
  have HC := Lib.hid hc
  have HS2 := Lib.hid hs2
  have HW2 := Lib.hid hw2
  clear h hp hl hc hN hb2 hb4 hO2 hpw hs2 hw2
  go_enter Try.func78, Try.ntmps78
  go_upto_region 2 with fail
  rw [show (w.alloc (.cells #[Value.int .i64 0, .int .i64 0, .int .i64 0, .int .i64 0, .int .i64 0, .int .i64 0, .int .i64 0, .int .i64 0, .int .i64 0, .int .i64 0, .int .i64 0, .int .i64 0, .int .i64 0, .slice none 0 0, .slice none 0 0] 58)).alloc (.cells #[Value.int .i64 0, .int .i64 0, .int .i64 0, .int .i64 0, .int .i64 0] 114) = w2 from HW2.out.symm]
  go_wp2_with fail
  refine HNU.out.mono ?_
  rintro e w3 ⟨pos', zs, hR, hp', hzl, hb4, hO3, ⟨k, hd, rfl, rfl⟩ | ⟨hd, rfl⟩⟩
  rotate_left
  · exact absurd hd HCASE.out.1
  have hb2 := HB2.out.only hO3 (fun hx => by have := HPW.out; rcases hx with hx | hx <;> omega)
  match zs, hzl with
  | [z0, z1, z2, z3, z4], _ =>
  have k2 : ∀ i, w3.cell? ⟨w.heap.size, i, none⟩ = #[Value.int .i64 0, .int .i64 0, .int .i64 0, .int .i64 0, .int .i64 0, .int .i64 0, .int .i64 0, .int .i64 0, .int .i64 0, .int .i64 0, .int .i64 0, .int .i64 0, .int .i64 0, .slice none 0 0, .slice none 0 0][i]? := fun i => hb2.cell i
  have f2 : ∀ i, w3.frozen? ⟨w.heap.size, i, none⟩ = false := fun i => hb2.frozen i
  have k4 : ∀ i, w3.cell? ⟨w.heap.size + 1, i, none⟩ = #[Value.int .i64 z0, .int .i64 z1, .int .i64 z2, .int .i64 z3, .int .i64 z4][i]? := fun i => hb4.cell i
  have hap := array_at4
  have hmz := msg_zero
  have d4 : ∀ i, w3.drew.cell? ⟨w.heap.size + 1, i, none⟩ = #[Value.int .i64 z0, .int .i64 z1, .int .i64 z2, .int .i64 z3, .int .i64 z4][i]? := fun i => hb4.drew.cell i
  have d2 : ∀ i, w3.drew.cell? ⟨w.heap.size, i, none⟩ = #[Value.int .i64 0, .int .i64 0, .int .i64 0, .int .i64 0, .int .i64 0, .int .i64 0, .int .i64 0, .int .i64 0, .int .i64 0, .int .i64 0, .int .i64 0, .int .i64 0, .int .i64 0, .slice none 0 0, .slice none 0 0][i]? := fun i => hb2.drew.cell i
  have HR := Lib.hid hR
  have HP' := Lib.hid hp'
  have HO3 := Lib.hid hO3
  have HD := Lib.hid hd
  have HB2 := Lib.hid hb2
  clear hR hp' hO3 hd hb2 hb4
  go_wp2_with fail
  go_still_tail 6, (by kernel_rfl)
  go_wp2_with fail
  obtain ⟨r0, hr0⟩ : ∃ r0 : FR, r0 = ⟨none, 0, none, 0, ⟨z0, z1, z2, z3, z4, zM, []⟩⟩ := ⟨_, rfl⟩
  obtain ⟨w4, hw4⟩ : ∃ w4, (setF w3 w.heap.size r0).drew = w4 := ⟨_, rfl⟩
  have hO4 : Only (One w.heap.size) w3 w4 := by rw [← hw4]; exact (setF_only _ _ _).drew
  have hb4 : Blk w4 w.heap.size 58 r0.cells.toArray := by rw [← hw4]; exact (setF_blk HB2.out rfl _).drew
  have hR4 : RR w4 p A c l (pos + k) f := HR.out.far HB2.out (fr_no _) (by have := HPW.out; omega) hO4
  have HO4 : Hid (Only (One p) w w4) := Lib.hid (((HO2.out.any (S := One p)).trans HO3.out (fun x hx => by rcases hx with hx | hx; exact .inl hx; exact .inr (by omega))).trans hO4 (fun x hx => .inr (by unfold One at hx; omega)))
  clear k2 d2 f2 k4 d4 hap hmz
  rw [show ((((((((((((((((w3.setCell ⟨w.heap.size, 0, none⟩ (.int .i64 z0)).setCell ⟨w.heap.size, 1, none⟩ (.int .i64 z1)).setCell ⟨w.heap.size, 2, none⟩ (.int .i64 z2)).setCell ⟨w.heap.size, 3, none⟩ (.int .i64 z3)).setCell ⟨w.heap.size, 4, none⟩ (.int .i64 z4)).setCell ⟨w.heap.size, 5, none⟩ (.int .i64 0)).setCell ⟨w.heap.size, 6, none⟩ (.int .i64 0)).setCell ⟨w.heap.size, 7, none⟩ (.int .i64 0)).setCell ⟨w.heap.size, 8, none⟩ (.int .i64 0)).setCell ⟨w.heap.size, 9, none⟩ (.int .i64 0)).setCell ⟨w.heap.size, 10, none⟩ (.int .i64 0)).setCell ⟨w.heap.size, 11, none⟩ (.int .i64 0)).setCell ⟨w.heap.size, 12, none⟩ (.int .i64 0)).setCell ⟨w.heap.size, 13, none⟩ (.slice none 0 0)).setCell ⟨w.heap.size, 14, none⟩ (.slice none 0 0))).drew = w4 from by rw [← hw4, hr0]; rfl]
  clear hw4
  have HMS := Lib.hid (rdmsg_any p A c l (pos + k) f w4 hR4 HP'.out HL.out HC.out)
  have HB4 := Lib.hid hb4
  clear hO4 hb4 hR4
  refine HMS.out.mono ?_
  clear HMS
  rintro e w5 ⟨pos', hR, hp', hO5, ⟨m, n, Ax, cx, hdm, rfl, rfl, hcx, hown⟩ | ⟨hdm, rfl⟩⟩
  rotate_left
  · exact absurd hdm (HCASE.out.2 _ _ HD.out).1
  have hb5 := HB4.out.only hO5 (fun hx => by have := HPW.out; unfold One at hx; omega)
  have hb6 := setFM_blk hb5 Ax cx m
  have hO6 := setFM_only w5 w.heap.size Ax cx m
  rw [hr0] at hb6
  dsimp only at hb6
  obtain ⟨r1, hr1⟩ : ∃ r1 : FR, r1 = ⟨Ax, cx, none, 0, ⟨z0, z1, z2, z3, z4, m, []⟩⟩ := ⟨_, rfl⟩
  rw [← hr1] at hb6
  have k5 : ∀ i, w5.cell? ⟨w.heap.size, i, none⟩ = r0.cells.toArray[i]? := fun i => hb5.cell i
  have f5 : ∀ i, w5.frozen? ⟨w.heap.size, i, none⟩ = false := fun i => hb5.frozen i
  rw [hr0] at k5
  unfold FR.cells mcells zM at k5
  simp only [List.cons_append, List.nil_append] at k5
  have hR6 := hR.far hb5 (fr_no _) (by have := HPW.out; omega) hO6
  have hown6 := own_only hown hO6 (fun q hq hx => own_blk_ne hown hb5 (by decide) (by rw [hq, hx]))
  have HO6 : Hid (Only (One p) w (setFM w5 w.heap.size Ax cx m)) := Lib.hid ((HO4.out.then_ hO5).trans hO6 (fun x hx => .inr (by unfold One at hx; omega)))
  obtain ⟨w6, hw6⟩ : ∃ w6, w6 = setFM w5 w.heap.size Ax cx m := ⟨_, rfl⟩
  rw [← hw6] at hb6 hO6 hR6 hown6 HO6
  have hdb0 : decF (l.drop pos) = match decB 1536 (l.drop (pos + k + n)) with | some (d, i) => some (⟨z0, z1, z2, z3, z4, m, d⟩, k + n + i) | none => none := by
    unfold decF
    rw [HD.out]
    dsimp only
    rw [List.drop_drop, hdm]
    dsimp only
    rw [List.drop_drop, Nat.add_assoc pos k n]
    rfl
  have HDB := Lib.hid hdb0
  have HBC := Lib.hid ((HCASE.out.2 _ _ HD.out).2 _ _ hdm)
  have HBY := Lib.hid (rdbytes_any 1536 p A c l (pos + k + n) f w6 hR6 hp' HL.out HC.out)
  have HB6 := Lib.hid hb6
  have HCX := Lib.hid hcx
  have HOWN6 := Lib.hid hown6
  have HS4 := Lib.hid (show w.heap.size ≤ w4.heap.size from HO4.out.size)
  have HS46 := Lib.hid (show w4.heap.size ≤ w6.heap.size from Nat.le_trans hO5.size hO6.size)
  unfold setFM at hw6
  have HR1 := Lib.hid hr1
  clear hdb0 hb5 hb6 hcx hown hown6 hR hR6 hp' hO5 hO6 hdm hr0 hr1
  obtain ⟨src, dst, kind, seq, a0, a1, a2, a3, dt⟩ := m
  unfold mcells
  dsimp only at hw6 HR1 HOWN6 HCX HDB ⊢
  obtain ⟨X, hX⟩ : ∃ X, dt.length = X := ⟨_, rfl⟩
  rw [hX] at hw6 ⊢
  have HX := Lib.hid hX
  have HW6 := Lib.hid hw6
  clear hw6 hX
  go_upto_region 8 with fail
  rw [← HW6.out]
  clear k5 f5
  go_wp2_with fail
  refine HBY.out.mono ?_
  clear HBY
  rintro e w7 ⟨pos', hR, hp', hO7, ⟨x, i, Ay, cy, hdb, rfl, rfl, hcy, hown⟩ | ⟨hdb, rfl⟩⟩
  · have hF : decF (l.drop pos) = some (⟨z0, z1, z2, z3, z4, ⟨src, dst, kind, seq, a0, a1, a2, a3, dt⟩, x⟩, k + n + i) := by rw [HDB.out, hdb]
    have hb7 := HB6.out.only hO7 (fun hx => by have := HPW.out; unfold One at hx; omega)
    have hownm := own_only HOWN6.out hO7 (fun q hq hx => by
      have h1 := ownBlock_ge HOWN6.out hq
      have h2 := HS4.out
      have h3 := HPW.out
      unfold One at hx
      omega)
    obtain ⟨w8, hw8⟩ : ∃ w8, w8 = w7.setCell ⟨w.heap.size, 14, none⟩ (.slice Ay x.length cy) := ⟨_, rfl⟩
    obtain ⟨r2, hr2⟩ : ∃ r2 : FR, r2 = ⟨Ax, cx, Ay, cy, ⟨z0, z1, z2, z3, z4, ⟨src, dst, kind, seq, a0, a1, a2, a3, dt⟩, x⟩⟩ := ⟨_, rfl⟩
    have hO8 : Only (One w.heap.size) w7 w8 := by rw [hw8]; (repeat' (first | with_reducible exact Only.refl _ _ | with_reducible refine Only.setCell ?_ (Or.inl ?_) _ | with_reducible refine Only.drewN ?_ _ | with_reducible refine Only.drew ?_ | with_reducible refine Only.alloc ?_ _ | (exact rfl)))
    have hb8 : Blk w8 w.heap.size 58 r2.cells.toArray := by
      rw [hw8, hr2]
      have := hb7.set_ 14 (.slice Ay x.length cy)
      rw [HR1.out] at this
      simpa [FR.cells, mcells] using this
    have hR8 := hR.far hb7 (fr_no _) (by have := HPW.out; omega) hO8
    have hown8 := own_only hown hO8 (fun q hq hx => own_blk_ne hown hb7 (by decide) (by rw [hq, hx]))
    have hownm8 := own_only hownm hO8 (fun q hq hx => own_blk_ne hownm hb7 (by decide) (by rw [hq, hx]))
    have hOall : Only (One p) w w8 := (HO6.out.then_ hO7).trans hO8 (fun x hx => .inr (by unfold One at hx; omega))
    have hfin : ∀ u, Only (One w.heap.size) w8 u → EffPost p A c l pos f w (.returned (.tuple #[.agg r2.cells.toArray, .bool true])) u := fun u hu =>
      ⟨pos + k + n + i, hR8.far hb8 (fr_no _) (by have := HPW.out; omega) hu, hp', hOall.trans hu (fun x hx => .inr (by unfold One at hx; omega)), .inl ⟨r2, k + n + i, by rw [hF, hr2], by omega, rfl, by rw [hr2]; exact HCX.out, by
        rw [hr2]
        exact own_base (own_only hownm8 hu (fun q hq hx => own_blk_ne hownm8 hb8 (by decide) (by rw [hq, hx]))) HS4.out, by rw [hr2]; exact hcy, by
        rw [hr2]
        exact own_base (own_only hown8 hu (fun q hq hx => own_blk_ne hown8 hb8 (by decide) (by rw [hq, hx]))) (Nat.le_trans HS4.out HS46.out)⟩⟩
    have k7 : ∀ i, w7.cell? ⟨w.heap.size, i, none⟩ = r1.cells.toArray[i]? := fun i => hb7.cell i
    have f7 : ∀ i, w7.frozen? ⟨w.heap.size, i, none⟩ = false := fun i => hb7.frozen i
    have k8 : ∀ i, w8.cell? ⟨w.heap.size, i, none⟩ = r2.cells.toArray[i]? := fun i => hb8.cell i
    have f8 : ∀ i, w8.frozen? ⟨w.heap.size, i, none⟩ = false := fun i => hb8.frozen i
    have hfin9 := hfin _ (setF_only w8 w.heap.size r2)
    have hb9 := setF_blk hb8 rfl r2
    obtain ⟨w9, hw9⟩ : ∃ w9, w9 = setF w8 w.heap.size r2 := ⟨_, rfl⟩
    rw [← hw9] at hb9 hfin9
    have k9 : ∀ i, w9.cell? ⟨w.heap.size, i, none⟩ = r2.cells.toArray[i]? := fun i => hb9.cell i
    unfold setF at hw9
    rw [HR1.out] at k7
    rw [hr2] at k8 k9 hfin9 hw9
    dsimp only at hw9
    unfold FR.cells mcells at k7 k8 k9 hfin9
    simp only [List.cons_append, List.nil_append] at k7 k8 k9 hfin9
    obtain ⟨Y, hY⟩ : ∃ Y, x.length = Y := ⟨_, rfl⟩
    rw [hY] at hw8 hw9 k8 k9 hfin9 ⊢
    rw [HX.out] at k7 k8 k9 hw9 hfin9
    have HF := Lib.hid hfin9
    have HW9 := Lib.hid hw9
    have HW8 := Lib.hid hw8
    clear hfin hfin9 hb9 hw9 hw8 hr2 hO8 hb8 hR8 hown8 hownm8 hOall hb7 hownm hF hdb hcy hown hR hp' hO7 hY
    go_upto_region 9 with fail
    rw [← HW8.out]
    clear k7 f7
    go_wp2_with fail
    rw [show (((((((((((((((w8.setCell ⟨w.heap.size, 0, none⟩ (.int .i64 z0)).setCell ⟨w.heap.size, 1, none⟩ (.int .i64 z1)).setCell ⟨w.heap.size, 2, none⟩ (.int .i64 z2)).setCell ⟨w.heap.size, 3, none⟩ (.int .i64 z3)).setCell ⟨w.heap.size, 4, none⟩ (.int .i64 z4)).setCell ⟨w.heap.size, 5, none⟩ (.int .i64 src)).setCell ⟨w.heap.size, 6, none⟩ (.int .i64 dst)).setCell ⟨w.heap.size, 7, none⟩ (.int .i64 kind)).setCell ⟨w.heap.size, 8, none⟩ (.int .i64 seq)).setCell ⟨w.heap.size, 9, none⟩ (.int .i64 a0)).setCell ⟨w.heap.size, 10, none⟩ (.int .i64 a1)).setCell ⟨w.heap.size, 11, none⟩ (.int .i64 a2)).setCell ⟨w.heap.size, 12, none⟩ (.int .i64 a3)).setCell ⟨w.heap.size, 13, none⟩ (.slice Ax X cx)).setCell ⟨w.heap.size, 14, none⟩ (.slice Ay Y cy)) = w9 from HW9.out.symm]
    refine bodyPost_ret (v := .tuple #[.agg #[Value.int .i64 z0, .int .i64 z1, .int .i64 z2, .int .i64 z3, .int .i64 z4, .int .i64 src, .int .i64 dst, .int .i64 kind, .int .i64 seq, .int .i64 a0, .int .i64 a1, .int .i64 a2, .int .i64 a3, .slice Ax X cx, .slice Ay Y cy], .bool true]) (by simp [results, Try.results78, go_sem, k9]) rfl ?_
    exact HF.out
  · exact absurd hdb HBC.out

end Go.Proofs.Ytbhgaaendekghaa
