/-
  The walk of wire's effect, case 2.
  Conditions: the reader stands within its bytes; they are at most 2 to the power 40.
-/
import Derived.Test.YtbhgaaendekghaaEfR0
namespace Go.Proofs.Ytbhgaaendekghaa
open Go.RowKit

set_option maxRecDepth 100000 in
set_option maxHeartbeats 4000000 in
theorem rdeff2 (p : Nat) (A : Option Addr) (c : Nat) (l : List UInt8) (pos : Nat) (f : Bool) (w : World) (h : RR w p A c l pos f) (hp : pos ≤ l.length) (hl : l.length ≤ 1099511627776) (hc : c ≤ maxLen) (hcase : decN 5 (l.drop pos) ≠ none ∧ ∀ zs k, decN 5 (l.drop pos) = some (zs, k) → decM (l.drop (pos + k)) = none) :
    Calls Try.prog 78 #[.pointer (some ⟨p, 0, none⟩)] w (EffPost p A c l pos f w) := by
  obtain ⟨w2, hw2⟩ : ∃ w2, w2 = (w.alloc (.cells zFR.cells.toArray 58)).alloc (.cells (ints (List.replicate 5 0)) 114) := ⟨_, rfl⟩
  have hO2 : Only Nil w w2 := by rw [hw2]; exact ((Only.refl _ _).alloc _).alloc _
  have hb2 : Blk w2 w.heap.size 58 zFR.cells.toArray := by rw [hw2]; exact (Blk.new _ _ _).alloc _
  have hb4 : Blk w2 (w.heap.size + 1) 114 (ints (List.replicate 5 0)) := by
    rw [hw2]
    have := Blk.new (w.alloc (.cells zFR.cells.toArray 58)) 114 (ints (List.replicate 5 0))
    rw [World.size_alloc] at this
    exact this
  have hpw := h.box.lt
  have HCASE := Lib.hid hcase
  clear hcase
  have hs2 : w2.heap.size = w.heap.size + 1 + 1 := by rw [hw2, World.size_alloc, World.size_alloc]
  have hN := numbers_any 5 (w.heap.size + 1) 5 114 (List.replicate 5 0) p A c l pos f w2 (h.onlyNil hO2) hp hl hb4 (by simp) (by omega) (by omega)
  have HNU := Lib.hid hN
  have HB2 := Lib.hid hb2
  have HO2 := Lib.hid hO2
  have HPW := Lib.hid hpw
  have HPL := Lib.hid hp
  have HL := Lib.hid hl
  have HC := Lib.hid hc
  have HS2 := Lib.hid hs2
  have HW2 := Lib.hid hw2
  clear h hp hl hc hN hb2 hb4 hO2 hpw hs2 hw2
  go_enter Try.func78, Try.ntmps78
  go_upto_region 2 with fail
  rw [show (w.alloc (.cells #[Value.int .i64 0, .int .i64 0, .int .i64 0, .int .i64 0, .int .i64 0, .int .i64 0, .int .i64 0, .int .i64 0, .int .i64 0, .int .i64 0, .int .i64 0, .int .i64 0, .int .i64 0, .slice none 0 0, .slice none 0 0] 58)).alloc (.cells #[Value.int .i64 0, .int .i64 0, .int .i64 0, .int .i64 0, .int .i64 0] 114) = w2 from HW2.out.symm]
  go_wp2_with fail
  refine HNU.out.mono ?_
  rintro e w3 ⟨pos', zs, hR, hp', hzl, hb4, hO3, ⟨k, hd, rfl, rfl⟩ | ⟨hd, rfl⟩⟩
  rotate_left
  · exact absurd hd HCASE.out.1
  have hb2 := HB2.out.only hO3 (fun hx => by have := HPW.out; rcases hx with hx | hx <;> omega)
  match zs, hzl with
  | [z0, z1, z2, z3, z4], _ =>
  have k2 : ∀ i, w3.cell? ⟨w.heap.size, i, none⟩ = #[Value.int .i64 0, .int .i64 0, .int .i64 0, .int .i64 0, .int .i64 0, .int .i64 0, .int .i64 0, .int .i64 0, .int .i64 0, .int .i64 0, .int .i64 0, .int .i64 0, .int .i64 0, .slice none 0 0, .slice none 0 0][i]? := fun i => hb2.cell i
  have f2 : ∀ i, w3.frozen? ⟨w.heap.size, i, none⟩ = false := fun i => hb2.frozen i
  have k4 : ∀ i, w3.cell? ⟨w.heap.size + 1, i, none⟩ = #[Value.int .i64 z0, .int .i64 z1, .int .i64 z2, .int .i64 z3, .int .i64 z4][i]? := fun i => hb4.cell i
  have hap := array_at4
  have hmz := msg_zero
  have d4 : ∀ i, w3.drew.cell? ⟨w.heap.size + 1, i, none⟩ = #[Value.int .i64 z0, .int .i64 z1, .int .i64 z2, .int .i64 z3, .int .i64 z4][i]? := fun i => hb4.drew.cell i
  have d2 : ∀ i, w3.drew.cell? ⟨w.heap.size, i, none⟩ = #[Value.int .i64 0, .int .i64 0, .int .i64 0, .int .i64 0, .int .i64 0, .int .i64 0, .int .i64 0, .int .i64 0, .int .i64 0, .int .i64 0, .int .i64 0, .int .i64 0, .int .i64 0, .slice none 0 0, .slice none 0 0][i]? := fun i => hb2.drew.cell i
  have HR := Lib.hid hR
  have HP' := Lib.hid hp'
  have HO3 := Lib.hid hO3
  have HD := Lib.hid hd
  have HB2 := Lib.hid hb2
  clear hR hp' hO3 hd hb2 hb4
  go_wp2_with fail
  go_still_tail 6, (by kernel_rfl)
  go_wp2_with fail
  obtain ⟨r0, hr0⟩ : ∃ r0 : FR, r0 = ⟨none, 0, none, 0, ⟨z0, z1, z2, z3, z4, zM, []⟩⟩ := ⟨_, rfl⟩
  obtain ⟨w4, hw4⟩ : ∃ w4, (setF w3 w.heap.size r0).drew = w4 := ⟨_, rfl⟩
  have hO4 : Only (One w.heap.size) w3 w4 := by rw [← hw4]; exact (setF_only _ _ _).drew
  have hb4 : Blk w4 w.heap.size 58 r0.cells.toArray := by rw [← hw4]; exact (setF_blk HB2.out rfl _).drew
  have hR4 : RR w4 p A c l (pos + k) f := HR.out.far HB2.out (fr_no _) (by have := HPW.out; omega) hO4
  have HO4 : Hid (Only (One p) w w4) := Lib.hid (((HO2.out.any (S := One p)).trans HO3.out (fun x hx => by rcases hx with hx | hx; exact .inl hx; exact .inr (by omega))).trans hO4 (fun x hx => .inr (by unfold One at hx; omega)))
  clear k2 d2 f2 k4 d4 hap hmz
  rw [show ((((((((((((((((w3.setCell ⟨w.heap.size, 0, none⟩ (.int .i64 z0)).setCell ⟨w.heap.size, 1, none⟩ (.int .i64 z1)).setCell ⟨w.heap.size, 2, none⟩ (.int .i64 z2)).setCell ⟨w.heap.size, 3, none⟩ (.int .i64 z3)).setCell ⟨w.heap.size, 4, none⟩ (.int .i64 z4)).setCell ⟨w.heap.size, 5, none⟩ (.int .i64 0)).setCell ⟨w.heap.size, 6, none⟩ (.int .i64 0)).setCell ⟨w.heap.size, 7, none⟩ (.int .i64 0)).setCell ⟨w.heap.size, 8, none⟩ (.int .i64 0)).setCell ⟨w.heap.size, 9, none⟩ (.int .i64 0)).setCell ⟨w.heap.size, 10, none⟩ (.int .i64 0)).setCell ⟨w.heap.size, 11, none⟩ (.int .i64 0)).setCell ⟨w.heap.size, 12, none⟩ (.int .i64 0)).setCell ⟨w.heap.size, 13, none⟩ (.slice none 0 0)).setCell ⟨w.heap.size, 14, none⟩ (.slice none 0 0))).drew = w4 from by rw [← hw4, hr0]; rfl]
  clear hw4
  have HMS := Lib.hid (rdmsg_any p A c l (pos + k) f w4 hR4 HP'.out HL.out HC.out)
  have HB4 := Lib.hid hb4
  clear hO4 hb4 hR4
  refine HMS.out.mono ?_
  clear HMS
  rintro e w5 ⟨pos', hR, hp', hO5, ⟨m, n, Ax, cx, hdm, rfl, rfl, hcx, hown⟩ | ⟨hdm, rfl⟩⟩
  rotate_left
  · have hM : decF (l.drop pos) = none := by
      unfold decF
      rw [HD.out]
      dsimp only
      rw [List.drop_drop, hdm]
    have hb5 := HB4.out.only hO5 (fun hx => by have := HPW.out; unfold One at hx; omega)
    rw [hr0] at hb5
    have k5 : ∀ i, w5.cell? ⟨w.heap.size, i, none⟩ = #[Value.int .i64 z0, .int .i64 z1, .int .i64 z2, .int .i64 z3, .int .i64 z4, .int .i64 0, .int .i64 0, .int .i64 0, .int .i64 0, .int .i64 0, .int .i64 0, .int .i64 0, .int .i64 0, .slice none 0 0, .slice none 0 0][i]? := fun i => hb5.cell i
    have f5 : ∀ i, w5.frozen? ⟨w.heap.size, i, none⟩ = false := fun i => hb5.frozen i
    have hb6 := setFM_blk hb5 none 0 zM
    have hO6 := setFM_only w5 w.heap.size none 0 zM
    obtain ⟨w6, hw6⟩ : ∃ w6, w6 = setFM w5 w.heap.size none 0 zM := ⟨_, rfl⟩
    rw [← hw6] at hb6 hO6
    have hR6 := hR.far hb5 (fr_no _) (by have := HPW.out; omega) hO6
    have hfin : ∀ u, Only (One w.heap.size) w6 u → EffPost p A c l pos f w (.returned (.tuple #[.agg zFR.cells.toArray, .bool false])) u := fun u hu =>
      ⟨pos', hR6.far hb6 (fr_no _) (by have := HPW.out; omega) hu, hp', ((HO4.out.then_ hO5).trans hO6 (fun x hx => .inr (by unfold One at hx; omega))).trans hu (fun x hx => .inr (by unfold One at hx; omega)), .inr ⟨hM, zFR, rfl⟩⟩
    have k6 : ∀ i, w6.cell? ⟨w.heap.size, i, none⟩ = #[Value.int .i64 z0, .int .i64 z1, .int .i64 z2, .int .i64 z3, .int .i64 z4, .int .i64 0, .int .i64 0, .int .i64 0, .int .i64 0, .int .i64 0, .int .i64 0, .int .i64 0, .int .i64 0, .slice none 0 0, .slice none 0 0][i]? := fun i => hb6.cell i
    have f6 : ∀ i, w6.frozen? ⟨w.heap.size, i, none⟩ = false := fun i => hb6.frozen i
    have HF := Lib.hid (hfin _ (setF_only w6 w.heap.size zFR))
    have hb9 := setF_blk hb6 rfl zFR
    obtain ⟨w9, hw9⟩ : ∃ w9, w9 = setF w6 w.heap.size zFR := ⟨_, rfl⟩
    rw [← hw9] at hb9 HF
    have k9 : ∀ i, w9.cell? ⟨w.heap.size, i, none⟩ = #[Value.int .i64 0, .int .i64 0, .int .i64 0, .int .i64 0, .int .i64 0, .int .i64 0, .int .i64 0, .int .i64 0, .int .i64 0, .int .i64 0, .int .i64 0, .int .i64 0, .int .i64 0, .slice none 0 0, .slice none 0 0][i]? := fun i => hb9.cell i
    have HW9 := Lib.hid hw9
    clear hb9 hw9
    unfold setFM zM at hw6
    dsimp only at hw6
    rw [show ([] : List UInt8).length = 0 from rfl] at hw6
    have HW6 := Lib.hid hw6
    unfold mcells zM
    dsimp only
    clear hR hp' hO5 hdm hM hb5 hfin hb6 hO6 hR6 hw6
    go_upto_region 6 with fail
    rw [← HW6.out]
    clear k5 f5
    go_wp2_with fail
    rw [show (((((((((((((((w6.setCell ⟨w.heap.size, 0, none⟩ (.int .i64 0)).setCell ⟨w.heap.size, 1, none⟩ (.int .i64 0)).setCell ⟨w.heap.size, 2, none⟩ (.int .i64 0)).setCell ⟨w.heap.size, 3, none⟩ (.int .i64 0)).setCell ⟨w.heap.size, 4, none⟩ (.int .i64 0)).setCell ⟨w.heap.size, 5, none⟩ (.int .i64 0)).setCell ⟨w.heap.size, 6, none⟩ (.int .i64 0)).setCell ⟨w.heap.size, 7, none⟩ (.int .i64 0)).setCell ⟨w.heap.size, 8, none⟩ (.int .i64 0)).setCell ⟨w.heap.size, 9, none⟩ (.int .i64 0)).setCell ⟨w.heap.size, 10, none⟩ (.int .i64 0)).setCell ⟨w.heap.size, 11, none⟩ (.int .i64 0)).setCell ⟨w.heap.size, 12, none⟩ (.int .i64 0)).setCell ⟨w.heap.size, 13, none⟩ (.slice none 0 0)).setCell ⟨w.heap.size, 14, none⟩ (.slice none 0 0)) = w9 from HW9.out.symm]
    refine bodyPost_ret (v := .tuple #[.agg zFR.cells.toArray, .bool false]) (by simp [results, Try.results78, go_sem, k9, FR.cells, mcells, zFR, zF, zM]) rfl ?_
    exact HF.out
  have h1 := HCASE.out.2 _ _ HD.out
  rw [hdm] at h1
  cases h1

end Go.Proofs.Ytbhgaaendekghaa
