/-
  The walk of wire's effect, case 1.
  Conditions: the reader stands within its bytes; they are at most 2 to the power 40.
-/
import Derived.Test.YtbhgaaendekghaaEfR0
namespace Go.Proofs.Ytbhgaaendekghaa
open Go.RowKit

set_option maxRecDepth 100000 in
set_option maxHeartbeats 4000000 in
theorem rdeff1 (p : Nat) (A : Option Addr) (c : Nat) (l : List UInt8) (pos : Nat) (f : Bool) (w : World) (h : RR w p A c l pos f) (hp : pos ≤ l.length) (hl : l.length ≤ 1099511627776) (hc : c ≤ maxLen) (hcase : decN 5 (l.drop pos) = none) :
    Calls Try.prog 78 #[.pointer (some ⟨p, 0, none⟩)] w (EffPost p A c l pos f w) := by
  obtain ⟨w2, hw2⟩ : ∃ w2, w2 = (w.alloc (.cells zFR.cells.toArray 58)).alloc (.cells (ints (List.replicate 5 0)) 114) := ⟨_, rfl⟩
  have hO2 : Only Nil w w2 := by rw [hw2]; exact ((Only.refl _ _).alloc _).alloc _
  have hb2 : Blk w2 w.heap.size 58 zFR.cells.toArray := by rw [hw2]; exact (Blk.new _ _ _).alloc _
  have hb4 : Blk w2 (w.heap.size + 1) 114 (ints (List.replicate 5 0)) := by
    rw [hw2]
    have := Blk.new (w.alloc (.cells zFR.cells.toArray 58)) 114 (ints (List.replicate 5 0))
    rw [World.size_alloc] at this
    exact this
  have hpw := h.box.lt
  have HCASE := Lib.hid hcase
  clear hcase
  have hs2 : w2.heap.size = w.heap.size + 1 + 1 := by rw [hw2, World.size_alloc, World.size_alloc]
  have hN := numbers_any 5 (w.heap.size + 1) 5 114 (List.replicate 5 0) p A c l pos f w2 (h.onlyNil hO2) hp hl hb4 (by simp) (by omega) (by omega)
  have HNU := Lib.hid hN
  have HB2 := Lib.hid hb2
  have HO2 := Lib.hid hO2
  have HPW := Lib.hid hpw
  have HPL := Lib.hid hp
  have HL := Lib.hid hl
  have HC := Lib.hid hc
  have HS2 := Lib.hid hs2
  have HW2 := Lib.hid hw2
  clear h hp hl hc hN hb2 hb4 hO2 hpw hs2 hw2
  go_enter Try.func78, Try.ntmps78
  go_upto_region 2 with fail
  rw [show (w.alloc (.cells #[Value.int .i64 0, .int .i64 0, .int .i64 0, .int .i64 0, .int .i64 0, .int .i64 0, .int .i64 0, .int .i64 0, .int .i64 0, .int .i64 0, .int .i64 0, .int .i64 0, .int .i64 0, .slice none 0 0, .slice none 0 0] 58)).alloc (.cells #[Value.int .i64 0, .int .i64 0, .int .i64 0, .int .i64 0, .int .i64 0] 114) = w2 from HW2.out.symm]
  go_wp2_with fail
  refine HNU.out.mono ?_
  rintro e w3 ⟨pos', zs, hR, hp', hzl, hb4, hO3, ⟨k, hd, rfl, rfl⟩ | ⟨hd, rfl⟩⟩
  rotate_left
  · have hM : decF (l.drop pos) = none := by unfold decF; rw [hd]
    have hb2 := HB2.out.only hO3 (fun hx => by have := HPW.out; rcases hx with hx | hx <;> omega)
    have k2 : ∀ i, w3.cell? ⟨w.heap.size, i, none⟩ = #[Value.int .i64 0, .int .i64 0, .int .i64 0, .int .i64 0, .int .i64 0, .int .i64 0, .int .i64 0, .int .i64 0, .int .i64 0, .int .i64 0, .int .i64 0, .int .i64 0, .int .i64 0, .slice none 0 0, .slice none 0 0][i]? := fun i => hb2.cell i
    have f2 : ∀ i, w3.frozen? ⟨w.heap.size, i, none⟩ = false := fun i => hb2.frozen i
    have hfin : ∀ u, Only (One w.heap.size) w3 u → EffPost p A c l pos f w (.returned (.tuple #[.agg zFR.cells.toArray, .bool false])) u := fun u hu =>
      ⟨pos', hR.far hb2 (fr_no _) (by have := HPW.out; omega) hu, hp', ((HO2.out.any (S := One p)).trans hO3 (fun x hx => by rcases hx with hx | hx; exact .inl hx; exact .inr (by omega))).trans hu (fun x hx => .inr (by unfold One at hx; omega)), .inr ⟨hM, zFR, rfl⟩⟩
    have HF := Lib.hid (hfin _ (setF_only w3 w.heap.size zFR))
    have hb9 := setF_blk hb2 rfl zFR
    obtain ⟨w9, hw9⟩ : ∃ w9, w9 = setF w3 w.heap.size zFR := ⟨_, rfl⟩
    rw [← hw9] at hb9 HF
    have k9 : ∀ i, w9.cell? ⟨w.heap.size, i, none⟩ = #[Value.int .i64 0, .int .i64 0, .int .i64 0, .int .i64 0, .int .i64 0, .int .i64 0, .int .i64 0, .int .i64 0, .int .i64 0, .int .i64 0, .int .i64 0, .int .i64 0, .int .i64 0, .slice none 0 0, .slice none 0 0][i]? := fun i => hb9.cell i
    have HW9 := Lib.hid hw9
    clear hR hp' hzl hb4 hO3 hd hM hb2 hfin hb9 hw9
    go_wp2_with fail
    rw [show (((((((((((((((w3.setCell ⟨w.heap.size, 0, none⟩ (.int .i64 0)).setCell ⟨w.heap.size, 1, none⟩ (.int .i64 0)).setCell ⟨w.heap.size, 2, none⟩ (.int .i64 0)).setCell ⟨w.heap.size, 3, none⟩ (.int .i64 0)).setCell ⟨w.heap.size, 4, none⟩ (.int .i64 0)).setCell ⟨w.heap.size, 5, none⟩ (.int .i64 0)).setCell ⟨w.heap.size, 6, none⟩ (.int .i64 0)).setCell ⟨w.heap.size, 7, none⟩ (.int .i64 0)).setCell ⟨w.heap.size, 8, none⟩ (.int .i64 0)).setCell ⟨w.heap.size, 9, none⟩ (.int .i64 0)).setCell ⟨w.heap.size, 10, none⟩ (.int .i64 0)).setCell ⟨w.heap.size, 11, none⟩ (.int .i64 0)).setCell ⟨w.heap.size, 12, none⟩ (.int .i64 0)).setCell ⟨w.heap.size, 13, none⟩ (.slice none 0 0)).setCell ⟨w.heap.size, 14, none⟩ (.slice none 0 0)) = w9 from HW9.out.symm]
    refine bodyPost_ret (v := .tuple #[.agg zFR.cells.toArray, .bool false]) (by simp [results, Try.results78, go_sem, k9, FR.cells, mcells, zFR, zF, zM]) rfl ?_
    exact HF.out
  rw [HCASE.out] at hd
  cases hd

end Go.Proofs.Ytbhgaaendekghaa
