/-
  The walk of wire.ReadEntry.
  Conditions: the bytes can be read; they are at most 2 to the power 40.
-/
import Derived.Test.YtkcmdibpndkfbaaRdEnt
namespace Go.Proofs.Ytkcmdibpndkfbaa
open Go.RowKit

set_option maxRecDepth 100000 in
set_option maxHeartbeats 2000000 in
theorem readEntry_any (A : Option Addr) (c : Nat) (l : List UInt8) (w : World) (h : Bs w w.heap.size A l) (hl : l.length ≤ 1099511627776) :
    Calls Try.prog 37 #[.slice A l.length c] w (RdEPost (readE l) w) := by
  obtain ⟨N, hN⟩ : ∃ N, l.length = N := ⟨_, rfl⟩
  obtain ⟨w2, hw2⟩ : ∃ w2, w2 = w.alloc (.cells #[Value.int .i64 0, .int .i64 0, .int .i64 0, .int .i64 0, .int .i64 0, .int .i64 0, .int .i64 0, .slice none 0 0] 39) := ⟨_, rfl⟩
  have hO2 : Only Nil w w2 := by rw [hw2]; exact (Only.refl _ _).alloc _
  have hb1 : Blk w2 w.heap.size 39 #[Value.int .i64 0, .int .i64 0, .int .i64 0, .int .i64 0, .int .i64 0, .int .i64 0, .int .i64 0, .slice none 0 0] := by rw [hw2]; exact Blk.new _ _ _
  have hwh := wholeE_any A c l w2 (h.onlyNil hO2 (Nat.le_refl _) |>.up hO2.size) hl
  obtain ⟨⟨x, q⟩, hR⟩ : ∃ R, readE l = R := ⟨_, rfl⟩
  rw [hN, hR] at hwh
  rw [hN, hR]
  have HW2 := Lib.hid hw2
  have HO2 := Lib.hid hO2
  have HB1 := Lib.hid hb1
  have HWH := Lib.hid hwh
  clear hw2 hO2 hb1 hwh hN hl h hR
  go_enter Try.func37, Try.ntmps37
  go_upto_region 1 with fail
  rw [← HW2.out]
  go_wp2_with fail
  refine HWH.out.mono ?_
  rintro e w3 ⟨Ax, cx, rfl, hcx, hown, hO3⟩
  have hb3 := HB1.out.onlyNil hO3
  have hfin : ∀ v, Only (One w.heap.size) w3 v → RdEPost (x, q) w (.returned (.tuple #[.agg (ecl Ax cx x), .int .i64 q])) v := fun v h2 => by
    have h3 : Only Nil w v := (HO2.out.thenNil hO3).trans h2 (fun x hx => .inr (by unfold One at hx; omega))
    refine ⟨Ax, cx, rfl, hcx, ?_, h3⟩
    refine own_only (own_base hown HO2.out.size) h2 (fun q hq hx => ?_)
    have h4 := ownBlock_ge hown hq
    have := HB1.out.lt
    unfold One at hx
    omega
  have HFIN := Lib.hid hfin
  have kr : ∀ i, w3.cell? ⟨w.heap.size, i, none⟩ = #[Value.int .i64 0, .int .i64 0, .int .i64 0, .int .i64 0, .int .i64 0, .int .i64 0, .int .i64 0, .slice none 0 0][i]? := fun i => hb3.cell i
  have fr : ∀ i, w3.frozen? ⟨w.heap.size, i, none⟩ = false := fun i => hb3.frozen i
  clear hb3 hfin hown hO3 hcx
  obtain ⟨kind, task, call, a0, a1, a2, result, data⟩ := x
  unfold ecl ER.cells
  dsimp only
  go_wp2_with fail
  refine bodyPost_ret (v := .tuple #[.agg #[Value.int .i64 kind, .int .i64 task, .int .i64 call, .int .i64 a0, .int .i64 a1, .int .i64 a2, .int .i64 result, .slice Ax data.length cx], .int .i64 q]) (by simp [results, Try.results37, go_sem, kr]) rfl ?_
  refine HFIN.out _ ?_
  (repeat' (first | with_reducible exact Only.refl _ _ | with_reducible refine Only.setCell ?_ (Or.inl ?_) _ | with_reducible refine Only.drewN ?_ _ | with_reducible refine Only.drew ?_ | with_reducible refine Only.alloc ?_ _ | (exact rfl)))

end Go.Proofs.Ytkcmdibpndkfbaa
