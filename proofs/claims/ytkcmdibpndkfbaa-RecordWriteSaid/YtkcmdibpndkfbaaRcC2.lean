/-
  The walk of record.begin.
  No conditions.
-/
import Derived.Test.YtkcmdibpndkfbaaRcQ
import Derived.Test.YtkcmdibpndkfbaaRcC1
import Derived.Lib.SlBytesConst
namespace Go.Proofs.Ytkcmdibpndkfbaa
open Go.RowKit

set_option maxRecDepth 100000 in
set_option maxHeartbeats 1000000 in
theorem begin_any (w : World) :
    Calls Try.prog 19 #[] w fun e w' => ∃ p A c, e = .returned (.pointer (some ⟨p, 0, none⟩)) ∧ CH w.heap.size p A c magic (ofS magic) w' ∧ Only Nil w w' := by
  obtain ⟨W1, hW1⟩ : ∃ W1, W1 = w.alloc (.cells #[.int .u8 82, .int .u8 84, .int .u8 78, .int .u8 82, .int .u8 49] 5 (5, 6)) := ⟨_, rfl⟩
  obtain ⟨W2, hW2⟩ : ∃ W2, W2 = W1.alloc (.cells #[.int .u8 82, .int .u8 84, .int .u8 78, .int .u8 82, .int .u8 49] 5 (5, 6)) := ⟨_, rfl⟩
  have hs1 : W1.heap.size = w.heap.size + 1 := by rw [hW1]; exact World.size_alloc _ _
  have hO1 : Only Nil w W1 := by rw [hW1]; exact (Only.refl _ _).alloc _
  have hO12 : Only Nil W1 W2 := by rw [hW2]; exact (Only.refl _ _).alloc _
  have hown1 : OwnX W1 w.heap.size (some ⟨w.heap.size, 0, none⟩) 5 magic := by
    rw [hW1]
    exact .inr ⟨_, _, rfl, rfl, Nat.le_refl _, heap_alloc_new w _, Nat.le_refl _, by decide, by decide⟩
  have hown2 : OwnX W2 W1.heap.size (some ⟨W1.heap.size, 0, none⟩) 5 magic := by
    rw [hW2]
    exact .inr ⟨_, _, rfl, rfl, Nat.le_refl _, heap_alloc_new W1 _, Nat.le_refl _, by decide, by decide⟩
  have hof := of_any _ 5 magic W2 hown2.bs (by decide)
  rw [show magic.length = 5 from rfl, hs1] at hof
  obtain ⟨S, hS⟩ : ∃ S, ofS magic = S := ⟨_, rfl⟩
  rw [hS] at hof ⊢
  have HOF := Lib.hid hof
  have HW1 := Lib.hid hW1
  have HW2 := Lib.hid hW2
  have HOWN := Lib.hid (hown1.onlyNil hO12)
  have HO := Lib.hid (hO1.thenNil hO12)
  have kc := fun (w : World) (C : Array Value) (n c : Nat) => Lib.run_convert_bytes_const (P := Try.prog) w 26 5 C n c Try.underlying26 Try.underlying5
  have kc3 := kc W1 #[.int .u8 82, .int .u8 84, .int .u8 78, .int .u8 82, .int .u8 49] 5 5
  rw [hs1] at kc3
  have KC2 := Lib.hid kc3
  clear kc3 hW1 hW2 hof hs1 hO1 hO12 hown1 hown2 hS
  go_enter Try.func19, Try.ntmps19
  go_upto_region 1 with fail
  go_wp2_with fail
  rw [← HW1.out]
  rw [KC2.out]
  go_wp2_with fail
  rw [← HW2.out]
  refine HOF.out.mono ?_
  rintro e w3 ⟨rfl, hO3⟩
  have HO3 := Lib.hid hO3
  clear hO3
  go_wp2_with fail
  go_ret
  have hO4 : Only Nil w3 (w3.alloc (.cells #[.slice (some ⟨w.heap.size, 0, none⟩) 5 5, .int .u64 S] 49)) := (Only.refl _ _).alloc _
  refine ⟨w3.heap.size, some ⟨w.heap.size, 0, none⟩, 5, rfl, ⟨?_, Blk.new _ _ _, by decide, ?_⟩, (HO.out.thenNil HO3.out).thenNil hO4⟩
  · have := HO.out.size; have := HO3.out.size; omega
  · exact HOWN.out.onlyNil (HO3.out.thenNil hO4)

end Go.Proofs.Ytkcmdibpndkfbaa
