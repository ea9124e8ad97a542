/-
  Walks of ref43: Valid, Quiet.
  No conditions.
-/
import Derived.Test.YtfichoekjjcjiaaStW9
import Derived.Test.YtfichoekjjcjiaaStR1
namespace Go.Proofs.Ytfichoekjjcjiaa
open Go.RowKit
namespace Ref

set_option maxRecDepth 100000 in
theorem quiet_any (l : Loc) (e : E) (w : World) : Calls Try.prog 29 #[.agg (ecells l e).toArray] w fun e' w' => e' = .returned (.bool (quiet e)) ∧ Only Nil w w' := by
  obtain ⟨out, base, closed, done, inn, next, ended, due⟩ := e
  unfold ecells
  dsimp only
  cases closed <;> cases done <;> cases ended
  all_goals
    go_enter Try.func29, Try.ntmps29
    go_wp2_with fail
    go_ret
    exact ⟨by first | rfl | (cases due <;> rfl), (Only.refl _ _).alloc _⟩

set_option maxRecDepth 100000 in
set_option maxHeartbeats 1000000 in
theorem valid_any (l : Loc) (e : E) (w : World) : Calls Try.prog 27 #[.agg (ecells l e).toArray] w fun e' w' => e' = .returned (.bool (decide (VE e))) ∧ Only Nil w w' := by
  obtain ⟨r, hr⟩ : ∃ r, decide (VE e) = r := ⟨_, rfl⟩
  rw [hr]
  have hy : VE e → r = true := fun h => by rw [← hr, decide_eq_true h]
  have hn : ¬ VE e → r = false := fun h => by rw [← hr, decide_eq_false h]
  have HY := Lib.hid hy
  have HN := Lib.hid hn
  clear hy hn hr
  obtain ⟨out, base, closed, done, inn, next, ended, due⟩ := e
  unfold ecells
  dsimp only
  by_cases c1 : out.length ≤ 128
  rotate_left
  · have d1 : ¬ ((out.length : Int) ≤ 128) := by omega
    have C1 := Lib.hid c1
    clear c1
    go_enter Try.func27, Try.ntmps27
    go_wp2_with fail
    go_ret
    exact ⟨by rw [HN.out (fun h => by have h1 := C1.out; have h2 := h.1; dsimp only at h2; omega)]; rfl, (Only.refl _ _).alloc _⟩
  have d1 : (out.length : Int) ≤ 128 := by omega
  by_cases c2 : inn.length ≤ 128
  rotate_left
  · have d2 : ¬ ((inn.length : Int) ≤ 128) := by omega
    have C2 := Lib.hid c2
    clear c2
    go_enter Try.func27, Try.ntmps27
    go_wp2_with fail
    go_ret
    exact ⟨by rw [HN.out (fun h => by have h1 := C2.out; have h2 := h.2.1; dsimp only at h2; omega)]; rfl, (Only.refl _ _).alloc _⟩
  have d2 : (inn.length : Int) ≤ 128 := by omega
  by_cases c3 : 0 ≤ base
  rotate_left
  · have d3 : ¬ ((0 : Int) ≤ base) := by omega
    have C3 := Lib.hid c3
    clear c3
    go_enter Try.func27, Try.ntmps27
    go_wp2_with fail
    go_ret
    exact ⟨by rw [HN.out (fun h => by have h1 := C3.out; have h2 := h.2.2.1.1; dsimp only at h2; omega)]; rfl, (Only.refl _ _).alloc _⟩
  have d3 : (0 : Int) ≤ base := by omega
  by_cases c4 : base ≤ 1099511626776
  rotate_left
  · have d4 : ¬ (base ≤ 1099511626776) := by omega
    have C4 := Lib.hid c4
    clear c4
    go_enter Try.func27, Try.ntmps27
    go_wp2_with fail
    go_ret
    exact ⟨by rw [HN.out (fun h => by have h1 := C4.out; have h2 := h.2.2.1.2; dsimp only at h2; omega)]; rfl, (Only.refl _ _).alloc _⟩
  have d4 : base ≤ 1099511626776 := by omega
  by_cases c5 : 0 ≤ next
  rotate_left
  · have d5 : ¬ ((0 : Int) ≤ next) := by omega
    have C5 := Lib.hid c5
    clear c5
    go_enter Try.func27, Try.ntmps27
    go_wp2_with fail
    go_ret
    exact ⟨by rw [HN.out (fun h => by have h1 := C5.out; have h2 := h.2.2.2.1.1; dsimp only at h2; omega)]; rfl, (Only.refl _ _).alloc _⟩
  have d5 : (0 : Int) ≤ next := by omega
  by_cases c6 : next ≤ 1099511626776
  rotate_left
  · have d6 : ¬ (next ≤ 1099511626776) := by omega
    have C6 := Lib.hid c6
    clear c6
    go_enter Try.func27, Try.ntmps27
    go_wp2_with fail
    go_ret
    exact ⟨by rw [HN.out (fun h => by have h1 := C6.out; have h2 := h.2.2.2.1.2; dsimp only at h2; omega)]; rfl, (Only.refl _ _).alloc _⟩
  have d6 : next ≤ 1099511626776 := by omega
  have C1 := Lib.hid c1
  have C2 := Lib.hid c2
  have C3 := Lib.hid c3
  have C4 := Lib.hid c4
  have C5 := Lib.hid c5
  have C6 := Lib.hid c6
  clear c1 c2 c3 c4 c5 c6
  by_cases z : out.length = 0
  · obtain rfl : out = [] := List.eq_nil_of_length_eq_zero z
    clear z
    by_cases y : inn.length = 0
    · obtain rfl : inn = [] := List.eq_nil_of_length_eq_zero y
      clear y
      cases done <;> cases closed
      · go_enter Try.func27, Try.ntmps27
        go_wp2_with fail
        go_ret
        exact ⟨by rw [HY.out ⟨C1.out, C2.out, ⟨C3.out, C4.out⟩, ⟨C5.out, C6.out⟩, fun h => Bool.noConfusion h, fun h => Bool.noConfusion h⟩]; rfl, (Only.refl _ _).alloc _⟩
      · go_enter Try.func27, Try.ntmps27
        go_wp2_with fail
        go_ret
        exact ⟨by rw [HY.out ⟨C1.out, C2.out, ⟨C3.out, C4.out⟩, ⟨C5.out, C6.out⟩, fun h => Bool.noConfusion h, fun _ => rfl⟩]; rfl, (Only.refl _ _).alloc _⟩
      · go_enter Try.func27, Try.ntmps27
        go_wp2_with fail
        go_ret
        exact ⟨by rw [HN.out (fun h => Bool.noConfusion (h.2.2.2.2.1 rfl).1)]; rfl, (Only.refl _ _).alloc _⟩
      · go_enter Try.func27, Try.ntmps27
        go_wp2_with fail
        go_ret
        exact ⟨by rw [HY.out ⟨C1.out, C2.out, ⟨C3.out, C4.out⟩, ⟨C5.out, C6.out⟩, fun _ => ⟨rfl, rfl⟩, fun _ => rfl⟩]; rfl, (Only.refl _ _).alloc _⟩
    · have y' : ((inn.length : Int) == 0) = false := by
        show decide ((inn.length : Int) = 0) = false
        rw [decide_eq_false_iff_not]
        omega
      have Y := Lib.hid y
      clear y
      cases done <;> cases closed
      · go_enter Try.func27, Try.ntmps27
        go_wp2_with fail
        go_ret
        exact ⟨by rw [HY.out ⟨C1.out, C2.out, ⟨C3.out, C4.out⟩, ⟨C5.out, C6.out⟩, fun h => Bool.noConfusion h, fun h => Bool.noConfusion h⟩]; rfl, (Only.refl _ _).alloc _⟩
      · go_enter Try.func27, Try.ntmps27
        go_wp2_with fail
        go_ret
        exact ⟨by rw [HN.out (fun h => Y.out (h.2.2.2.2.2 rfl))]; rfl, (Only.refl _ _).alloc _⟩
      · go_enter Try.func27, Try.ntmps27
        go_wp2_with fail
        go_ret
        exact ⟨by rw [HN.out (fun h => Bool.noConfusion (h.2.2.2.2.1 rfl).1)]; rfl, (Only.refl _ _).alloc _⟩
      · go_enter Try.func27, Try.ntmps27
        go_wp2_with fail
        go_ret
        exact ⟨by rw [HN.out (fun h => Y.out (h.2.2.2.2.2 rfl))]; rfl, (Only.refl _ _).alloc _⟩
  · have z' : ((out.length : Int) == 0) = false := by
      show decide ((out.length : Int) = 0) = false
      rw [decide_eq_false_iff_not]
      omega
    have Z := Lib.hid z
    clear z
    by_cases y : inn.length = 0
    · obtain rfl : inn = [] := List.eq_nil_of_length_eq_zero y
      clear y
      cases done <;> cases closed
      · go_enter Try.func27, Try.ntmps27
        go_wp2_with fail
        go_ret
        exact ⟨by rw [HY.out ⟨C1.out, C2.out, ⟨C3.out, C4.out⟩, ⟨C5.out, C6.out⟩, fun h => Bool.noConfusion h, fun h => Bool.noConfusion h⟩]; rfl, (Only.refl _ _).alloc _⟩
      · go_enter Try.func27, Try.ntmps27
        go_wp2_with fail
        go_ret
        exact ⟨by rw [HY.out ⟨C1.out, C2.out, ⟨C3.out, C4.out⟩, ⟨C5.out, C6.out⟩, fun h => Bool.noConfusion h, fun _ => rfl⟩]; rfl, (Only.refl _ _).alloc _⟩
      · go_enter Try.func27, Try.ntmps27
        go_wp2_with fail
        go_ret
        exact ⟨by rw [HN.out (fun h => Bool.noConfusion (h.2.2.2.2.1 rfl).1)]; rfl, (Only.refl _ _).alloc _⟩
      · go_enter Try.func27, Try.ntmps27
        go_wp2_with fail
        go_ret
        exact ⟨by rw [HN.out (fun h => Z.out (h.2.2.2.2.1 rfl).2)]; rfl, (Only.refl _ _).alloc _⟩
    · have y' : ((inn.length : Int) == 0) = false := by
        show decide ((inn.length : Int) = 0) = false
        rw [decide_eq_false_iff_not]
        omega
      have Y := Lib.hid y
      clear y
      cases done <;> cases closed
      · go_enter Try.func27, Try.ntmps27
        go_wp2_with fail
        go_ret
        exact ⟨by rw [HY.out ⟨C1.out, C2.out, ⟨C3.out, C4.out⟩, ⟨C5.out, C6.out⟩, fun h => Bool.noConfusion h, fun h => Bool.noConfusion h⟩]; rfl, (Only.refl _ _).alloc _⟩
      · go_enter Try.func27, Try.ntmps27
        go_wp2_with fail
        go_ret
        exact ⟨by rw [HN.out (fun h => Y.out (h.2.2.2.2.2 rfl))]; rfl, (Only.refl _ _).alloc _⟩
      · go_enter Try.func27, Try.ntmps27
        go_wp2_with fail
        go_ret
        exact ⟨by rw [HN.out (fun h => Bool.noConfusion (h.2.2.2.2.1 rfl).1)]; rfl, (Only.refl _ _).alloc _⟩
      · go_enter Try.func27, Try.ntmps27
        go_wp2_with fail
        go_ret
        exact ⟨by rw [HN.out (fun h => Z.out (h.2.2.2.2.1 rfl).2)]; rfl, (Only.refl _ _).alloc _⟩

end Ref
end Go.Proofs.Ytfichoekjjcjiaa
