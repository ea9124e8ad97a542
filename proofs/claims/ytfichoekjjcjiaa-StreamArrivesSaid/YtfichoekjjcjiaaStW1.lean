/-
  Walks of layer 43: Valid, pending, Quiet, copied; packet.Valid.
  Conditions: the slices can be read where they are copied.
-/
import Derived.Test.YtfichoekjjcjiaaStP
import Derived.Test.YtfichoekjjcjiaaClone
import Derived.Deep.RegionHeld3
import Derived.Deep.QuietTactic
import Derived.BigQuiet
import Derived.Deep.RegionWith
import Derived.Deep.RegionLaw
namespace Go.Proofs.Ytfichoekjjcjiaa
open Go.RowKit

def inPlace (n : Int) : Bool := decide (0 ≤ n) && decide (n ≤ 1099511626776)
theorem place_any (n : Int) (w : World) : Calls Try.prog 41 #[.int .i64 n] w fun e w' => e = .returned (.bool (inPlace n)) ∧ w' = w := by
  by_cases h : 0 ≤ n
  · have h1 : decide (0 ≤ n) = true := by simpa using h
    clear h
    go_enter Try.func41, Try.ntmps41
    go_wp2_with fail
    go_ret
    refine ⟨?_, rfl⟩
    unfold inPlace
    rw [h1, Bool.true_and]
    rfl
  · have h1 : decide (0 ≤ n) = false := by simpa using h
    clear h
    go_enter Try.func41, Try.ntmps41
    go_wp2_with fail
    go_ret
    refine ⟨?_, rfl⟩
    unfold inPlace
    rw [h1]
    rfl
theorem inPlace_yes {n : Int} (h : 0 ≤ n ∧ n ≤ 1099511626776) : inPlace n = true := by unfold inPlace; simp [h.1, h.2]
theorem inPlace_no {n : Int} (h : ¬ (0 ≤ n ∧ n ≤ 1099511626776)) : inPlace n = false := by
  unfold inPlace
  rw [Bool.and_eq_false_iff, decide_eq_false_iff_not, decide_eq_false_iff_not]
  omega

theorem pending_any (l : Loc) (e : E) (w : World) : Calls Try.prog 40 #[.agg (ecells l e).toArray] w fun e' w' => e' = .returned (.bool (pend e)) ∧ Only Nil w w' := by
  obtain ⟨out, base, closed, done, inn, next, ended, due⟩ := e
  unfold ecells
  dsimp only
  by_cases h : 0 < out.length
  · have h1 : decide (0 < out.length) = true := by simpa using h
    have h2 : pend ⟨out, base, closed, done, inn, next, ended, due⟩ = true := by unfold pend; simp only [h1, Bool.true_or]
    rw [h2]
    go_enter Try.func40, Try.ntmps40
    go_wp2_with fail
    go_ret
    exact ⟨rfl, (Only.refl _ _).alloc _⟩
  · have h1 : decide (0 < out.length) = false := by simpa using h
    cases closed
    all_goals
      go_enter Try.func40, Try.ntmps40
      go_wp2_with fail
      go_ret
      refine ⟨?_, (Only.refl _ _).alloc _⟩
      unfold pend
      simp only [h1]
      rfl

theorem quiet_any (l : Loc) (e : E) (w : World) : Calls Try.prog 28 #[.agg (ecells l e).toArray] w fun e' w' => e' = .returned (.bool (quiet e)) ∧ Only Nil w w' := by
  obtain ⟨out, base, closed, done, inn, next, ended, due⟩ := e
  unfold ecells
  dsimp only
  cases closed <;> cases done <;> cases ended
  all_goals
    go_enter Try.func28, Try.ntmps28
    go_wp2_with fail
    go_ret
    refine ⟨?_, (Only.refl _ _).alloc _⟩
    unfold quiet
    rfl

set_option maxHeartbeats 1000000 in
theorem valid_any (l : Loc) (e : E) (w : World) : Calls Try.prog 26 #[.agg (ecells l e).toArray] w fun e' w' => e' = .returned (.bool (decide (VE e))) ∧ Only Nil w w' := by
  obtain ⟨r, hr⟩ : ∃ r, decide (VE e) = r := ⟨_, rfl⟩
  rw [hr]
  obtain ⟨out, base, closed, done, inn, next, ended, due⟩ := e
  have hno : ¬ VE ⟨out, base, closed, done, inn, next, ended, due⟩ → r = false := fun h => by rw [← hr]; exact decide_eq_false h
  have hyes : VE ⟨out, base, closed, done, inn, next, ended, due⟩ → r = true := fun h => by rw [← hr]; exact decide_eq_true h
  have HN := Lib.hid hno
  have HY := Lib.hid hyes
  clear hno hyes hr
  unfold ecells
  dsimp only
  by_cases c1 : 128 < out.length
  · have d1 : decide (128 < out.length) = true := by simpa using c1
    rw [HN.out (fun h => by have := h.1; simp only at this; omega)]
    go_enter Try.func26, Try.ntmps26
    go_wp2_with fail
    go_ret
    exact ⟨rfl, (Only.refl _ _).alloc _⟩
  have d1 : decide ((128 : Int) < out.length) = false := by rw [decide_eq_false_iff_not]; omega
  by_cases c2 : 128 < inn.length
  · have d2 : decide (128 < inn.length) = true := by simpa using c2
    rw [HN.out (fun h => by have := h.2.1; simp only at this; omega)]
    go_enter Try.func26, Try.ntmps26
    go_wp2_with fail
    go_ret
    exact ⟨rfl, (Only.refl _ _).alloc _⟩
  have d2 : decide ((128 : Int) < inn.length) = false := by rw [decide_eq_false_iff_not]; omega
  by_cases c3 : 0 ≤ base ∧ base ≤ 1099511626776
  rotate_left
  · rw [HN.out (fun h => by have := h.2.2.1; simp only at this; omega)]
    go_enter Try.func26, Try.ntmps26
    go_wp2_with fail
    refine (place_any _ _).mono ?_
    rw [inPlace_no c3]
    rintro e w1 ⟨rfl, rfl⟩
    go_wp2_with fail
    go_ret
    exact ⟨rfl, (Only.refl _ _).alloc _⟩
  by_cases c4 : 0 ≤ next ∧ next ≤ 1099511626776
  rotate_left
  · rw [HN.out (fun h => by have := h.2.2.2.1; simp only at this; omega)]
    go_enter Try.func26, Try.ntmps26
    go_wp2_with fail
    refine (place_any _ _).mono ?_
    rw [inPlace_yes c3]
    rintro e w1 ⟨rfl, rfl⟩
    go_wp2_with fail
    refine (place_any _ _).mono ?_
    rw [inPlace_no c4]
    rintro e w1 ⟨rfl, rfl⟩
    go_wp2_with fail
    go_ret
    exact ⟨rfl, (Only.refl _ _).alloc _⟩
  cases done
  · cases closed
    · rw [HY.out ⟨by simp only; omega, by simp only; omega, c3, c4, fun h => (by cases h), fun h => (by cases h)⟩]
      go_enter Try.func26, Try.ntmps26
      go_wp2_with fail
      refine (place_any _ _).mono ?_
      rw [inPlace_yes c3]
      rintro e w1 ⟨rfl, rfl⟩
      go_wp2_with fail
      refine (place_any _ _).mono ?_
      rw [inPlace_yes c4]
      rintro e w1 ⟨rfl, rfl⟩
      go_wp2_with fail
      go_ret
      exact ⟨rfl, (Only.refl _ _).alloc _⟩
    · by_cases c6 : inn.length = 0
      · rw [HY.out ⟨by simp only; omega, by simp only; omega, c3, c4, fun h => (by cases h), fun _ => c6⟩]
        obtain rfl := List.eq_nil_of_length_eq_zero c6
        go_enter Try.func26, Try.ntmps26
        go_wp2_with fail
        refine (place_any _ _).mono ?_
        rw [inPlace_yes c3]
        rintro e w1 ⟨rfl, rfl⟩
        go_wp2_with fail
        refine (place_any _ _).mono ?_
        rw [inPlace_yes c4]
        rintro e w1 ⟨rfl, rfl⟩
        go_wp2_with fail
        go_ret
        exact ⟨rfl, (Only.refl _ _).alloc _⟩
      · rw [HN.out (fun h => c6 (h.2.2.2.2.2 rfl))]
        have d6 : ((inn.length : Int) == 0) = false := by rw [beq_eq_false_iff_ne]; omega
        go_enter Try.func26, Try.ntmps26
        go_wp2_with fail
        refine (place_any _ _).mono ?_
        rw [inPlace_yes c3]
        rintro e w1 ⟨rfl, rfl⟩
        go_wp2_with fail
        refine (place_any _ _).mono ?_
        rw [inPlace_yes c4]
        rintro e w1 ⟨rfl, rfl⟩
        go_wp2_with fail
        go_ret
        exact ⟨rfl, (Only.refl _ _).alloc _⟩
  · cases closed
    · rw [HN.out (fun h => by have := (h.2.2.2.2.1 rfl).1; cases this)]
      go_enter Try.func26, Try.ntmps26
      go_wp2_with fail
      refine (place_any _ _).mono ?_
      rw [inPlace_yes c3]
      rintro e w1 ⟨rfl, rfl⟩
      go_wp2_with fail
      refine (place_any _ _).mono ?_
      rw [inPlace_yes c4]
      rintro e w1 ⟨rfl, rfl⟩
      go_wp2_with fail
      go_ret
      exact ⟨rfl, (Only.refl _ _).alloc _⟩
    · by_cases c5 : 0 < out.length
      · have d5 : decide (0 < out.length) = true := by simpa using c5
        rw [HN.out (fun h => by have := (h.2.2.2.2.1 rfl).2; simp only at this; omega)]
        go_enter Try.func26, Try.ntmps26
        go_wp2_with fail
        refine (place_any _ _).mono ?_
        rw [inPlace_yes c3]
        rintro e w1 ⟨rfl, rfl⟩
        go_wp2_with fail
        refine (place_any _ _).mono ?_
        rw [inPlace_yes c4]
        rintro e w1 ⟨rfl, rfl⟩
        go_wp2_with fail
        go_ret
        exact ⟨rfl, (Only.refl _ _).alloc _⟩
      · have d5 : decide (0 < out.length) = false := by simpa using c5
        by_cases c6 : inn.length = 0
        · rw [HY.out ⟨by simp only; omega, by simp only; omega, c3, c4, fun _ => ⟨rfl, by simp only; omega⟩, fun _ => c6⟩]
          obtain rfl := List.eq_nil_of_length_eq_zero c6
          go_enter Try.func26, Try.ntmps26
          go_wp2_with fail
          refine (place_any _ _).mono ?_
          rw [inPlace_yes c3]
          rintro e w1 ⟨rfl, rfl⟩
          go_wp2_with fail
          refine (place_any _ _).mono ?_
          rw [inPlace_yes c4]
          rintro e w1 ⟨rfl, rfl⟩
          go_wp2_with fail
          go_ret
          exact ⟨rfl, (Only.refl _ _).alloc _⟩
        · rw [HN.out (fun h => c6 (h.2.2.2.2.2 rfl))]
          have d6 : ((inn.length : Int) == 0) = false := by rw [beq_eq_false_iff_ne]; omega
          go_enter Try.func26, Try.ntmps26
          go_wp2_with fail
          refine (place_any _ _).mono ?_
          rw [inPlace_yes c3]
          rintro e w1 ⟨rfl, rfl⟩
          go_wp2_with fail
          refine (place_any _ _).mono ?_
          rw [inPlace_yes c4]
          rintro e w1 ⟨rfl, rfl⟩
          go_wp2_with fail
          go_ret
          exact ⟨rfl, (Only.refl _ _).alloc _⟩

end Go.Proofs.Ytfichoekjjcjiaa
