/-
  The walk of ratoonref53.Valid.
  No conditions.
-/
import Derived.Test.YtkcmdibpndkfbaaRpW2
namespace Go.Proofs.Ytkcmdibpndkfbaa
open Go.RowKit

theorem Ref.in_any (n a b : Int) (w : World) : Calls Try.prog 30 #[.int .i64 n, .int .i64 a, .int .i64 b] w fun e w' => e = .returned (.bool (inR n a b)) ∧ w' = w := by
  unfold inR
  by_cases h1 : a ≤ n
  · by_cases h2 : n ≤ b
    · go_enter Try.func30, Try.ntmps30
      go_wp2_with fail
      go_ret
      exact ⟨by simp [h1, h2], rfl⟩
    · go_enter Try.func30, Try.ntmps30
      go_wp2_with fail
      go_ret
      exact ⟨by simp [h1, h2], rfl⟩
  · go_enter Try.func30, Try.ntmps30
    go_wp2_with fail
    go_ret
    exact ⟨by rw [decide_eq_false (show ¬ a ≤ n by omega)]; rfl, rfl⟩

set_option maxRecDepth 100000 in
set_option maxHeartbeats 4000000 in
theorem Ref.valid_any (r : ER) (w : World) : Calls Try.prog 17 #[.agg r.cells.toArray] w fun e w' => e = .returned (.bool (vE r.x)) ∧ Only Nil w w' := by
  obtain ⟨A, c, ⟨kind, task, call, a0, a1, a2, result, data⟩⟩ := r
  have hq := eqArr3 a0 a1 a2 0 0 0
  have hv : vE ⟨kind, task, call, a0, a1, a2, result, data⟩ = ((if kind = 7 then task == 0 else inR task 1 31) && (decide (data.length ≤ 1536) && vK ⟨kind, task, call, a0, a1, a2, result, data⟩)) := rfl
  have hvk : vK ⟨kind, task, call, a0, a1, a2, result, data⟩ = (if kind = 1 then inR call 0 19 && result == 0 else if kind = 2 then inR call 0 19 && noArgs ⟨kind, task, call, a0, a1, a2, result, data⟩ else if kind = 3 then plainE ⟨kind, task, call, a0, a1, a2, result, data⟩ && inR result 1 31
    else if kind = 6 ∨ kind = 7 then plainE ⟨kind, task, call, a0, a1, a2, result, data⟩ && inR result 0 255 else if kind = 5 then plainE ⟨kind, task, call, a0, a1, a2, result, data⟩ && inR result 0 100 else if kind = 4 then plainE ⟨kind, task, call, a0, a1, a2, result, data⟩ && result == 0 else false) := rfl
  have hna : noArgs ⟨kind, task, call, a0, a1, a2, result, data⟩ = (a0 == 0 && (a1 == 0 && a2 == 0)) := rfl
  have hpl : plainE ⟨kind, task, call, a0, a1, a2, result, data⟩ = (call == 0 && (noArgs ⟨kind, task, call, a0, a1, a2, result, data⟩ && decide (data.length = 0))) := rfl
  rw [hvk, hpl] at hv
  rw [← hna] at hq
  clear hvk hna hpl
  dsimp only
  obtain ⟨R, hR⟩ : ∃ R, vE ⟨kind, task, call, a0, a1, a2, result, data⟩ = R := ⟨_, rfl⟩
  rw [hR] at hv ⊢
  obtain ⟨na, hn⟩ : ∃ p, noArgs ⟨kind, task, call, a0, a1, a2, result, data⟩ = p := ⟨_, rfl⟩
  obtain ⟨bc, hc⟩ : ∃ p, (call == 0) = p := ⟨_, rfl⟩
  obtain ⟨bd, hd⟩ : ∃ p, decide (data.length = 0) = p := ⟨_, rfl⟩
  obtain ⟨br, hr⟩ : ∃ p, (result == 0) = p := ⟨_, rfl⟩
  obtain ⟨cl, hcl⟩ : ∃ p, inR call 0 19 = p := ⟨_, rfl⟩
  rw [hn, hc, hd, hr, hcl] at hv
  rw [hn] at hq
  have hd' : ((data.length : Int) == 0) = bd := by
    rw [← hd]
    by_cases h : data.length = 0
    · rw [decide_eq_true h, h]; rfl
    · rw [decide_eq_false h]
      exact beq_false_of_ne (by omega)
  have hz0 : ∀ w, (zeroValue 37).run Try.prog w = .ok (.agg #[.int .i64 0, .int .i64 0, .int .i64 0]) w := fun w => by kernel_rfl
  unfold ER.cells
  dsimp only
  have HV := Lib.hid hv
  have HC := Lib.hid hcl
  clear hv hn hd hcl hR
  by_cases hd : (1536 : Int) < data.length
  · have hd2 : decide (data.length ≤ 1536) = false := by rw [decide_eq_false_iff_not]; omega
    have D2 := Lib.hid hd2
    clear hd2
    go_enter Try.func17, Try.ntmps17
    go_wp2_with fail
    go_ret
    exact ⟨by rw [HV.out, D2.out]; simp, (Only.refl _ _).alloc _⟩
  have hd2 : decide (data.length ≤ 1536) = true := by rw [decide_eq_true_iff]; omega
  have D2 := Lib.hid hd2
  clear hd2
  by_cases k7 : kind = 7
  · subst k7
    obtain ⟨bt, ht⟩ : ∃ p, (task == 0) = p := ⟨_, rfl⟩
    rw [if_pos rfl, ht] at HV
    cases bt
    · go_enter Try.func17, Try.ntmps17
      go_wp2_with fail
      go_ret
      exact ⟨by rw [HV.out, D2.out]; simp, (Only.refl _ _).alloc _⟩
    · skip
      cases bc
      · go_enter Try.func17, Try.ntmps17
        go_wp2_with fail
        go_ret
        exact ⟨by rw [HV.out, D2.out]; simp, (Only.refl _ _).alloc _⟩
      · skip
        cases na
        · go_enter Try.func17, Try.ntmps17
          go_wp2_with fail
          go_ret
          exact ⟨by rw [HV.out, D2.out]; simp, (Only.refl _ _).alloc _⟩
        · skip
          cases bd
          · go_enter Try.func17, Try.ntmps17
            go_wp2_with fail
            go_ret
            exact ⟨by rw [HV.out, D2.out]; simp, (Only.refl _ _).alloc _⟩
          · skip
            go_enter Try.func17, Try.ntmps17
            go_wp2_with fail
            refine (Ref.in_any _ _ _ _).mono ?_
            rintro x w1 ⟨rfl, rfl⟩
            go_wp2_with fail
            go_ret
            exact ⟨by rw [HV.out, D2.out]; simp, (Only.refl _ _).alloc _⟩
  have k7b : (kind == 7) = false := beq_false_of_ne k7
  rw [if_neg k7] at HV
  cases ht : inR task 1 31
  · rw [ht] at HV
    go_enter Try.func17, Try.ntmps17
    go_wp2_with fail
    refine (Ref.in_any _ _ _ _).mono ?_
    rintro x w1 ⟨rfl, rfl⟩
    rw [ht]
    go_wp2_with fail
    go_ret
    exact ⟨by rw [HV.out, D2.out]; simp, (Only.refl _ _).alloc _⟩
  rw [ht] at HV
  by_cases k1 : kind = 1
  · subst k1
    cases cl
    · go_enter Try.func17, Try.ntmps17
      go_wp2_with fail
      refine (Ref.in_any _ _ _ _).mono ?_
      rintro x w1 ⟨rfl, rfl⟩
      rw [ht]
      go_wp2_with fail
      refine (Ref.in_any _ _ _ _).mono ?_
      rintro x w2 ⟨rfl, rfl⟩
      rw [HC.out]
      go_wp2_with fail
      go_ret
      exact ⟨by rw [HV.out, D2.out]; simp, (Only.refl _ _).alloc _⟩
    · go_enter Try.func17, Try.ntmps17
      go_wp2_with fail
      refine (Ref.in_any _ _ _ _).mono ?_
      rintro x w1 ⟨rfl, rfl⟩
      rw [ht]
      go_wp2_with fail
      refine (Ref.in_any _ _ _ _).mono ?_
      rintro x w2 ⟨rfl, rfl⟩
      rw [HC.out]
      go_wp2_with fail
      go_ret
      exact ⟨by rw [HV.out, D2.out]; simp, (Only.refl _ _).alloc _⟩
  have k1b : (kind == 1) = false := beq_false_of_ne k1
  by_cases k2 : kind = 2
  · subst k2
    cases cl
    · go_enter Try.func17, Try.ntmps17
      go_wp2_with fail
      refine (Ref.in_any _ _ _ _).mono ?_
      rintro x w1 ⟨rfl, rfl⟩
      rw [ht]
      go_wp2_with fail
      refine (Ref.in_any _ _ _ _).mono ?_
      rintro x w2 ⟨rfl, rfl⟩
      rw [HC.out]
      go_wp2_with fail
      go_ret
      exact ⟨by rw [HV.out, D2.out]; simp, (Only.refl _ _).alloc _⟩
    · go_enter Try.func17, Try.ntmps17
      go_wp2_with fail
      refine (Ref.in_any _ _ _ _).mono ?_
      rintro x w1 ⟨rfl, rfl⟩
      rw [ht]
      go_wp2_with fail
      refine (Ref.in_any _ _ _ _).mono ?_
      rintro x w2 ⟨rfl, rfl⟩
      rw [HC.out]
      go_wp2_with fail
      go_ret
      exact ⟨by rw [HV.out, D2.out]; simp, (Only.refl _ _).alloc _⟩
  have k2b : (kind == 2) = false := beq_false_of_ne k2
  by_cases k3 : kind = 3
  · subst k3
    cases bc
    · go_enter Try.func17, Try.ntmps17
      go_wp2_with fail
      refine (Ref.in_any _ _ _ _).mono ?_
      rintro x w1 ⟨rfl, rfl⟩
      rw [ht]
      go_wp2_with fail
      go_ret
      exact ⟨by rw [HV.out, D2.out]; simp, (Only.refl _ _).alloc _⟩
    · skip
      cases na
      · go_enter Try.func17, Try.ntmps17
        go_wp2_with fail
        refine (Ref.in_any _ _ _ _).mono ?_
        rintro x w1 ⟨rfl, rfl⟩
        rw [ht]
        go_wp2_with fail
        go_ret
        exact ⟨by rw [HV.out, D2.out]; simp, (Only.refl _ _).alloc _⟩
      · skip
        cases bd
        · go_enter Try.func17, Try.ntmps17
          go_wp2_with fail
          refine (Ref.in_any _ _ _ _).mono ?_
          rintro x w1 ⟨rfl, rfl⟩
          rw [ht]
          go_wp2_with fail
          go_ret
          exact ⟨by rw [HV.out, D2.out]; simp, (Only.refl _ _).alloc _⟩
        · skip
          go_enter Try.func17, Try.ntmps17
          go_wp2_with fail
          refine (Ref.in_any _ _ _ _).mono ?_
          rintro x w1 ⟨rfl, rfl⟩
          rw [ht]
          go_wp2_with fail
          refine (Ref.in_any _ _ _ _).mono ?_
          rintro x w2 ⟨rfl, rfl⟩
          go_wp2_with fail
          go_ret
          exact ⟨by rw [HV.out, D2.out]; simp, (Only.refl _ _).alloc _⟩
  have k3b : (kind == 3) = false := beq_false_of_ne k3
  by_cases k6 : kind = 6
  · subst k6
    cases bc
    · go_enter Try.func17, Try.ntmps17
      go_wp2_with fail
      refine (Ref.in_any _ _ _ _).mono ?_
      rintro x w1 ⟨rfl, rfl⟩
      rw [ht]
      go_wp2_with fail
      go_ret
      exact ⟨by rw [HV.out, D2.out]; simp, (Only.refl _ _).alloc _⟩
    · skip
      cases na
      · go_enter Try.func17, Try.ntmps17
        go_wp2_with fail
        refine (Ref.in_any _ _ _ _).mono ?_
        rintro x w1 ⟨rfl, rfl⟩
        rw [ht]
        go_wp2_with fail
        go_ret
        exact ⟨by rw [HV.out, D2.out]; simp, (Only.refl _ _).alloc _⟩
      · skip
        cases bd
        · go_enter Try.func17, Try.ntmps17
          go_wp2_with fail
          refine (Ref.in_any _ _ _ _).mono ?_
          rintro x w1 ⟨rfl, rfl⟩
          rw [ht]
          go_wp2_with fail
          go_ret
          exact ⟨by rw [HV.out, D2.out]; simp, (Only.refl _ _).alloc _⟩
        · skip
          go_enter Try.func17, Try.ntmps17
          go_wp2_with fail
          refine (Ref.in_any _ _ _ _).mono ?_
          rintro x w1 ⟨rfl, rfl⟩
          rw [ht]
          go_wp2_with fail
          refine (Ref.in_any _ _ _ _).mono ?_
          rintro x w2 ⟨rfl, rfl⟩
          go_wp2_with fail
          go_ret
          exact ⟨by rw [HV.out, D2.out]; simp, (Only.refl _ _).alloc _⟩
  have k6b : (kind == 6) = false := beq_false_of_ne k6
  by_cases k5 : kind = 5
  · subst k5
    cases bc
    · go_enter Try.func17, Try.ntmps17
      go_wp2_with fail
      refine (Ref.in_any _ _ _ _).mono ?_
      rintro x w1 ⟨rfl, rfl⟩
      rw [ht]
      go_wp2_with fail
      go_ret
      exact ⟨by rw [HV.out, D2.out]; simp, (Only.refl _ _).alloc _⟩
    · skip
      cases na
      · go_enter Try.func17, Try.ntmps17
        go_wp2_with fail
        refine (Ref.in_any _ _ _ _).mono ?_
        rintro x w1 ⟨rfl, rfl⟩
        rw [ht]
        go_wp2_with fail
        go_ret
        exact ⟨by rw [HV.out, D2.out]; simp, (Only.refl _ _).alloc _⟩
      · skip
        cases bd
        · go_enter Try.func17, Try.ntmps17
          go_wp2_with fail
          refine (Ref.in_any _ _ _ _).mono ?_
          rintro x w1 ⟨rfl, rfl⟩
          rw [ht]
          go_wp2_with fail
          go_ret
          exact ⟨by rw [HV.out, D2.out]; simp, (Only.refl _ _).alloc _⟩
        · skip
          go_enter Try.func17, Try.ntmps17
          go_wp2_with fail
          refine (Ref.in_any _ _ _ _).mono ?_
          rintro x w1 ⟨rfl, rfl⟩
          rw [ht]
          go_wp2_with fail
          refine (Ref.in_any _ _ _ _).mono ?_
          rintro x w2 ⟨rfl, rfl⟩
          go_wp2_with fail
          go_ret
          exact ⟨by rw [HV.out, D2.out]; simp, (Only.refl _ _).alloc _⟩
  have k5b : (kind == 5) = false := beq_false_of_ne k5
  by_cases k4 : kind = 4
  · subst k4
    cases bc
    · go_enter Try.func17, Try.ntmps17
      go_wp2_with fail
      refine (Ref.in_any _ _ _ _).mono ?_
      rintro x w1 ⟨rfl, rfl⟩
      rw [ht]
      go_wp2_with fail
      go_ret
      exact ⟨by rw [HV.out, D2.out]; simp, (Only.refl _ _).alloc _⟩
    · skip
      cases na
      · go_enter Try.func17, Try.ntmps17
        go_wp2_with fail
        refine (Ref.in_any _ _ _ _).mono ?_
        rintro x w1 ⟨rfl, rfl⟩
        rw [ht]
        go_wp2_with fail
        go_ret
        exact ⟨by rw [HV.out, D2.out]; simp, (Only.refl _ _).alloc _⟩
      · skip
        cases bd
        · go_enter Try.func17, Try.ntmps17
          go_wp2_with fail
          refine (Ref.in_any _ _ _ _).mono ?_
          rintro x w1 ⟨rfl, rfl⟩
          rw [ht]
          go_wp2_with fail
          go_ret
          exact ⟨by rw [HV.out, D2.out]; simp, (Only.refl _ _).alloc _⟩
        · skip
          go_enter Try.func17, Try.ntmps17
          go_wp2_with fail
          refine (Ref.in_any _ _ _ _).mono ?_
          rintro x w1 ⟨rfl, rfl⟩
          rw [ht]
          go_wp2_with fail
          go_ret
          exact ⟨by rw [HV.out, D2.out]; simp, (Only.refl _ _).alloc _⟩
  have k4b : (kind == 4) = false := beq_false_of_ne k4
  have KK := Lib.hid (And.intro k1 (And.intro k2 (And.intro k3 (And.intro k4 (And.intro k5 (And.intro k6 k7))))))
  clear k1 k2 k3 k4 k5 k6 k7
  go_enter Try.func17, Try.ntmps17
  go_wp2_with fail
  refine (Ref.in_any _ _ _ _).mono ?_
  rintro x w1 ⟨rfl, rfl⟩
  rw [ht]
  go_wp2_with fail
  go_ret
  exact ⟨by obtain ⟨k1, k2, k3, k4, k5, k6, k7⟩ := KK.out; rw [HV.out]; simp [k1, k2, k3, k4, k5, k6, k7], (Only.refl _ _).alloc _⟩

end Go.Proofs.Ytkcmdibpndkfbaa
