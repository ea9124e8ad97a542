/-
  The walk of record.Valid.
  No conditions.
-/
import Derived.Test.YtkcmdibpndkfbaaRpW1
namespace Go.Proofs.Ytkcmdibpndkfbaa
open Go.RowKit

def vK (x : En) : Bool :=
  if x.kind = 1 then inR x.call 0 19 && x.result == 0 else if x.kind = 2 then inR x.call 0 19 && noArgs x else if x.kind = 3 then plainE x && inR x.result 1 31
  else if x.kind = 6 ∨ x.kind = 7 then plainE x && inR x.result 0 255 else if x.kind = 5 then plainE x && inR x.result 0 100 else if x.kind = 4 then plainE x && x.result == 0 else false
/-- The entry is valid. -/
def vE (x : En) : Bool := (if x.kind = 7 then x.task == 0 else inR x.task 1 31) && (decide (x.data.length ≤ 1536) && vK x)

set_option maxRecDepth 100000 in
set_option maxHeartbeats 4000000 in
theorem valid_any (r : ER) (w : World) : Calls Try.prog 16 #[.agg r.cells.toArray] w fun e w' => e = .returned (.bool (vE r.x)) ∧ Only Nil w w' := by
  obtain ⟨A, c, ⟨kind, task, call, a0, a1, a2, result, data⟩⟩ := r
  have hpl := plain_any ⟨A, c, ⟨kind, task, call, a0, a1, a2, result, data⟩⟩
  have hq := eqArr3 a0 a1 a2 0 0 0
  have hv : vE ⟨kind, task, call, a0, a1, a2, result, data⟩ = ((if kind = 7 then task == 0 else inR task 1 31) && (decide (data.length ≤ 1536) && vK ⟨kind, task, call, a0, a1, a2, result, data⟩)) := rfl
  have hvk : vK ⟨kind, task, call, a0, a1, a2, result, data⟩ = (if kind = 1 then inR call 0 19 && result == 0 else if kind = 2 then inR call 0 19 && noArgs ⟨kind, task, call, a0, a1, a2, result, data⟩ else if kind = 3 then plainE ⟨kind, task, call, a0, a1, a2, result, data⟩ && inR result 1 31
    else if kind = 6 ∨ kind = 7 then plainE ⟨kind, task, call, a0, a1, a2, result, data⟩ && inR result 0 255 else if kind = 5 then plainE ⟨kind, task, call, a0, a1, a2, result, data⟩ && inR result 0 100 else if kind = 4 then plainE ⟨kind, task, call, a0, a1, a2, result, data⟩ && result == 0 else false) := rfl
  have hna : noArgs ⟨kind, task, call, a0, a1, a2, result, data⟩ = (a0 == 0 && (a1 == 0 && a2 == 0)) := rfl
  rw [hvk] at hv
  rw [← hna] at hq
  clear hvk hna
  dsimp only
  obtain ⟨R, hR⟩ : ∃ R, vE ⟨kind, task, call, a0, a1, a2, result, data⟩ = R := ⟨_, rfl⟩
  rw [hR] at hv ⊢
  obtain ⟨pl, hp⟩ : ∃ p, plainE ⟨kind, task, call, a0, a1, a2, result, data⟩ = p := ⟨_, rfl⟩
  obtain ⟨na, hn⟩ : ∃ p, noArgs ⟨kind, task, call, a0, a1, a2, result, data⟩ = p := ⟨_, rfl⟩
  obtain ⟨cl, hc⟩ : ∃ p, inR call 0 19 = p := ⟨_, rfl⟩
  rw [hp, hn, hc] at hv
  rw [hp] at hpl
  rw [hn] at hq
  unfold ER.cells at hpl ⊢
  dsimp only at hpl ⊢
  have HPL := Lib.hid hpl
  have HV := Lib.hid hv
  have HC := Lib.hid hc
  clear hpl hv hp hn hc hR

  by_cases k7 : kind = 7
  · subst k7
    by_cases ht : task = 0
    rotate_left
    · have t1 : (task == 0) = false := beq_false_of_ne ht
      have t2 : (task != 0) = true := by simp [ht]
      have T1 := Lib.hid t1
      clear ht t1
      go_enter Try.func16, Try.ntmps16
      go_wp2_with fail
      go_ret
      exact ⟨by rw [HV.out]; simp [T1.out], (Only.refl _ _).alloc _⟩
    subst ht
    have r0 : inR 0 0 31 = true := by decide
    by_cases hd : (1536 : Int) < data.length
    · have hd2 : decide (data.length ≤ 1536) = false := by rw [decide_eq_false_iff_not]; omega
      have D2 := Lib.hid hd2
      clear hd2
      go_enter Try.func16, Try.ntmps16
      go_wp2_with fail
      refine (within_any _ _ _ _).mono ?_
      rintro x w1 ⟨rfl, rfl⟩
      rw [r0]
      go_wp2_with fail
      go_ret
      exact ⟨by rw [HV.out, D2.out]; rfl, (Only.refl _ _).alloc _⟩
    have hd2 : decide (data.length ≤ 1536) = true := by rw [decide_eq_true_iff]; omega
    have D2 := Lib.hid hd2
    clear hd2
    cases pl
    · go_enter Try.func16, Try.ntmps16
      go_wp2_with fail
      refine (within_any _ _ _ _).mono ?_
      rintro x w1 ⟨rfl, rfl⟩
      rw [r0]
      go_wp2_with fail
      refine (within_any _ _ _ _).mono ?_
      rintro x w2 ⟨rfl, rfl⟩
      go_wp2_with fail
      refine (HPL.out _).mono ?_
      rintro x w3 ⟨rfl, hO3⟩
      have ho3 := hO3
      have kp : ∀ i, w3.cell? ⟨w.heap.size, i, none⟩ = #[Value.int .i64 7, .int .i64 0, .int .i64 call, .int .i64 a0, .int .i64 a1, .int .i64 a2, .int .i64 result, .slice A data.length c][i]? := fun i => ((Blk.new w 39 _).onlyNil hO3).cell i
      clear hO3
      go_wp2_with fail
      go_ret
      exact ⟨by rw [HV.out, D2.out]; simp, ((Only.refl _ _).alloc _).thenNil ho3⟩
    · go_enter Try.func16, Try.ntmps16
      go_wp2_with fail
      refine (within_any _ _ _ _).mono ?_
      rintro x w1 ⟨rfl, rfl⟩
      rw [r0]
      go_wp2_with fail
      refine (within_any _ _ _ _).mono ?_
      rintro x w2 ⟨rfl, rfl⟩
      go_wp2_with fail
      refine (HPL.out _).mono ?_
      rintro x w3 ⟨rfl, hO3⟩
      have ho3 := hO3
      have kp : ∀ i, w3.cell? ⟨w.heap.size, i, none⟩ = #[Value.int .i64 7, .int .i64 0, .int .i64 call, .int .i64 a0, .int .i64 a1, .int .i64 a2, .int .i64 result, .slice A data.length c][i]? := fun i => ((Blk.new w 39 _).onlyNil hO3).cell i
      clear hO3
      go_wp2_with fail
      refine (within_any _ _ _ _).mono ?_
      rintro x w4 ⟨rfl, rfl⟩
      go_wp2_with fail
      go_ret
      exact ⟨by rw [HV.out, D2.out]; simp, ((Only.refl _ _).alloc _).thenNil ho3⟩
  have k7b : (kind == 7) = false := beq_false_of_ne k7
  rw [if_neg k7] at HV
  cases ht : inR task 1 31
  · rw [ht] at HV
    go_enter Try.func16, Try.ntmps16
    go_wp2_with fail
    refine (within_any _ _ _ _).mono ?_
    rintro x w1 ⟨rfl, rfl⟩
    rw [ht]
    go_wp2_with fail
    go_ret
    exact ⟨by rw [HV.out]; rfl, (Only.refl _ _).alloc _⟩
  rw [ht] at HV
  by_cases hd : (1536 : Int) < data.length
  · have hd2 : decide (data.length ≤ 1536) = false := by rw [decide_eq_false_iff_not]; omega
    have D2 := Lib.hid hd2
    clear hd2
    go_enter Try.func16, Try.ntmps16
    go_wp2_with fail
    refine (within_any _ _ _ _).mono ?_
    rintro x w1 ⟨rfl, rfl⟩
    rw [ht]
    go_wp2_with fail
    go_ret
    exact ⟨by rw [HV.out, D2.out]; rfl, (Only.refl _ _).alloc _⟩
  have hd2 : decide (data.length ≤ 1536) = true := by rw [decide_eq_true_iff]; omega
  have D2 := Lib.hid hd2
  clear hd2
  by_cases k1 : kind = 1
  · subst k1
    cases cl
    · go_enter Try.func16, Try.ntmps16
      go_wp2_with fail
      refine (within_any _ _ _ _).mono ?_
      rintro x w1 ⟨rfl, rfl⟩
      rw [ht]
      go_wp2_with fail
      refine (within_any _ _ _ _).mono ?_
      rintro x w2 ⟨rfl, rfl⟩
      rw [HC.out]
      go_wp2_with fail
      go_ret
      exact ⟨by rw [HV.out, D2.out]; simp, (Only.refl _ _).alloc _⟩
    · go_enter Try.func16, Try.ntmps16
      go_wp2_with fail
      refine (within_any _ _ _ _).mono ?_
      rintro x w1 ⟨rfl, rfl⟩
      rw [ht]
      go_wp2_with fail
      refine (within_any _ _ _ _).mono ?_
      rintro x w2 ⟨rfl, rfl⟩
      rw [HC.out]
      go_wp2_with fail
      go_ret
      exact ⟨by rw [HV.out, D2.out]; simp, (Only.refl _ _).alloc _⟩
  have k1b : (kind == 1) = false := beq_false_of_ne k1
  by_cases k2 : kind = 2
  · subst k2
    cases cl
    · go_enter Try.func16, Try.ntmps16
      go_wp2_with fail
      refine (within_any _ _ _ _).mono ?_
      rintro x w1 ⟨rfl, rfl⟩
      rw [ht]
      go_wp2_with fail
      refine (within_any _ _ _ _).mono ?_
      rintro x w2 ⟨rfl, rfl⟩
      rw [HC.out]
      go_wp2_with fail
      go_ret
      exact ⟨by rw [HV.out, D2.out]; simp, (Only.refl _ _).alloc _⟩
    · go_enter Try.func16, Try.ntmps16
      go_wp2_with fail
      refine (within_any _ _ _ _).mono ?_
      rintro x w1 ⟨rfl, rfl⟩
      rw [ht]
      go_wp2_with fail
      refine (within_any _ _ _ _).mono ?_
      rintro x w2 ⟨rfl, rfl⟩
      rw [HC.out]
      go_wp2_with fail
      go_ret
      exact ⟨by rw [HV.out, D2.out]; simp, (Only.refl _ _).alloc _⟩
  have k2b : (kind == 2) = false := beq_false_of_ne k2
  by_cases k3 : kind = 3
  · subst k3
    cases pl
    · go_enter Try.func16, Try.ntmps16
      go_wp2_with fail
      refine (within_any _ _ _ _).mono ?_
      rintro x w1 ⟨rfl, rfl⟩
      rw [ht]
      go_wp2_with fail
      refine (within_any _ _ _ _).mono ?_
      rintro x w2 ⟨rfl, rfl⟩
      go_wp2_with fail
      refine (HPL.out _).mono ?_
      rintro x w3 ⟨rfl, hO3⟩
      have ho3 := hO3
      have kp : ∀ i, w3.cell? ⟨w.heap.size, i, none⟩ = #[Value.int .i64 3, .int .i64 task, .int .i64 call, .int .i64 a0, .int .i64 a1, .int .i64 a2, .int .i64 result, .slice A data.length c][i]? := fun i => ((Blk.new w 39 _).onlyNil hO3).cell i
      clear hO3
      go_wp2_with fail
      go_ret
      exact ⟨by rw [HV.out, D2.out]; simp, ((Only.refl _ _).alloc _).thenNil ho3⟩
    · go_enter Try.func16, Try.ntmps16
      go_wp2_with fail
      refine (within_any _ _ _ _).mono ?_
      rintro x w1 ⟨rfl, rfl⟩
      rw [ht]
      go_wp2_with fail
      refine (within_any _ _ _ _).mono ?_
      rintro x w2 ⟨rfl, rfl⟩
      go_wp2_with fail
      refine (HPL.out _).mono ?_
      rintro x w3 ⟨rfl, hO3⟩
      have ho3 := hO3
      have kp : ∀ i, w3.cell? ⟨w.heap.size, i, none⟩ = #[Value.int .i64 3, .int .i64 task, .int .i64 call, .int .i64 a0, .int .i64 a1, .int .i64 a2, .int .i64 result, .slice A data.length c][i]? := fun i => ((Blk.new w 39 _).onlyNil hO3).cell i
      clear hO3
      go_wp2_with fail
      refine (within_any _ _ _ _).mono ?_
      rintro x w4 ⟨rfl, rfl⟩
      go_wp2_with fail
      go_ret
      exact ⟨by rw [HV.out, D2.out]; simp, ((Only.refl _ _).alloc _).thenNil ho3⟩
  have k3b : (kind == 3) = false := beq_false_of_ne k3
  by_cases k6 : kind = 6
  · subst k6
    cases pl
    · go_enter Try.func16, Try.ntmps16
      go_wp2_with fail
      refine (within_any _ _ _ _).mono ?_
      rintro x w1 ⟨rfl, rfl⟩
      rw [ht]
      go_wp2_with fail
      refine (within_any _ _ _ _).mono ?_
      rintro x w2 ⟨rfl, rfl⟩
      go_wp2_with fail
      refine (HPL.out _).mono ?_
      rintro x w3 ⟨rfl, hO3⟩
      have ho3 := hO3
      have kp : ∀ i, w3.cell? ⟨w.heap.size, i, none⟩ = #[Value.int .i64 6, .int .i64 task, .int .i64 call, .int .i64 a0, .int .i64 a1, .int .i64 a2, .int .i64 result, .slice A data.length c][i]? := fun i => ((Blk.new w 39 _).onlyNil hO3).cell i
      clear hO3
      go_wp2_with fail
      go_ret
      exact ⟨by rw [HV.out, D2.out]; simp, ((Only.refl _ _).alloc _).thenNil ho3⟩
    · go_enter Try.func16, Try.ntmps16
      go_wp2_with fail
      refine (within_any _ _ _ _).mono ?_
      rintro x w1 ⟨rfl, rfl⟩
      rw [ht]
      go_wp2_with fail
      refine (within_any _ _ _ _).mono ?_
      rintro x w2 ⟨rfl, rfl⟩
      go_wp2_with fail
      refine (HPL.out _).mono ?_
      rintro x w3 ⟨rfl, hO3⟩
      have ho3 := hO3
      have kp : ∀ i, w3.cell? ⟨w.heap.size, i, none⟩ = #[Value.int .i64 6, .int .i64 task, .int .i64 call, .int .i64 a0, .int .i64 a1, .int .i64 a2, .int .i64 result, .slice A data.length c][i]? := fun i => ((Blk.new w 39 _).onlyNil hO3).cell i
      clear hO3
      go_wp2_with fail
      refine (within_any _ _ _ _).mono ?_
      rintro x w4 ⟨rfl, rfl⟩
      go_wp2_with fail
      go_ret
      exact ⟨by rw [HV.out, D2.out]; simp, ((Only.refl _ _).alloc _).thenNil ho3⟩
  have k6b : (kind == 6) = false := beq_false_of_ne k6
  by_cases k5 : kind = 5
  · subst k5
    cases pl
    · go_enter Try.func16, Try.ntmps16
      go_wp2_with fail
      refine (within_any _ _ _ _).mono ?_
      rintro x w1 ⟨rfl, rfl⟩
      rw [ht]
      go_wp2_with fail
      refine (within_any _ _ _ _).mono ?_
      rintro x w2 ⟨rfl, rfl⟩
      go_wp2_with fail
      refine (HPL.out _).mono ?_
      rintro x w3 ⟨rfl, hO3⟩
      have ho3 := hO3
      have kp : ∀ i, w3.cell? ⟨w.heap.size, i, none⟩ = #[Value.int .i64 5, .int .i64 task, .int .i64 call, .int .i64 a0, .int .i64 a1, .int .i64 a2, .int .i64 result, .slice A data.length c][i]? := fun i => ((Blk.new w 39 _).onlyNil hO3).cell i
      clear hO3
      go_wp2_with fail
      go_ret
      exact ⟨by rw [HV.out, D2.out]; simp, ((Only.refl _ _).alloc _).thenNil ho3⟩
    · go_enter Try.func16, Try.ntmps16
      go_wp2_with fail
      refine (within_any _ _ _ _).mono ?_
      rintro x w1 ⟨rfl, rfl⟩
      rw [ht]
      go_wp2_with fail
      refine (within_any _ _ _ _).mono ?_
      rintro x w2 ⟨rfl, rfl⟩
      go_wp2_with fail
      refine (HPL.out _).mono ?_
      rintro x w3 ⟨rfl, hO3⟩
      have ho3 := hO3
      have kp : ∀ i, w3.cell? ⟨w.heap.size, i, none⟩ = #[Value.int .i64 5, .int .i64 task, .int .i64 call, .int .i64 a0, .int .i64 a1, .int .i64 a2, .int .i64 result, .slice A data.length c][i]? := fun i => ((Blk.new w 39 _).onlyNil hO3).cell i
      clear hO3
      go_wp2_with fail
      refine (within_any _ _ _ _).mono ?_
      rintro x w4 ⟨rfl, rfl⟩
      go_wp2_with fail
      go_ret
      exact ⟨by rw [HV.out, D2.out]; simp, ((Only.refl _ _).alloc _).thenNil ho3⟩
  have k5b : (kind == 5) = false := beq_false_of_ne k5
  by_cases k4 : kind = 4
  · subst k4
    cases pl
    · go_enter Try.func16, Try.ntmps16
      go_wp2_with fail
      refine (within_any _ _ _ _).mono ?_
      rintro x w1 ⟨rfl, rfl⟩
      rw [ht]
      go_wp2_with fail
      refine (within_any _ _ _ _).mono ?_
      rintro x w2 ⟨rfl, rfl⟩
      go_wp2_with fail
      refine (HPL.out _).mono ?_
      rintro x w3 ⟨rfl, hO3⟩
      have ho3 := hO3
      have kp : ∀ i, w3.cell? ⟨w.heap.size, i, none⟩ = #[Value.int .i64 4, .int .i64 task, .int .i64 call, .int .i64 a0, .int .i64 a1, .int .i64 a2, .int .i64 result, .slice A data.length c][i]? := fun i => ((Blk.new w 39 _).onlyNil hO3).cell i
      clear hO3
      go_wp2_with fail
      go_ret
      exact ⟨by rw [HV.out, D2.out]; simp, ((Only.refl _ _).alloc _).thenNil ho3⟩
    · go_enter Try.func16, Try.ntmps16
      go_wp2_with fail
      refine (within_any _ _ _ _).mono ?_
      rintro x w1 ⟨rfl, rfl⟩
      rw [ht]
      go_wp2_with fail
      refine (within_any _ _ _ _).mono ?_
      rintro x w2 ⟨rfl, rfl⟩
      go_wp2_with fail
      refine (HPL.out _).mono ?_
      rintro x w3 ⟨rfl, hO3⟩
      have ho3 := hO3
      have kp : ∀ i, w3.cell? ⟨w.heap.size, i, none⟩ = #[Value.int .i64 4, .int .i64 task, .int .i64 call, .int .i64 a0, .int .i64 a1, .int .i64 a2, .int .i64 result, .slice A data.length c][i]? := fun i => ((Blk.new w 39 _).onlyNil hO3).cell i
      clear hO3
      go_wp2_with fail
      go_ret
      exact ⟨by rw [HV.out, D2.out]; simp, ((Only.refl _ _).alloc _).thenNil ho3⟩
  have k4b : (kind == 4) = false := beq_false_of_ne k4
  have KK := Lib.hid (And.intro k1 (And.intro k2 (And.intro k3 (And.intro k4 (And.intro k5 (And.intro k6 k7))))))
  clear k1 k2 k3 k4 k5 k6 k7
  go_enter Try.func16, Try.ntmps16
  go_wp2_with fail
  refine (within_any _ _ _ _).mono ?_
  rintro x w1 ⟨rfl, rfl⟩
  rw [ht]
  go_wp2_with fail
  refine (within_any _ _ _ _).mono ?_
  rintro x w2 ⟨rfl, rfl⟩
  go_wp2_with fail
  go_ret
  exact ⟨by obtain ⟨k1, k2, k3, k4, k5, k6, k7⟩ := KK.out; rw [HV.out]; simp [k1, k2, k3, k4, k5, k6, k7], (Only.refl _ _).alloc _⟩

end Go.Proofs.Ytkcmdibpndkfbaa
