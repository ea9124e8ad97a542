/-
  The walk of ratoonref01.SameEntry.
  Conditions: the entries can be read.
-/
import Derived.Test.YtbhgaaendekghaaEn1
import Derived.Test.YtbhgaaendekghaaMsgS
namespace Go.Proofs.Ytbhgaaendekghaa
open Go.RowKit

theorem eqArr3 (a0 a1 a2 b0 b1 b2 : Int) (w : World) : (Op.equalIn 10000 33 (.agg #[.int .i64 a0, .int .i64 a1, .int .i64 a2]) (.agg #[.int .i64 b0, .int .i64 b1, .int .i64 b2])).run Try.prog w = .ok (a0 == b0 && (a1 == b1 && a2 == b2)) w := by
  have u3 := Try.underlying3
  have a3 := Try.isAgg3
  have z3 := Try.sizeOf3
  rw [show (10000 : Nat) = 9999 + 1 from rfl, Op.equalIn]
  simp only [Sem.run_bind, run_underlying Try.underlying33, Result.andThen_ok]
  simp only [Std.Legacy.Range.forIn_eq_forIn_range', Std.Legacy.Range.size, Nat.sub_zero, Nat.add_sub_cancel, Nat.div_one, List.range'_succ, List.range'_zero, List.forIn_cons, List.forIn_nil]
  cases h0 : (a0 == b0) <;> cases h1 : (a1 == b1) <;> cases h2 : (a2 == b2) <;> go_simp

def sameE (x y : En) : Bool := x.kind == y.kind && (x.task == y.task && (x.call == y.call && ((x.a0 == y.a0 && (x.a1 == y.a1 && x.a2 == y.a2)) && (x.result == y.result && x.data == y.data))))
theorem sameE_iff {x y : En} : sameE x y = true ↔ x = y := by
  obtain ⟨k, t, c, a0, a1, a2, r, d⟩ := x
  obtain ⟨k', t', c', b0, b1, b2, r', d'⟩ := y
  unfold sameE
  simp only [Bool.and_eq_true, beq_iff_eq, En.mk.injEq, and_assoc]
set_option maxRecDepth 100000 in
set_option maxHeartbeats 2000000 in
theorem same_entry (r q : ER) (w : World) (hr : Bs w w.heap.size r.A r.x.data) (hq : Bs w w.heap.size q.A q.x.data) :
    Calls Try.prog 19 #[.agg r.cells.toArray, .agg q.cells.toArray] w fun e w' => e = .returned (.bool (sameE r.x q.x)) ∧ Only Nil w w' := by
  obtain ⟨A, c, ⟨kind, task, call, a0, a1, a2, result, data⟩⟩ := r
  obtain ⟨B, c', ⟨kind', task', call', b0, b1, b2, result', data'⟩⟩ := q
  have hq3 := eqArr3 a0 a1 a2 b0 b1 b2
  have hS : sameE ⟨kind, task, call, a0, a1, a2, result, data⟩ ⟨kind', task', call', b0, b1, b2, result', data'⟩ = (kind == kind' && (task == task' && (call == call' && ((a0 == b0 && (a1 == b1 && a2 == b2)) && (result == result' && data == data'))))) := rfl
  dsimp only at hr hq
  have HSA := Lib.hid (fun (u : World) (hO : Only Nil w u) => same_bytes A B c c' data data' u ((hr.onlyNil hO (Nat.le_refl _)).up hO.size) ((hq.onlyNil hO (Nat.le_refl _)).up hO.size))
  unfold ER.cells
  dsimp only
  rw [hS]
  obtain ⟨D, hD⟩ : ∃ D, data.length = D := ⟨_, rfl⟩
  obtain ⟨D', hD'⟩ : ∃ D, data'.length = D := ⟨_, rfl⟩
  rw [hD, hD'] at HSA ⊢
  obtain ⟨p0, h0⟩ : ∃ p, (kind == kind') = p := ⟨_, rfl⟩
  obtain ⟨p1, h1⟩ : ∃ p, (task == task') = p := ⟨_, rfl⟩
  obtain ⟨p2, h2⟩ : ∃ p, (call == call') = p := ⟨_, rfl⟩
  obtain ⟨p3, h3⟩ : ∃ p, (a0 == b0 && (a1 == b1 && a2 == b2)) = p := ⟨_, rfl⟩
  obtain ⟨p4, h4⟩ : ∃ p, (result == result') = p := ⟨_, rfl⟩
  obtain ⟨p5, h5⟩ : ∃ p, (data == data') = p := ⟨_, rfl⟩
  rw [h5] at HSA
  rw [h0, h1, h2, h3, h4, h5]
  rw [h3] at hq3
  clear hr hq hS hD hD' h3 h5
  cases p0
  · skip
    go_enter Try.func19, Try.ntmps19
    go_wp2_with fail
    go_ret
    exact ⟨by first | rfl | simp, by (repeat' (first | with_reducible exact Only.refl _ _ | with_reducible refine Only.setCell ?_ (Or.inl ?_) _ | with_reducible refine Only.drewN ?_ _ | with_reducible refine Only.drew ?_ | with_reducible refine Only.alloc ?_ _ | (fail)))⟩
  · skip
    cases p1
    · skip
      go_enter Try.func19, Try.ntmps19
      go_wp2_with fail
      go_ret
      exact ⟨by first | rfl | simp, by (repeat' (first | with_reducible exact Only.refl _ _ | with_reducible refine Only.setCell ?_ (Or.inl ?_) _ | with_reducible refine Only.drewN ?_ _ | with_reducible refine Only.drew ?_ | with_reducible refine Only.alloc ?_ _ | (fail)))⟩
    · skip
      cases p2
      · skip
        go_enter Try.func19, Try.ntmps19
        go_wp2_with fail
        go_ret
        exact ⟨by first | rfl | simp, by (repeat' (first | with_reducible exact Only.refl _ _ | with_reducible refine Only.setCell ?_ (Or.inl ?_) _ | with_reducible refine Only.drewN ?_ _ | with_reducible refine Only.drew ?_ | with_reducible refine Only.alloc ?_ _ | (fail)))⟩
      · skip
        cases p3
        · skip
          go_enter Try.func19, Try.ntmps19
          go_wp2_with fail
          go_ret
          exact ⟨by first | rfl | simp, by (repeat' (first | with_reducible exact Only.refl _ _ | with_reducible refine Only.setCell ?_ (Or.inl ?_) _ | with_reducible refine Only.drewN ?_ _ | with_reducible refine Only.drew ?_ | with_reducible refine Only.alloc ?_ _ | (fail)))⟩
        · skip
          cases p4
          · skip
            go_enter Try.func19, Try.ntmps19
            go_wp2_with fail
            go_ret
            exact ⟨by first | rfl | simp, by (repeat' (first | with_reducible exact Only.refl _ _ | with_reducible refine Only.setCell ?_ (Or.inl ?_) _ | with_reducible refine Only.drewN ?_ _ | with_reducible refine Only.drew ?_ | with_reducible refine Only.alloc ?_ _ | (fail)))⟩
          · skip
            go_enter Try.func19, Try.ntmps19
            go_wp2_with fail
            refine (HSA.out _ (((Only.refl _ _).alloc _).alloc _)).mono ?_
            rintro x w1 ⟨rfl, rfl⟩
            go_wp2_with fail
            go_ret
            exact ⟨by first | rfl | simp, by (repeat' (first | with_reducible exact Only.refl _ _ | with_reducible refine Only.setCell ?_ (Or.inl ?_) _ | with_reducible refine Only.drewN ?_ _ | with_reducible refine Only.drew ?_ | with_reducible refine Only.alloc ?_ _ | (fail)))⟩


end Go.Proofs.Ytbhgaaendekghaa
