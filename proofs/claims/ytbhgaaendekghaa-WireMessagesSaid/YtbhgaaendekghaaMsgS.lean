/-
  The walk of ratoonref01.SameMsg.
  Conditions: the messages can be read.
-/
import Derived.Test.YtbhgaaendekghaaMsgP
import Derived.Test.YtbhgaaendekghaaClone
import Derived.Deep.Cut
import Derived.Deep.DeepCutAuto
namespace Go.Proofs.Ytbhgaaendekghaa
open Go.RowKit

/-- '==' of two arrays of four ints. -/
theorem eqArr4 (a0 a1 a2 a3 b0 b1 b2 b3 : Int) (w : World) : (Op.equalIn 10000 24 (.agg #[.int .i64 a0, .int .i64 a1, .int .i64 a2, .int .i64 a3]) (.agg #[.int .i64 b0, .int .i64 b1, .int .i64 b2, .int .i64 b3])).run Try.prog w = .ok (a0 == b0 && (a1 == b1 && (a2 == b2 && a3 == b3))) w := by
  have u3 := Try.underlying3
  have a3_ := Try.isAgg3
  have z3 := Try.sizeOf3
  rw [show (10000 : Nat) = 9999 + 1 from rfl, Op.equalIn]
  simp only [Sem.run_bind, run_underlying Try.underlying24, Result.andThen_ok]
  simp only [Std.Legacy.Range.forIn_eq_forIn_range', Std.Legacy.Range.size, Nat.sub_zero, Nat.add_sub_cancel, Nat.div_one, List.range'_succ, List.range'_zero, List.forIn_cons, List.forIn_nil]
  cases h0 : (a0 == b0) <;> cases h1 : (a1 == b1) <;> cases h2 : (a2 == b2) <;> cases h3 : (a3 == b3) <;> go_simp

def sameM (x y : M) : Bool := x.src == y.src && (x.dst == y.dst && (x.kind == y.kind && (x.seq == y.seq && ((x.a0 == y.a0 && (x.a1 == y.a1 && (x.a2 == y.a2 && x.a3 == y.a3))) && x.data == y.data))))
theorem sameM_iff {x y : M} : sameM x y = true ↔ x = y := by
  obtain ⟨s, t, c, q, a0, a1, a2, a3, d⟩ := x
  obtain ⟨s', t', c', q', b0, b1, b2, b3, d'⟩ := y
  unfold sameM
  simp only [Bool.and_eq_true, beq_iff_eq, M.mk.injEq, and_assoc]

theorem same_bytes (A B : Option Addr) (ca cb : Nat) (a b : List UInt8) (w : World) (ha : Bs w w.heap.size A a) (hb : Bs w w.heap.size B b) :
    Calls Try.prog 44 #[.slice A a.length ca, .slice B b.length cb] w fun e w' => e = .returned (.bool (a == b)) ∧ w' = w := by
  have h1 := run_str (P := Try.prog) w 22 9 5 Try.underlying22 Try.underlying5 Try.underlying9 (c := ca) ha rfl
  have h2 := run_str (P := Try.prog) w 22 9 5 Try.underlying22 Try.underlying5 Try.underlying9 (c := cb) hb rfl
  go_enter Try.func44, Try.ntmps44
  go_wp2_with fail
  go_ret
  exact ⟨rfl, rfl⟩

set_option maxRecDepth 100000 in
set_option maxHeartbeats 2000000 in
theorem same_msg (A : Option Addr) (c : Nat) (x : M) (B : Option Addr) (c' : Nat) (y : M) (w : World) (hr : Bs w w.heap.size A x.data) (hq : Bs w w.heap.size B y.data) :
    Calls Try.prog 17 #[.agg (mcells A c x).toArray, .agg (mcells B c' y).toArray] w fun e w' => e = .returned (.bool (sameM x y)) ∧ Only Nil w w' := by
  obtain ⟨src, dst, kind, seq, a0, a1, a2, a3, data⟩ := x
  obtain ⟨src', dst', kind', seq', b0, b1, b2, b3, data'⟩ := y
  have hq4 := eqArr4 a0 a1 a2 a3 b0 b1 b2 b3
  have hS : sameM ⟨src, dst, kind, seq, a0, a1, a2, a3, data⟩ ⟨src', dst', kind', seq', b0, b1, b2, b3, data'⟩ = (src == src' && (dst == dst' && (kind == kind' && (seq == seq' && ((a0 == b0 && (a1 == b1 && (a2 == b2 && a3 == b3))) && data == data'))))) := rfl
  dsimp only at hr hq
  have HSA := Lib.hid (fun (u : World) (hO : Only Nil w u) => same_bytes A B c c' data data' u ((hr.onlyNil hO (Nat.le_refl _)).up hO.size) ((hq.onlyNil hO (Nat.le_refl _)).up hO.size))
  unfold mcells
  dsimp only
  rw [hS]
  obtain ⟨D, hD⟩ : ∃ D, data.length = D := ⟨_, rfl⟩
  obtain ⟨D', hD'⟩ : ∃ D, data'.length = D := ⟨_, rfl⟩
  rw [hD, hD'] at HSA ⊢
  obtain ⟨p0, h0⟩ : ∃ p, (src == src') = p := ⟨_, rfl⟩
  obtain ⟨p1, h1⟩ : ∃ p, (dst == dst') = p := ⟨_, rfl⟩
  obtain ⟨p2, h2⟩ : ∃ p, (kind == kind') = p := ⟨_, rfl⟩
  obtain ⟨p3, h3⟩ : ∃ p, (seq == seq') = p := ⟨_, rfl⟩
  obtain ⟨p4, h4⟩ : ∃ p, (a0 == b0 && (a1 == b1 && (a2 == b2 && a3 == b3))) = p := ⟨_, rfl⟩
  obtain ⟨p5, h5⟩ : ∃ p, (data == data') = p := ⟨_, rfl⟩
  rw [h5] at HSA
  rw [h0, h1, h2, h3, h4, h5]
  rw [h4] at hq4
  clear hr hq hS hD hD' h4 h5
  cases p0
  · skip
    go_enter Try.func17, Try.ntmps17
    go_wp2_with fail
    go_ret
    exact ⟨by first | rfl | simp, by (repeat' (first | with_reducible exact Only.refl _ _ | with_reducible refine Only.setCell ?_ (Or.inl ?_) _ | with_reducible refine Only.drewN ?_ _ | with_reducible refine Only.drew ?_ | with_reducible refine Only.alloc ?_ _ | (fail)))⟩
  · skip
    cases p1
    · skip
      go_enter Try.func17, Try.ntmps17
      go_wp2_with fail
      go_ret
      exact ⟨by first | rfl | simp, by (repeat' (first | with_reducible exact Only.refl _ _ | with_reducible refine Only.setCell ?_ (Or.inl ?_) _ | with_reducible refine Only.drewN ?_ _ | with_reducible refine Only.drew ?_ | with_reducible refine Only.alloc ?_ _ | (fail)))⟩
    · skip
      cases p2
      · skip
        go_enter Try.func17, Try.ntmps17
        go_wp2_with fail
        go_ret
        exact ⟨by first | rfl | simp, by (repeat' (first | with_reducible exact Only.refl _ _ | with_reducible refine Only.setCell ?_ (Or.inl ?_) _ | with_reducible refine Only.drewN ?_ _ | with_reducible refine Only.drew ?_ | with_reducible refine Only.alloc ?_ _ | (fail)))⟩
      · skip
        cases p3
        · skip
          go_enter Try.func17, Try.ntmps17
          go_wp2_with fail
          go_ret
          exact ⟨by first | rfl | simp, by (repeat' (first | with_reducible exact Only.refl _ _ | with_reducible refine Only.setCell ?_ (Or.inl ?_) _ | with_reducible refine Only.drewN ?_ _ | with_reducible refine Only.drew ?_ | with_reducible refine Only.alloc ?_ _ | (fail)))⟩
        · skip
          cases p4
          · skip
            go_enter Try.func17, Try.ntmps17
            go_wp2_with fail
            go_ret
            exact ⟨by first | rfl | simp, by (repeat' (first | with_reducible exact Only.refl _ _ | with_reducible refine Only.setCell ?_ (Or.inl ?_) _ | with_reducible refine Only.drewN ?_ _ | with_reducible refine Only.drew ?_ | with_reducible refine Only.alloc ?_ _ | (fail)))⟩
          · skip
            go_enter Try.func17, Try.ntmps17
            go_wp2_with fail
            refine (HSA.out _ (((Only.refl _ _).alloc _).alloc _)).mono ?_
            rintro x w1 ⟨rfl, rfl⟩
            go_wp2_with fail
            go_ret
            exact ⟨by first | rfl | simp, by (repeat' (first | with_reducible exact Only.refl _ _ | with_reducible refine Only.setCell ?_ (Or.inl ?_) _ | with_reducible refine Only.drewN ?_ _ | with_reducible refine Only.drew ?_ | with_reducible refine Only.alloc ?_ _ | (fail)))⟩

end Go.Proofs.Ytbhgaaendekghaa
