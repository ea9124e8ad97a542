/-
  Walks of record: within, plain, Valid.
  No conditions.
-/
import Derived.Test.YtkcmdibpndkfbaaEnP
import Derived.ChangeKeysEq
import Derived.BigQuiet
namespace Go.Proofs.Ytkcmdibpndkfbaa
open Go.RowKit

theorem int_info : (Try.prog.info? 3).map (fun i => (i.zero, i.size, i.bytes)) = some (some (.int .i64 0), 1, 8) := by kernel_rfl

/-- '==' of two arrays of three ints. -/
theorem eqArr3 (a0 a1 a2 b0 b1 b2 : Int) (w : World) : (Op.equalIn 10000 37 (.agg #[.int .i64 a0, .int .i64 a1, .int .i64 a2]) (.agg #[.int .i64 b0, .int .i64 b1, .int .i64 b2])).run Try.prog w = .ok (a0 == b0 && (a1 == b1 && a2 == b2)) w := by
  have u3 := Try.underlying3
  have a3 := Try.isAgg3
  have z3 := Try.sizeOf3
  rw [show (10000 : Nat) = 9999 + 1 from rfl, Op.equalIn]
  simp only [Sem.run_bind, run_underlying Try.underlying37, Result.andThen_ok]
  simp only [Std.Legacy.Range.forIn_eq_forIn_range', Std.Legacy.Range.size, Nat.sub_zero, Nat.add_sub_cancel, Nat.div_one, List.range'_succ, List.range'_zero, List.forIn_cons, List.forIn_nil]
  cases h0 : (a0 == b0) <;> cases h1 : (a1 == b1) <;> cases h2 : (a2 == b2) <;> go_simp

def inR (n a b : Int) : Bool := decide (a ≤ n) && decide (n ≤ b)

theorem within_any (n a b : Int) (w : World) : Calls Try.prog 28 #[.int .i64 n, .int .i64 a, .int .i64 b] w fun e w' => e = .returned (.bool (inR n a b)) ∧ w' = w := by
  unfold inR
  by_cases h1 : a ≤ n
  · by_cases h2 : n ≤ b
    · go_enter Try.func28, Try.ntmps28
      go_wp2_with fail
      go_ret
      exact ⟨by simp [h1, h2], rfl⟩
    · go_enter Try.func28, Try.ntmps28
      go_wp2_with fail
      go_ret
      exact ⟨by simp [h1, h2], rfl⟩
  · go_enter Try.func28, Try.ntmps28
    go_wp2_with fail
    go_ret
    exact ⟨by rw [decide_eq_false (show ¬ a ≤ n by omega)]; rfl, rfl⟩

def noArgs (x : En) : Bool := x.a0 == 0 && (x.a1 == 0 && x.a2 == 0)
def plainE (x : En) : Bool := x.call == 0 && (noArgs x && decide (x.data.length = 0))

set_option maxRecDepth 100000 in
theorem plain_any (r : ER) (w : World) : Calls Try.prog 29 #[.agg r.cells.toArray] w fun e w' => e = .returned (.bool (plainE r.x)) ∧ Only Nil w w' := by
  obtain ⟨A, c, ⟨kind, task, call, a0, a1, a2, result, data⟩⟩ := r
  have hq := eqArr3 a0 a1 a2 0 0 0
  unfold plainE noArgs ER.cells
  dsimp only
  obtain ⟨n, hn⟩ : ∃ n, (a0 == 0 && (a1 == 0 && a2 == 0)) = n := ⟨_, rfl⟩
  rw [hn] at hq ⊢
  clear hn
  cases h1 : (call == 0)
  · go_enter Try.func29, Try.ntmps29
    go_wp2_with fail
    go_ret
    exact ⟨by simp, (Only.refl _ _).alloc _⟩
  · cases n
    · go_enter Try.func29, Try.ntmps29
      go_wp2_with fail
      go_ret
      exact ⟨by simp, (Only.refl _ _).alloc _⟩
    · obtain ⟨d, hd⟩ : ∃ d, decide (data.length = 0) = d := ⟨_, rfl⟩
      have hd' : ((data.length : Int) == 0) = d := by
        rw [← hd]
        by_cases h : data.length = 0
        · rw [decide_eq_true h, h]; rfl
        · rw [decide_eq_false h]
          exact beq_false_of_ne (by omega)
      rw [hd]
      clear hd
      go_enter Try.func29, Try.ntmps29
      go_wp2_with fail
      go_ret
      exact ⟨by simp, (Only.refl _ _).alloc _⟩

end Go.Proofs.Ytkcmdibpndkfbaa
