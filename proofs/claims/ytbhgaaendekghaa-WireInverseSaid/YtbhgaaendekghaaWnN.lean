/-
  wire.Reader's methods on a nil pointer.
  No conditions.
-/
import Derived.Test.YtbhgaaendekghaaWire
import Derived.Test.YtbhgaaendekghaaRow
namespace Go.Proofs.Ytbhgaaendekghaa
open Go.RowKit

theorem try_nil (f : Value) (w : World) : Calls Try.prog 60 #[.pointer none, f] w fun e w' => ∃ v, e = .returned v ∧ w' = w := by
  go_enter Try.func60, Try.ntmps60
  go_wp2_with fail
  refine bodyPost_ret (v := .tuple #[]) (by simp [results, Try.results60, go_sem]) rfl ?_
  exact ⟨_, rfl, rfl⟩

theorem rint_nil (w : World) : Calls Try.prog 24 #[.pointer none] w fun e w' => e = .returned (.int .i64 0) ∧ Only Nil w w' := by
  go_enter Try.func24, Try.ntmps24
  go_wp2_with fail
  refine (try_nil _ _).mono ?_
  rintro e w1 ⟨v, rfl, rfl⟩
  go_wp2_with fail
  refine bodyPost_ret (v := .int .i64 0) (by simp [results, Try.results24, go_sem]) rfl ?_
  refine ⟨rfl, (Only.refl Nil w).trans (S' := fun x => w.heap.size ≤ x) ?_ (fun x hx => .inr hx)⟩
  (repeat' (first | with_reducible exact Only.refl _ _ | with_reducible refine Only.setCell ?_ (Or.inl ?_) _ | with_reducible refine Only.drewN ?_ _ | with_reducible refine Only.drew ?_ | with_reducible refine Only.alloc ?_ _ | (first | exact Nat.le_refl _ | (show w.heap.size ≤ _; dsimp only; omega) | (show w.heap.size ≤ _; simp <;> omega))))

theorem rbounded_nil (a b : Int) (w : World) : Calls Try.prog 38 #[.pointer none, .int .i64 a, .int .i64 b] w fun e w' => e = .returned (.int .i64 0) ∧ Only Nil w w' := by
  go_enter Try.func38, Try.ntmps38
  go_wp2_with fail
  refine (try_nil _ _).mono ?_
  rintro e w1 ⟨v, rfl, rfl⟩
  go_wp2_with fail
  refine bodyPost_ret (v := .int .i64 0) (by simp [results, Try.results38, go_sem]) rfl ?_
  refine ⟨rfl, (Only.refl Nil w).trans (S' := fun x => w.heap.size ≤ x) ?_ (fun x hx => .inr hx)⟩
  (repeat' (first | with_reducible exact Only.refl _ _ | with_reducible refine Only.setCell ?_ (Or.inl ?_) _ | with_reducible refine Only.drewN ?_ _ | with_reducible refine Only.drew ?_ | with_reducible refine Only.alloc ?_ _ | (first | exact Nat.le_refl _ | (show w.heap.size ≤ _; dsimp only; omega) | (show w.heap.size ≤ _; simp <;> omega))))

theorem rbool_nil (w : World) : Calls Try.prog 39 #[.pointer none] w fun e w' => e = .returned (.bool false) ∧ Only Nil w w' := by
  go_enter Try.func39, Try.ntmps39
  go_wp2_with fail
  refine (try_nil _ _).mono ?_
  rintro e w1 ⟨v, rfl, rfl⟩
  go_wp2_with fail
  refine bodyPost_ret (v := .bool false) (by simp [results, Try.results39, go_sem]) rfl ?_
  refine ⟨rfl, (Only.refl Nil w).trans (S' := fun x => w.heap.size ≤ x) ?_ (fun x hx => .inr hx)⟩
  (repeat' (first | with_reducible exact Only.refl _ _ | with_reducible refine Only.setCell ?_ (Or.inl ?_) _ | with_reducible refine Only.drewN ?_ _ | with_reducible refine Only.drew ?_ | with_reducible refine Only.alloc ?_ _ | (first | exact Nat.le_refl _ | (show w.heap.size ≤ _; dsimp only; omega) | (show w.heap.size ≤ _; simp <;> omega))))

theorem rbytes_nil (a : Int) (w : World) : Calls Try.prog 41 #[.pointer none, .int .i64 a] w fun e w' => e = .returned (.slice none 0 0) ∧ Only Nil w w' := by
  go_enter Try.func41, Try.ntmps41
  go_wp2_with fail
  refine (try_nil _ _).mono ?_
  rintro e w1 ⟨v, rfl, rfl⟩
  go_wp2_with fail
  refine bodyPost_ret (v := .slice none 0 0) (by simp [results, Try.results41, go_sem]) rfl ?_
  refine ⟨rfl, (Only.refl Nil w).trans (S' := fun x => w.heap.size ≤ x) ?_ (fun x hx => .inr hx)⟩
  (repeat' (first | with_reducible exact Only.refl _ _ | with_reducible refine Only.setCell ?_ (Or.inl ?_) _ | with_reducible refine Only.drewN ?_ _ | with_reducible refine Only.drew ?_ | with_reducible refine Only.alloc ?_ _ | (first | exact Nat.le_refl _ | (show w.heap.size ≤ _; dsimp only; omega) | (show w.heap.size ≤ _; simp <;> omega))))

theorem rints_nil (a : Int) (w : World) : Calls Try.prog 35 #[.pointer none, .int .i64 a] w fun e w' => e = .returned (.slice none 0 0) ∧ Only Nil w w' := by
  go_enter Try.func35, Try.ntmps35
  go_wp2_with fail
  refine (try_nil _ _).mono ?_
  rintro e w1 ⟨v, rfl, rfl⟩
  go_wp2_with fail
  refine bodyPost_ret (v := .slice none 0 0) (by simp [results, Try.results35, go_sem]) rfl ?_
  refine ⟨rfl, (Only.refl Nil w).trans (S' := fun x => w.heap.size ≤ x) ?_ (fun x hx => .inr hx)⟩
  (repeat' (first | with_reducible exact Only.refl _ _ | with_reducible refine Only.setCell ?_ (Or.inl ?_) _ | with_reducible refine Only.drewN ?_ _ | with_reducible refine Only.drew ?_ | with_reducible refine Only.alloc ?_ _ | (first | exact Nat.le_refl _ | (show w.heap.size ≤ _; dsimp only; omega) | (show w.heap.size ≤ _; simp <;> omega))))

theorem rstrings_nil (a : Int) (w : World) : Calls Try.prog 37 #[.pointer none, .int .i64 a] w fun e w' => e = .returned (.slice none 0 0) ∧ Only Nil w w' := by
  go_enter Try.func37, Try.ntmps37
  go_wp2_with fail
  refine (try_nil _ _).mono ?_
  rintro e w1 ⟨v, rfl, rfl⟩
  go_wp2_with fail
  refine bodyPost_ret (v := .slice none 0 0) (by simp [results, Try.results37, go_sem]) rfl ?_
  refine ⟨rfl, (Only.refl Nil w).trans (S' := fun x => w.heap.size ≤ x) ?_ (fun x hx => .inr hx)⟩
  (repeat' (first | with_reducible exact Only.refl _ _ | with_reducible refine Only.setCell ?_ (Or.inl ?_) _ | with_reducible refine Only.drewN ?_ _ | with_reducible refine Only.drew ?_ | with_reducible refine Only.alloc ?_ _ | (first | exact Nat.le_refl _ | (show w.heap.size ≤ _; dsimp only; omega) | (show w.heap.size ≤ _; simp <;> omega))))

theorem rmsg_nil (w : World) : Calls Try.prog 49 #[.pointer none] w fun e w' => e = .returned (.agg #[.int .i64 0, .int .i64 0, .int .i64 0, .int .i64 0, .int .i64 0, .int .i64 0, .int .i64 0, .int .i64 0, .slice none 0 0]) ∧ Only Nil w w' := by
  go_enter Try.func49, Try.ntmps49
  go_wp2_with fail
  refine (try_nil _ _).mono ?_
  rintro e w1 ⟨v, rfl, rfl⟩
  go_wp2_with fail
  refine bodyPost_ret (v := .agg #[.int .i64 0, .int .i64 0, .int .i64 0, .int .i64 0, .int .i64 0, .int .i64 0, .int .i64 0, .int .i64 0, .slice none 0 0]) (by simp [results, Try.results49, go_sem]) rfl ?_
  refine ⟨rfl, (Only.refl Nil w).trans (S' := fun x => w.heap.size ≤ x) ?_ (fun x hx => .inr hx)⟩
  (repeat' (first | with_reducible exact Only.refl _ _ | with_reducible refine Only.setCell ?_ (Or.inl ?_) _ | with_reducible refine Only.drewN ?_ _ | with_reducible refine Only.drew ?_ | with_reducible refine Only.alloc ?_ _ | (first | exact Nat.le_refl _ | (show w.heap.size ≤ _; dsimp only; omega) | (show w.heap.size ≤ _; simp <;> omega))))

theorem reffects_nil (w : World) : Calls Try.prog 50 #[.pointer none] w fun e w' => e = .returned (.slice none 0 0) ∧ Only Nil w w' := by
  go_enter Try.func50, Try.ntmps50
  go_wp2_with fail
  refine (try_nil _ _).mono ?_
  rintro e w1 ⟨v, rfl, rfl⟩
  go_wp2_with fail
  refine bodyPost_ret (v := .slice none 0 0) (by simp [results, Try.results50, go_sem]) rfl ?_
  refine ⟨rfl, (Only.refl Nil w).trans (S' := fun x => w.heap.size ≤ x) ?_ (fun x hx => .inr hx)⟩
  (repeat' (first | with_reducible exact Only.refl _ _ | with_reducible refine Only.setCell ?_ (Or.inl ?_) _ | with_reducible refine Only.drewN ?_ _ | with_reducible refine Only.drew ?_ | with_reducible refine Only.alloc ?_ _ | (first | exact Nat.le_refl _ | (show w.heap.size ≤ _; dsimp only; omega) | (show w.heap.size ≤ _; simp <;> omega))))

theorem rentry_nil (w : World) : Calls Try.prog 51 #[.pointer none] w fun e w' => e = .returned (.agg #[.int .i64 0, .int .i64 0, .int .i64 0, .int .i64 0, .int .i64 0, .int .i64 0, .int .i64 0, .slice none 0 0]) ∧ Only Nil w w' := by
  go_enter Try.func51, Try.ntmps51
  go_wp2_with fail
  refine (try_nil _ _).mono ?_
  rintro e w1 ⟨v, rfl, rfl⟩
  go_wp2_with fail
  refine bodyPost_ret (v := .agg #[.int .i64 0, .int .i64 0, .int .i64 0, .int .i64 0, .int .i64 0, .int .i64 0, .int .i64 0, .slice none 0 0]) (by simp [results, Try.results51, go_sem]) rfl ?_
  refine ⟨rfl, (Only.refl Nil w).trans (S' := fun x => w.heap.size ≤ x) ?_ (fun x hx => .inr hx)⟩
  (repeat' (first | with_reducible exact Only.refl _ _ | with_reducible refine Only.setCell ?_ (Or.inl ?_) _ | with_reducible refine Only.drewN ?_ _ | with_reducible refine Only.drew ?_ | with_reducible refine Only.alloc ?_ _ | (first | exact Nat.le_refl _ | (show w.heap.size ≤ _; dsimp only; omega) | (show w.heap.size ≤ _; simp <;> omega))))

theorem rfail_nil (w : World) : Calls Try.prog 48 #[.pointer none] w fun e w' => ∃ v, e = .returned v ∧ w' = w := by
  go_enter Try.func48, Try.ntmps48
  go_wp2_with fail
  refine bodyPost_end (v := .tuple #[]) (by simp [results, Try.results48, go_sem]) rfl ?_
  exact ⟨_, rfl, rfl⟩
theorem rleft_nil (w : World) : Calls Try.prog 42 #[.pointer none] w fun e w' => e = .returned (.int .i64 0) ∧ w' = w := by
  go_enter Try.func42, Try.ntmps42
  go_wp2_with fail
  go_ret
  exact ⟨rfl, rfl⟩
theorem rend_nil (w : World) : Calls Try.prog 25 #[.pointer none] w fun e w' => e = .returned (.int .i64 7) ∧ w' = w := by
  go_enter Try.func25, Try.ntmps25
  go_wp2_with fail
  go_ret
  exact ⟨rfl, rfl⟩
theorem rstring_nil (a : Int) (w : World) : Calls Try.prog 40 #[.pointer none, .int .i64 a] w fun e w' => e = .returned (.string ⟨#[]⟩) ∧ Only Nil w w' := by
  have hs : ∀ w : World, (convert 22 9 (.slice none 0 0)).run Try.prog w = .ok (.string ⟨#[]⟩) w := fun w => run_str (P := Try.prog) w 22 9 5 Try.underlying22 Try.underlying5 Try.underlying9 (B := w.heap.size) (c := 0) (l := []) (Bs.nil _ _ _) rfl
  go_enter Try.func40, Try.ntmps40
  go_wp2_with fail
  refine (rbytes_nil a _).mono ?_
  rintro e w1 ⟨rfl, hO⟩
  go_wp2_with fail
  go_ret
  exact ⟨rfl, hO⟩

end Go.Proofs.Ytbhgaaendekghaa
