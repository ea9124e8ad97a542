/-
  Equal effects, equal lists of effects. No program here.
-/
import Derived.Test.YtbhgaaendekghaaEfA
import Derived.Test.YtbhgaaendekghaaMsgS
namespace Go.Proofs.Ytbhgaaendekghaa
open Go.RowKit

def sameF (x y : Ef) : Bool := x.kind == y.kind && ((x.a0 == y.a0 && (x.a1 == y.a1 && (x.a2 == y.a2 && x.a3 == y.a3))) && (sameM x.msg y.msg && x.data == y.data))
theorem sameF_iff {x y : Ef} : sameF x y = true ↔ x = y := by
  obtain ⟨k, a0, a1, a2, a3, m, d⟩ := x
  obtain ⟨k', b0, b1, b2, b3, m', d'⟩ := y
  unfold sameF
  simp only [Bool.and_eq_true, beq_iff_eq, sameM_iff, Ef.mk.injEq, and_assoc]
def sameFs : List Ef → List Ef → Bool
  | [], [] => true
  | x :: a, y :: b => sameF x y && sameFs a b
  | _, _ => false
theorem sameFs_iff : ∀ {a b : List Ef}, sameFs a b = true ↔ a = b := by
  intro a
  induction a with
  | nil => intro b; cases b <;> simp [sameFs]
  | cons x a ih =>
    intro b
    cases b with
    | nil => simp [sameFs]
    | cons y b => simp only [sameFs, Bool.and_eq_true, sameF_iff, ih, List.cons.injEq]
theorem sameFs_len {a b : List Ef} (h : a.length ≠ b.length) : sameFs a b = false := by
  cases hs : sameFs a b with
  | false => rfl
  | true => rw [sameFs_iff] at hs; rw [hs] at h; exact absurd rfl h

end Go.Proofs.Ytbhgaaendekghaa
