/-
  Equal effects, equal lists of effects; the check of a region's orders in parts. No program here.
-/
import Derived.Test.YtbhgaaendekghaaEfA
import Derived.Test.YtbhgaaendekghaaMsgS
import Derived.Test.YtbhgaaendekghaaInv
namespace Go.Proofs.Ytbhgaaendekghaa
open Go Go.RowKit

def sameF (x y : Ef) : Bool := x.kind == y.kind && ((x.a0 == y.a0 && (x.a1 == y.a1 && (x.a2 == y.a2 && x.a3 == y.a3))) && (sameM x.msg y.msg && x.data == y.data))
theorem sameF_iff {x y : Ef} : sameF x y = true ↔ x = y := by
  obtain ⟨k, a0, a1, a2, a3, m, d⟩ := x
  obtain ⟨k', b0, b1, b2, b3, m', d'⟩ := y
  unfold sameF
  simp only [Bool.and_eq_true, beq_iff_eq, sameM_iff, Ef.mk.injEq, and_assoc]
def sameFs : List Ef → List Ef → Bool
  | [], [] => true
  | x :: a, y :: b => sameF x y && sameFs a b
  | _, _ => false
theorem sameFs_iff : ∀ {a b : List Ef}, sameFs a b = true ↔ a = b := by
  intro a
  induction a with
  | nil => intro b; cases b <;> simp [sameFs]
  | cons x a ih =>
    intro b
    cases b with
    | nil => simp [sameFs]
    | cons y b => simp only [sameFs, Bool.and_eq_true, sameF_iff, ih, List.cons.injEq]
theorem sameFs_len {a b : List Ef} (h : a.length ≠ b.length) : sameFs a b = false := by
  cases hs : sameFs a b with
  | false => rfl
  | true => rw [sameFs_iff] at hs; rw [hs] at h; exact absurd rfl h

/-- The check of fewer states. -/
theorem chk_less {md : Region.Mode} {ops : Array Oper} {X : List Ent} {fin : List Bool} : ∀ {n : Nat} {ls ms : List (List Bool)}, (∀ l ∈ ms, l ∈ ls) → chk md ops X fin n ls = true → chk md ops X fin n ms = true := by
  intro n
  induction n with
  | zero =>
    intro ls ms h hc
    simp only [chk, List.all_eq_true] at hc ⊢
    exact fun l hl => hc l (h l hl)
  | succ n ih =>
    intro ls ms h hc
    simp only [chk, Bool.and_eq_true] at hc ⊢
    refine ⟨?_, ih (fun l hl => ?_) hc.2⟩
    · rw [List.all_eq_true] at hc ⊢
      exact fun l hl => hc.1 l (h l hl)
    · rw [List.mem_eraseDups, List.mem_flatMap] at hl ⊢
      obtain ⟨x, hx, h2⟩ := hl
      exact ⟨x, h x hx, h2⟩

/-- The check in two parts, where every order passes through the state 'mid'. -/
theorem chk_split {md : Region.Mode} {ops : Array Oper} {X : List Ent} {fin : List Bool} {n : Nat} {ls : List (List Bool)} (mid : List Bool) (n1 n2 : Nat) (hn : n = n1 + n2)
    (h1 : chk md ops X mid n1 ls = true) (h2 : chk md ops X fin n2 [mid] = true) : chk md ops X fin n ls = true := by
  subst hn
  induction n1 generalizing ls with
  | zero =>
    rw [Nat.zero_add]
    simp only [chk, List.all_eq_true, beq_iff_eq] at h1
    exact chk_less (fun l hl => by rw [h1 l hl]; exact List.mem_cons_self ..) h2
  | succ n1 ih =>
    rw [show n1 + 1 + n2 = (n1 + n2) + 1 by omega]
    simp only [chk, Bool.and_eq_true] at h1 ⊢
    exact ⟨h1.1, ih h1.2⟩

end Go.Proofs.Ytbhgaaendekghaa
