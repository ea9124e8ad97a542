/-
  The bytes of a list of entries, plain.
  No conditions: definitions and general laws.
-/
import Derived.Test.YtkcmdibpndkfbaaRcF
import Derived.Test.YtkcmdibpndkfbaaRpW2
namespace Go.Proofs.Ytkcmdibpndkfbaa
open Go.RowKit

def magic : List UInt8 := [82, 84, 78, 82, 49]
/-- The number behind the frames of entries. -/
def sumL (h : Nat) (l : List En) : Nat := l.foldl (fun h x => fromS h (encE x)) h
/-- The frames of entries. -/
def bodyB : Nat → List En → List UInt8
  | _, [] => []
  | h, x :: l => frB x h ++ bodyB (fromS h (encE x)) l
theorem sumL_snoc (h : Nat) (l : List En) (x : En) : sumL h (l ++ [x]) = fromS (sumL h l) (encE x) := by
  unfold sumL
  rw [List.foldl_append, List.foldl_cons, List.foldl_nil]
theorem bodyB_snoc (h : Nat) (l : List En) (x : En) : bodyB h (l ++ [x]) = bodyB h l ++ frB x (sumL h l) := by
  induction l generalizing h with
  | nil => simp [bodyB, sumL]
  | cons y l ih =>
    show frB y h ++ bodyB (fromS h (encE y)) (l ++ [x]) = frB y h ++ bodyB (fromS h (encE y)) l ++ frB x (sumL (fromS h (encE y)) l)
    rw [ih, List.append_assoc]
theorem sumL_lt {h : Nat} (hh : h < 18446744073709551616) (l : List En) : sumL h l < 18446744073709551616 := by
  induction l generalizing h with
  | nil => exact hh
  | cons x l ih => exact ih (fromS_lt hh _)
/-- The bytes of a list. -/
def recB (l : List En) : List UInt8 := magic ++ bodyB (ofS magic) l
theorem frB_len {x : En} {h : Nat} (hx : x.fits) (hd : x.data.length ≤ 1536) : (frB x h).length ≤ 1632 := by
  have := encE_len hx (by omega : x.data.length ≤ 1099511627776)
  unfold frB
  simp only [List.length_append, le8_len]
  have e : ∀ n, (be4 n).length = 4 := fun _ => rfl
  rw [e, e]
  omega
theorem bodyB_len {h : Nat} {l : List En} (hx : ∀ x ∈ l, x.fits ∧ x.data.length ≤ 1536) : (bodyB h l).length ≤ 1632 * l.length := by
  induction l generalizing h with
  | nil => simp [bodyB]
  | cons x l ih =>
    have h1 := frB_len (h := h) (hx x (by simp)).1 (hx x (by simp)).2
    have h2 := ih (h := fromS h (encE x)) (fun y hy => hx y (by simp [hy]))
    show (frB x h ++ bodyB (fromS h (encE x)) l).length ≤ _
    rw [List.length_append, List.length_cons]
    omega
theorem vE_data {x : En} (h : vE x = true) : x.data.length ≤ 1536 := by
  unfold vE at h
  simp only [Bool.and_eq_true, decide_eq_true_eq] at h
  exact h.2.1

end Go.Proofs.Ytkcmdibpndkfbaa
