/-
  The walk of wire's effect: an effect is read from a reader.
  Conditions: the reader stands within its bytes; they are at most 2 to the power 40.
-/
import Derived.Test.YtbhgaaendekghaaEfR1
import Derived.Test.YtbhgaaendekghaaEfR2
import Derived.Test.YtbhgaaendekghaaEfR3
import Derived.Test.YtbhgaaendekghaaEfR4
namespace Go.Proofs.Ytbhgaaendekghaa
open Go.RowKit

theorem rdeff_any (p : Nat) (A : Option Addr) (c : Nat) (l : List UInt8) (pos : Nat) (f : Bool) (w : World) (h : RR w p A c l pos f) (hp : pos ≤ l.length) (hl : l.length ≤ 1099511627776) (hc : c ≤ maxLen) :
    Calls Try.prog 78 #[.pointer (some ⟨p, 0, none⟩)] w (EffPost p A c l pos f w) := by
  cases hN : decN 5 (l.drop pos) with
  | none => exact rdeff1 p A c l pos f w h hp hl hc hN
  | some q =>
    obtain ⟨zs, k⟩ := q
    have one : ∀ zs' k', decN 5 (l.drop pos) = some (zs', k') → k' = k := fun zs' k' h => by
      rw [hN] at h
      injection h with h
      injection h with _ h
      exact h.symm
    cases hM : decM (l.drop (pos + k)) with
    | none => exact rdeff2 p A c l pos f w h hp hl hc ⟨by rw [hN]; simp, fun zs' k' h' => by rw [one _ _ h']; exact hM⟩
    | some q =>
      obtain ⟨m, n⟩ := q
      cases hB : decB 1536 (l.drop (pos + k + n)) with
      | none =>
        refine rdeff4 p A c l pos f w h hp hl hc ⟨by rw [hN]; simp, fun zs' k' h' => ?_⟩
        rw [one _ _ h', hM]
        refine ⟨by simp, fun m' n' h2 => ?_⟩
        injection h2 with h2
        injection h2 with _ h2
        rw [← h2]
        exact hB
      | some q =>
        refine rdeff3 p A c l pos f w h hp hl hc ⟨by rw [hN]; simp, fun zs' k' h' => ?_⟩
        rw [one _ _ h', hM]
        refine ⟨by simp, fun m' n' h2 => ?_⟩
        injection h2 with h2
        injection h2 with _ h2
        rw [← h2, hB]
        simp

end Go.Proofs.Ytbhgaaendekghaa
