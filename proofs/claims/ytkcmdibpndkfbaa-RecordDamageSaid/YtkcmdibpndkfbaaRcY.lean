/-
  How many ends lie at or ahead of a place, plain.
  Conditions: the entries are valid.
-/
import Derived.Test.YtkcmdibpndkfbaaRcX
namespace Go.Proofs.Ytkcmdibpndkfbaa

theorem endR_pos (l : List En) (j : Nat) : 5 ≤ endR l j := by unfold endR; omega
theorem endR_count {l : List En} {k n : Nat} (h2 : endR l n ≤ k) (h3 : n < l.length → k < endR l (n + 1)) (j : Nat) (hj : j ≤ l.length) : endR l j ≤ k ↔ j < n + 1 := by
  constructor
  · intro h
    by_cases hjn : j < n + 1
    · exact hjn
    · exfalso
      have h4 := h3 (by omega)
      by_cases e : j = n + 1
      · subst e; omega
      · have := endR_mono (n := n + 1) (m := j) hj (by omega)
        omega
  · intro h
    by_cases e : j = n
    · subst e; exact h2
    · by_cases hn : n ≤ l.length
      · have := endR_mono (n := j) (m := n) hn (by omega)
        omega
      · -- beyond the list the ends stand still
        have e1 : endR l n = endR l l.length := by
          unfold endR endB
          rw [List.take_of_length_le (by omega), List.take_of_length_le (Nat.le_refl _)]
        by_cases e2 : j = l.length
        · subst e2; omega
        · have := endR_mono (n := j) (m := l.length) (Nat.le_refl _) (by omega)
          omega
theorem readR_scan {l : List En} (hv : ∀ x ∈ l, vE x = true ∧ x.fits) (k : Nat) (hk : k ≤ (recB l).length) :
    ∃ cnt, cnt ≤ l.length + 1 ∧ (∀ j, j ≤ l.length → (endR l j ≤ k ↔ j < cnt)) ∧
      ((cnt = 0 ∧ readR ((recB l).take k) = ([], 0, 4)) ∨ ∃ n, cnt = n + 1 ∧ readR ((recB l).take k) = (l.take n, endR l n, if endR l n = k then 0 else 4)) := by
  rcases readR_take hv k hk with ⟨h5, h⟩ | ⟨n, hn, h2, h3, h⟩
  · exact ⟨0, Nat.zero_le _, fun j _ => ⟨fun h => by have := endR_pos l j; omega, fun h => by omega⟩, .inl ⟨rfl, h⟩⟩
  · exact ⟨n + 1, by omega, fun j hj => endR_count h2 h3 j hj, .inr ⟨n, rfl, h⟩⟩
theorem readR_scan_set {l : List En} (hv : ∀ x ∈ l, vE x = true ∧ x.fits) {k : Nat} {b c : UInt8} (hk : (recB l)[k]? = some b) (hb : b ≠ c) :
    ∃ cnt, cnt ≤ l.length + 1 ∧ (∀ j, j ≤ l.length → (endR l j ≤ k ↔ j < cnt)) ∧
      ((cnt = 0 ∧ readR ((recB l).set k c) = ([], 0, 4)) ∨ ∃ n e, cnt = n + 1 ∧ e ≠ 0 ∧ readR ((recB l).set k c) = (l.take n, endR l n, e)) := by
  rcases readR_set hv hk hb with ⟨h5, h⟩ | ⟨n, e, hn, h2, h3, h4, h⟩
  · exact ⟨0, Nat.zero_le _, fun j _ => ⟨fun h => by have := endR_pos l j; omega, fun h => by omega⟩, .inl ⟨rfl, h⟩⟩
  · exact ⟨n + 1, by omega, fun j hj => endR_count h2 (fun _ => h3) j hj, .inr ⟨n, e, rfl, h4, h⟩⟩

end Go.Proofs.Ytkcmdibpndkfbaa
