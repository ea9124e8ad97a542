/-
  What the reference reads: the value of the groups, and that it is the number that the program reads. No program here.
-/
import Derived.Test.YtbhgaaendekghaaWrP
namespace Go.Proofs.Ytbhgaaendekghaa

/-- The value of the groups of these bytes. -/
def pv : List UInt8 → Nat
  | [] => 0
  | c :: cs => c.toNat % 128 + 128 * pv cs
theorem pv_snoc (l : List UInt8) (c : UInt8) : pv (l ++ [c]) = pv l + c.toNat % 128 * 128 ^ l.length := by
  induction l with
  | nil => simp [pv]
  | cons x l ih =>
    rw [List.cons_append, pv, ih, pv, List.length_cons, Nat.pow_succ, Nat.mul_add, ← Nat.mul_assoc, Nat.mul_comm 128 (c.toNat % 128), Nat.mul_assoc, Nat.mul_comm 128 (128 ^ l.length)]
    omega
theorem pv_encU : ∀ (k v : Nat), v < 128 ^ (k + 1) → pv (encU v) = v := by
  intro k
  induction k with
  | zero =>
    intro v h
    have h : v < 128 := by simpa using h
    rw [encU_small h]
    unfold pv pv
    rw [byte_nat v (by omega)]
    omega
  | succ k ih =>
    intro v h
    by_cases h1 : v < 128
    · rw [encU_small h1]
      unfold pv pv
      rw [byte_nat v (by omega)]
      omega
    · rw [encU_big h1]
      unfold pv
      rw [ih (v / 128) (by rw [Nat.div_lt_iff_lt_mul (by omega)]; rw [Nat.pow_succ] at h; exact h), byte_nat _ (by omega)]
      omega
/-- All bytes but the last go on. -/
theorem encU_go : ∀ (k v : Nat), v < 128 ^ (k + 1) → ∀ (j : Nat) (c : UInt8), (encU v)[j]? = some c → (c.toNat < 128 ↔ j + 1 = (encU v).length) := by
  intro k
  induction k with
  | zero =>
    intro v h j c hc
    have h : v < 128 := by simpa using h
    rw [encU_small h] at hc ⊢
    match j, hc with
    | 0, hc =>
      simp only [List.getElem?_cons_zero, Option.some.injEq] at hc
      rw [← hc, byte_nat v (by omega)]
      simp; omega
    | j + 1, hc => simp at hc
  | succ k ih =>
    intro v h j c hc
    by_cases h1 : v < 128
    · rw [encU_small h1] at hc ⊢
      match j, hc with
      | 0, hc =>
        simp only [List.getElem?_cons_zero, Option.some.injEq] at hc
        rw [← hc, byte_nat v (by omega)]
        simp; omega
      | j + 1, hc => simp at hc
    · have hd : v / 128 < 128 ^ (k + 1) := by rw [Nat.div_lt_iff_lt_mul (by omega)]; rw [Nat.pow_succ] at h; exact h
      rw [encU_big h1] at hc ⊢
      match j, hc with
      | 0, hc =>
        simp only [List.getElem?_cons_zero, Option.some.injEq] at hc
        rw [← hc, byte_nat _ (by omega), List.length_cons]
        have hp : 1 ≤ (encU (v / 128)).length := by rw [encU]; split <;> simp
        omega
      | j + 1, hc =>
        have := ih _ hd j c (by simpa using hc)
        rw [List.length_cons, this]
        omega

theorem two64 : (18446744073709551616 : Nat) ≤ 128 ^ (9 + 1) := by decide

/-- Behind i bytes that all go on. -/
def Going (L : List UInt8) (i : Nat) : Prop := ∀ j c, j < i → L[j]? = some c → ¬ c.toNat < 128
theorem Going.zero (L : List UInt8) : Going L 0 := fun _ _ h => absurd h (Nat.not_lt_zero _)
theorem Going.more {L : List UInt8} {i : Nat} {c : UInt8} (h : Going L i) (hc : L[i]? = some c) (hn : ¬ c.toNat < 128) : Going L (i + 1) := fun j d hj hd => by
  rcases Nat.lt_or_ge j i with h1 | h1
  · exact h j d h1 hd
  · obtain rfl : j = i := by omega
    rw [hc] at hd
    injection hd with hd
    rw [← hd]
    exact hn
/-- Where a number is read, its bytes go on till the last. -/
theorem dec_going {L : List UInt8} {z : Int} {k i : Nat} {c : UInt8} (hd : dec L = some (z, k)) (hg : Going L i) (hc : L[i]? = some c) (hl : c.toNat < 128) : i + 1 = k ∧ pv (L.take k) = zig z ∧ zig z < 18446744073709551616 := by
  obtain ⟨h1, h2, h3, h4⟩ := dec_some hd
  have hz := zig_lt ⟨h3, h4⟩
  have hz2 : zig z < 128 ^ (9 + 1) := Nat.lt_of_lt_of_le hz two64
  have ht : L.take k = encI z := by
    rw [h2, List.take_append_of_le_length (by omega), ← h1, List.take_length]
  have hat : ∀ j, j < k → L[j]? = (encI z)[j]? := fun j hj => by rw [← ht, List.getElem?_take_of_lt hj]
  have hkl := dec_len hd
  have hik : i + 1 = k := by
    rcases Nat.lt_or_ge i k with h | h
    · have h5 : (encI z)[i]? = some c := by rw [← hat i h]; exact hc
      have := (encU_go 9 (zig z) hz2 i c h5).1 hl
      unfold encI at h1
      omega
    · -- the last byte of the number ends it, but all bytes ahead of i go on
      obtain ⟨d, hd'⟩ : ∃ d, L[k - 1]? = some d := ⟨_, List.getElem?_eq_getElem (by omega)⟩
      have h5 : (encI z)[k - 1]? = some d := by rw [← hat (k - 1) (by omega)]; exact hd'
      have h6 := (encU_go 9 (zig z) hz2 (k - 1) d h5).2 (by unfold encI at h1; omega)
      exact absurd h6 (hg (k - 1) d (by omega) hd')
  refine ⟨hik, ?_, hz⟩
  rw [ht]
  exact pv_encU 9 _ hz2
/-- No number: ten bytes, or all that there are, go on. -/
theorem dec_none_going {L : List UInt8} {i : Nat} (hg : Going L i) (hi : i = 10 ∨ L.length ≤ i) : dec L = none := by
  cases hd : dec L with
  | none => rfl
  | some r =>
    obtain ⟨z, k⟩ := r
    obtain ⟨h1, h2, h3, h4⟩ := dec_some hd
    have hz2 : zig z < 128 ^ (9 + 1) := Nat.lt_of_lt_of_le (zig_lt ⟨h3, h4⟩) two64
    have hkl := dec_len hd
    obtain ⟨d, hd'⟩ : ∃ d, L[k - 1]? = some d := ⟨_, List.getElem?_eq_getElem (by omega)⟩
    have h5 : (encI z)[k - 1]? = some d := by
      rw [h2, List.getElem?_append_left (by omega)] at hd'
      exact hd'
    have h6 := (encU_go 9 (zig z) hz2 (k - 1) d h5).2 (by unfold encI at h1; omega)
    exact absurd h6 (hg (k - 1) d (by rcases hi with hi | hi <;> omega) hd')
/-- Bytes that begin with an encoding are read as it. -/
theorem dec_of_begin {L : List UInt8} {z : Int} (hz : -9223372036854775808 ≤ z ∧ z ≤ 9223372036854775807) (h : (L.take (encI z).length == encI z) = true) : dec L = some (z, (encI z).length) := by
  have h1 : L = encI z ++ L.drop (encI z).length := by
    have := List.take_append_drop (encI z).length L
    rw [eq_of_beq h] at this
    exact this.symm
  rw [h1]
  exact dec_enc z _ hz

end Go.Proofs.Ytbhgaaendekghaa
