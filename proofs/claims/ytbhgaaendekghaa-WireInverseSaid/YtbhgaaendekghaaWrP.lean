/-
  Reading integers, plain: the bytes with which a list begins as a number, and that only the encoding of a number is read as one.
  No conditions: plain lemmas.
-/
import Derived.Test.YtbhgaaendekghaaWire
namespace Go.Proofs.Ytbhgaaendekghaa

/-- The number with which the bytes begin, from its k-th byte on, and how many bytes it has. -/
def rdU (k : Nat) : List UInt8 → Option (Nat × Nat)
  | [] => none
  | c :: cs => if 10 ≤ k ∨ (k = 9 ∧ 1 < c.toNat) ∨ (0 < k ∧ c.toNat = 0) then none else if c.toNat < 128 then some (c.toNat, 1) else (rdU (k + 1) cs).map fun r => (c.toNat - 128 + 128 * r.1, r.2 + 1)
def zag (u : Nat) : Int := if u % 2 = 1 then -((u / 2 : Nat) : Int) - 1 else ((u / 2 : Nat) : Int)
/-- The integer with which the bytes begin, and how many bytes it has. -/
def dec (l : List UInt8) : Option (Int × Nat) := (rdU 0 l).map fun r => (zag r.1, r.2)

theorem byte_nat (k : Nat) (h : k < 256) : (UInt8.ofNat k).toNat = k := UInt8.toNat_ofNat_of_lt' (by simpa using h)

theorem pow128 (k : Nat) : 128 ^ (k + 1) = 128 ^ k * 128 := Nat.pow_succ 128 k
theorem pow_le {k : Nat} (h : k ≤ 9) : 128 ^ k ≤ 9223372036854775808 := by
  have : 128 ^ k ≤ 128 ^ 9 := Nat.pow_le_pow_right (by omega) h
  have h9 : (128 : Nat) ^ 9 = 9223372036854775808 := by decide
  omega

theorem rdU_enc (k : Nat) : ∀ (j v : Nat) (rest : List UInt8), k + j = 9 → (0 < j → True) → (0 < k → 0 < v) → v * 128 ^ k < 18446744073709551616 → rdU k (encU v ++ rest) = some (v, (encU v).length) := by
  intro j
  induction j generalizing k with
  | zero =>
    intro v rest hk _ h0 hv
    have hk9 : k = 9 := by omega
    subst hk9
    have h9 : (128 : Nat) ^ 9 = 9223372036854775808 := by decide
    rw [h9] at hv
    have h1 : v = 1 := by have := h0 (by omega); omega
    subst h1
    rw [encU_small (by omega)]
    rfl
  | succ j ih =>
    intro v rest hk _ h0 hv
    by_cases h : v < 128
    · rw [encU_small h, List.cons_append, List.nil_append]
      unfold rdU
      rw [byte_nat v (by omega), if_neg, if_pos h]
      · rfl
      · rintro (h1 | ⟨h1, h2⟩ | ⟨h1, h2⟩)
        · omega
        · omega
        · have := h0 h1; omega
    · rw [encU_big h, List.cons_append]
      unfold rdU
      rw [byte_nat _ (by omega), if_neg, if_neg (by omega), ih (k + 1) (v / 128) rest (by omega) (fun _ => trivial) (fun _ => by omega)]
      · simp only [Option.map_some, List.length_cons, Option.some.injEq, Prod.mk.injEq, and_true]
        omega
      · rw [pow128]
        have h2 : v / 128 * (128 ^ k * 128) = (v / 128 * 128) * 128 ^ k := by rw [Nat.mul_comm (128 ^ k) 128, Nat.mul_assoc]
        rw [h2]
        exact Nat.lt_of_le_of_lt (Nat.mul_le_mul_right _ (by omega)) hv
      · rintro (h1 | ⟨h1, h2⟩ | ⟨h1, h2⟩)
        · omega
        · omega
        · omega

theorem rdU_some : ∀ (l : List UInt8) (k v n : Nat), rdU k l = some (v, n) → (encU v).length = n ∧ l = encU v ++ l.drop n ∧ (0 < k → 0 < v) ∧ v * 128 ^ k < 18446744073709551616 := by
  intro l
  induction l with
  | nil => intro k v n h; simp [rdU] at h
  | cons c cs ih =>
    intro k v n h
    unfold rdU at h
    split at h
    · cases h
    · rename_i hb
      have hk : k ≤ 9 := by
        rcases Nat.lt_or_ge k 10 with h1 | h1
        · omega
        · exact absurd (.inl h1) hb
      split at h
      · rename_i h1
        injection h with h
        injection h with e1 e2
        subst e1 e2
        rw [encU_small h1]
        refine ⟨rfl, ?_, fun hk0 => ?_, ?_⟩
        · simp
        · rcases Nat.eq_zero_or_pos c.toNat with h2 | h2
          · exact absurd (.inr (.inr ⟨hk0, h2⟩)) hb
          · exact h2
        · by_cases h9 : k = 9
          · subst h9
            have h2 : ¬ 1 < c.toNat := fun h2 => hb (.inr (.inl ⟨rfl, h2⟩))
            have h9 : (128 : Nat) ^ 9 = 9223372036854775808 := by decide
            rw [h9]; omega
          · have h8 : 128 ^ k ≤ 128 ^ 8 := Nat.pow_le_pow_right (by omega) (by omega)
            have h9 : (128 : Nat) ^ 8 = 72057594037927936 := by decide
            have h3 : c.toNat * 128 ^ k ≤ 127 * 72057594037927936 := Nat.mul_le_mul (by omega) (by omega)
            omega
      · rename_i h1
        cases hr : rdU (k + 1) cs with
        | none => rw [hr] at h; simp at h
        | some r =>
          obtain ⟨v', n'⟩ := r
          rw [hr] at h
          simp only [Option.map_some, Option.some.injEq, Prod.mk.injEq] at h
          obtain ⟨e1, e2⟩ := h
          obtain ⟨b1, b2, b3, b4⟩ := ih _ _ _ hr
          have hc := c.toNat_lt
          have hv' := b3 (by omega)
          have hbig : ¬ v < 128 := by omega
          have hd : v / 128 = v' := by omega
          have hm : 128 + v % 128 = c.toNat := by omega
          have hcc : UInt8.ofNat c.toNat = c := by simp
          rw [encU_big hbig, hd, hm, hcc]
          refine ⟨by rw [List.length_cons, b1]; omega, ?_, fun _ => by omega, ?_⟩
          · rw [← e2, List.drop_succ_cons, List.cons_append, ← b2]
          · rw [pow128] at b4
            have h3 : v ≤ v' * 128 + 127 := by omega
            have hk8 : k ≤ 8 := by
              rcases Nat.lt_or_ge k 9 with h4 | h4
              · omega
              · have : k = 9 := by omega
                subst this
                exact absurd (.inr (.inl ⟨rfl, by omega⟩)) hb
            have h2 : v' * (128 ^ k * 128) = (v' * 128) * 128 ^ k := by rw [Nat.mul_comm (128 ^ k) 128, Nat.mul_assoc]
            rw [h2] at b4
            -- v' * 128 * 128^k < 2^64, a multiple of 128^(k+1): room for 127 more
            obtain ⟨q, hq⟩ : ∃ q, 18446744073709551616 = q * 128 ^ (k + 1) := by
              obtain ⟨r, hr9⟩ : ∃ r, k + 1 + r = 9 := ⟨9 - (k + 1), by omega⟩
              refine ⟨2 * 128 ^ r, ?_⟩
              rw [Nat.mul_assoc, ← Nat.pow_add, Nat.add_comm r (k + 1), hr9]
            rw [pow128, Nat.mul_comm (128 ^ k) 128, ← Nat.mul_assoc] at hq
            have hp : 0 < 128 ^ k := Nat.pos_of_ne_zero (by simp)
            have h5 : v' * 128 < q * 128 := by
              rw [hq] at b4
              exact Nat.lt_of_mul_lt_mul_right b4
            have h6 : v < q * 128 := by omega
            rw [hq]
            exact Nat.mul_lt_mul_of_pos_right h6 hp

theorem zag_zig (n : Int) : zag (zig n) = n := by
  unfold zag zig
  split <;> split <;> omega
theorem zig_zag (u : Nat) : zig (zag u) = u := by
  unfold zag zig
  split <;> split <;> omega
theorem zag_range {u : Nat} (h : u < 18446744073709551616) : -9223372036854775808 ≤ zag u ∧ zag u ≤ 9223372036854775807 := by
  unfold zag
  split <;> omega

/-- An encoding is read as its number, whatever follows. -/
theorem dec_enc (n : Int) (rest : List UInt8) (h : -9223372036854775808 ≤ n ∧ n ≤ 9223372036854775807) : dec (encI n ++ rest) = some (n, (encI n).length) := by
  unfold dec encI
  rw [rdU_enc 0 9 (zig n) rest rfl (fun _ => trivial) (fun h => absurd h (by omega)) (by have := zig_lt h; omega)]
  simp only [Option.map_some, zag_zig]
/-- Only an encoding is read. -/
theorem dec_some {l : List UInt8} {z : Int} {n : Nat} (h : dec l = some (z, n)) : (encI z).length = n ∧ l = encI z ++ l.drop n ∧ -9223372036854775808 ≤ z ∧ z ≤ 9223372036854775807 := by
  unfold dec at h
  cases hr : rdU 0 l with
  | none => rw [hr] at h; simp at h
  | some r =>
    obtain ⟨v, k⟩ := r
    rw [hr] at h
    simp only [Option.map_some, Option.some.injEq, Prod.mk.injEq] at h
    obtain ⟨e1, e2⟩ := h
    obtain ⟨b1, b2, _, b4⟩ := rdU_some _ _ _ _ hr
    have hz : zig z = v := by rw [← e1, zig_zag]
    unfold encI
    rw [hz, ← e2]
    exact ⟨b1, b2, by rw [← e1]; exact zag_range (by simpa using b4)⟩
theorem dec_len {l : List UInt8} {z : Int} {n : Nat} (h : dec l = some (z, n)) : n ≤ l.length ∧ 1 ≤ n ∧ n ≤ 10 := by
  obtain ⟨h1, h2, h3, h4⟩ := dec_some h
  have h5 := congrArg List.length h2
  rw [List.length_append, h1, List.length_drop] at h5
  have h6 := encI_len z (zig_lt ⟨h3, h4⟩)
  have h7 : 1 ≤ (encI z).length := by
    unfold encI
    rw [encU]
    split <;> simp
  omega

/-- The reading of one byte, at the k-th place. -/
theorem rdU_step {l : List UInt8} {k : Nat} {c : UInt8} {cs : List UInt8} (hl : l = c :: cs) : rdU k l = if 10 ≤ k ∨ (k = 9 ∧ 1 < c.toNat) ∨ (0 < k ∧ c.toNat = 0) then none else if c.toNat < 128 then some (c.toNat, 1) else (rdU (k + 1) cs).map fun r => (c.toNat - 128 + 128 * r.1, r.2 + 1) := by
  rw [hl]; rfl

/-- Behind k bytes, that gave u: the rest of the reading. -/
def Rest (l : List UInt8) (k u : Nat) : Prop := u < 128 ^ k ∧ rdU 0 l = (rdU k (l.drop k)).map fun r => (u + 128 ^ k * r.1, k + r.2)
theorem Rest.zero (l : List UInt8) : Rest l 0 0 := by
  refine ⟨by simp, ?_⟩
  rw [List.drop_zero]
  cases rdU 0 l <;> simp
theorem Rest.none_end {l : List UInt8} {k u : Nat} (h : Rest l k u) (he : l.length ≤ k) : dec l = none := by
  unfold dec
  rw [h.2, List.drop_of_length_le he]
  rfl
theorem Rest.none_bad {l : List UInt8} {k u : Nat} {c : UInt8} (h : Rest l k u) (hc : l[k]? = some c) (hb : 10 ≤ k ∨ (k = 9 ∧ 1 < c.toNat) ∨ (0 < k ∧ c.toNat = 0)) : dec l = none := by
  obtain ⟨hk, e⟩ := List.getElem?_eq_some_iff.1 hc
  unfold dec
  rw [h.2, rdU_step (List.drop_eq_getElem_cons hk), e, if_pos hb]
  rfl
theorem Rest.none_ten {l : List UInt8} {u : Nat} (h : Rest l 10 u) : dec l = none := by
  unfold dec
  rw [h.2]
  cases e : l.drop 10 with
  | nil => rfl
  | cons c cs => rw [rdU_step rfl, if_pos (.inl (Nat.le_refl _))]; rfl
theorem Rest.last {l : List UInt8} {k u : Nat} {c : UInt8} (h : Rest l k u) (hc : l[k]? = some c) (hb : ¬ (10 ≤ k ∨ (k = 9 ∧ 1 < c.toNat) ∨ (0 < k ∧ c.toNat = 0))) (h1 : c.toNat < 128) : dec l = some (zag (u + c.toNat * 128 ^ k), k + 1) := by
  obtain ⟨hk, e⟩ := List.getElem?_eq_some_iff.1 hc
  unfold dec
  rw [h.2, rdU_step (List.drop_eq_getElem_cons hk), e, if_neg hb, if_pos h1]
  simp only [Option.map_some]
  rw [Nat.mul_comm (128 ^ k)]
theorem Rest.more {l : List UInt8} {k u : Nat} {c : UInt8} (h : Rest l k u) (hc : l[k]? = some c) (hb : ¬ (10 ≤ k ∨ (k = 9 ∧ 1 < c.toNat) ∨ (0 < k ∧ c.toNat = 0))) (h1 : ¬ c.toNat < 128) : Rest l (k + 1) (u + c.toNat % 128 * 128 ^ k) := by
  obtain ⟨hk, e⟩ := List.getElem?_eq_some_iff.1 hc
  have h2 := c.toNat_lt
  have h3 := h.1
  have h4 : c.toNat - 128 = c.toNat % 128 := by omega
  refine ⟨?_, ?_⟩
  · have h5 : c.toNat % 128 * 128 ^ k ≤ 127 * 128 ^ k := Nat.mul_le_mul_right _ (by omega)
    rw [pow128]
    omega
  · rw [h.2, rdU_step (List.drop_eq_getElem_cons hk), e, if_neg hb, if_neg h1]
    cases rdU (k + 1) (l.drop (k + 1)) with
    | none => rfl
    | some r =>
      simp only [Option.map_some, Option.some.injEq, Prod.mk.injEq]
      refine ⟨?_, by omega⟩
      rw [h4, Nat.mul_add, ← Nat.mul_assoc (128 ^ k), ← pow128, Nat.mul_comm (128 ^ k) (c.toNat % 128)]
      omega

end Go.Proofs.Ytbhgaaendekghaa
