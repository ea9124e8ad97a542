/-
  Integers and byte strings as bytes, plain: what is encoded is read again, and only encodings are read. No program here.
-/
import Derived.Test.YtbhgaaendekghaaWrN
import Derived.Test.YtbhgaaendekghaaWpP
namespace Go.Proofs.Ytbhgaaendekghaa

theorem decN_enc : ∀ (zs : List Int) (rest : List UInt8), (∀ z ∈ zs, -9223372036854775808 ≤ z ∧ z ≤ 9223372036854775807) → decN zs.length (encL zs ++ rest) = some (zs, (encL zs).length) := by
  intro zs
  induction zs with
  | nil => intro rest _; rfl
  | cons z zs ih =>
    intro rest h
    have hz := h z (by simp)
    have e : encL (z :: zs) = encI z ++ encL zs := by unfold encL; rw [List.flatMap_cons]
    rw [e, List.append_assoc, List.length_cons, decN, dec_enc z _ hz]
    dsimp only
    rw [List.drop_left, ih rest (fun y hy => h y (List.mem_cons_of_mem _ hy))]
    simp
theorem decN_some : ∀ (n : Nat) (l : List UInt8) (zs : List Int) (k : Nat), decN n l = some (zs, k) → zs.length = n ∧ (encL zs).length = k ∧ l = encL zs ++ l.drop k ∧ ∀ z ∈ zs, -9223372036854775808 ≤ z ∧ z ≤ 9223372036854775807 := by
  intro n
  induction n with
  | zero =>
    intro l zs k h
    simp only [decN, Option.some.injEq, Prod.mk.injEq] at h
    obtain ⟨rfl, rfl⟩ := h
    simp [encL]
  | succ n ih =>
    intro l zs k h
    unfold decN at h
    cases hd : dec l with
    | none => rw [hd] at h; cases h
    | some r =>
      obtain ⟨z, j⟩ := r
      rw [hd] at h
      dsimp only at h
      cases hr : decN n (l.drop j) with
      | none => rw [hr] at h; cases h
      | some r =>
        obtain ⟨ys, m⟩ := r
        rw [hr] at h
        simp only [Option.map_some, Option.some.injEq, Prod.mk.injEq] at h
        obtain ⟨rfl, rfl⟩ := h
        obtain ⟨h1, h2, h3, h4⟩ := ih _ _ _ hr
        obtain ⟨g1, g2, g3, g4⟩ := dec_some hd
        have e : encL (z :: ys) = encI z ++ encL ys := by unfold encL; rw [List.flatMap_cons]
        refine ⟨by rw [List.length_cons, h1], by rw [e, List.length_append, g1, h2], ?_, fun y hy => ?_⟩
        · rw [e, List.append_assoc, ← List.drop_drop, ← h3, ← g2]
        · rcases List.mem_cons.1 hy with rfl | hy
          · exact ⟨g3, g4⟩
          · exact h4 y hy
theorem decB_enc (most : Int) (x rest : List UInt8) (h : (x.length : Int) ≤ most) (hl : x.length ≤ 1099511627776) : decB most (encI x.length ++ (x ++ rest)) = some (x, (encI x.length ++ x).length) := by
  unfold decB
  rw [dec_enc _ _ (by omega)]
  dsimp only
  rw [if_pos ⟨by omega, h, by simp only [List.length_append]; omega⟩, List.drop_left, Int.toNat_natCast, List.take_left, List.length_append]
theorem decB_some {most : Int} {l x : List UInt8} {n : Nat} (h : decB most l = some (x, n)) : (encI x.length ++ x).length = n ∧ l = encI x.length ++ x ++ l.drop n ∧ (x.length : Int) ≤ most ∧ n ≤ l.length := by
  unfold decB at h
  split at h
  · rename_i z k hd
    have hk := dec_len hd
    obtain ⟨g1, g2, g3, g4⟩ := dec_some hd
    split at h
    · rename_i hz
      obtain ⟨m, rfl⟩ : ∃ m : Nat, z = m := ⟨z.toNat, by omega⟩
      injection h with h
      injection h with e1 e2
      rw [Int.toNat_natCast] at e1 e2
      have hx : x.length = m := by rw [← e1, List.length_take, List.length_drop]; omega
      rw [hx]
      refine ⟨by rw [List.length_append, g1, hx, e2], ?_, by omega, by omega⟩
      rw [← e2, ← List.drop_drop, ← e1, List.append_assoc, List.take_append_drop, ← g2]
    · cases h
  · cases h

/-- Where bytes are cut behind a number, it is read all the same. -/
theorem dec_take {l : List UInt8} {z : Int} {k n : Nat} (h : dec l = some (z, n)) (hk : n ≤ k) : dec (l.take k) = some (z, n) := by
  obtain ⟨g1, g2, g3, g4⟩ := dec_some h
  have e : l.take k = encI z ++ (l.take k).drop n := by
    have h1 : (l.take k).take n = encI z := by
      rw [List.take_take, Nat.min_eq_left hk]
      conv => lhs; rw [g2]
      rw [← g1, List.take_left]
    rw [← h1, List.take_append_drop]
  rw [e, dec_enc z _ ⟨g3, g4⟩, g1]

end Go.Proofs.Ytbhgaaendekghaa
