/-
  Entries as bytes, plain: what is read back. No program here.
-/
import Derived.Test.YtbhgaaendekghaaWpE
import Derived.Test.YtbhgaaendekghaaWdP
namespace Go.Proofs.Ytbhgaaendekghaa

/-- The entry of seven numbers and its Data. -/
def eOf (zs : List Int) (d : List UInt8) : En := ⟨zs.getD 0 0, zs.getD 1 0, zs.getD 2 0, zs.getD 3 0, zs.getD 4 0, zs.getD 5 0, zs.getD 6 0, d⟩
def En.nums (x : En) : List Int := [x.kind, x.task, x.call, x.a0, x.a1, x.a2, x.result]
def zE : En := ⟨0, 0, 0, 0, 0, 0, 0, []⟩
theorem eOf_nums (x : En) : eOf x.nums x.data = x := rfl
theorem nums_eOf {zs : List Int} (d : List UInt8) (h : zs.length = 7) : (eOf zs d).nums = zs ∧ (eOf zs d).data = d := by
  match zs, h with
  | [a, b, c, e, f, g, i], _ => exact ⟨rfl, rfl⟩
theorem En.fits.nums {x : En} (h : x.fits) : ∀ z ∈ x.nums, -9223372036854775808 ≤ z ∧ z ≤ 9223372036854775807 := by
  obtain ⟨h1, h2, h3, h4, h5, h6, h7⟩ := h
  unfold En.nums
  intro z hz
  simp only [List.mem_cons, List.not_mem_nil, or_false] at hz
  rcases hz with rfl | rfl | rfl | rfl | rfl | rfl | rfl <;> assumption
theorem En.fits.of_nums {x : En} (h : ∀ z ∈ x.nums, -9223372036854775808 ≤ z ∧ z ≤ 9223372036854775807) : x.fits := by
  unfold En.nums at h
  exact ⟨h _ (by simp), h _ (by simp), h _ (by simp), h _ (by simp), h _ (by simp), h _ (by simp), h _ (by simp)⟩
theorem encE_eq (x : En) : encE x = encL x.nums ++ (encI x.data.length ++ x.data) := by
  unfold encE En.nums encL
  simp [List.append_assoc]

/-- The entry with which the bytes begin, and how many bytes it takes. -/
def decE (l : List UInt8) : Option (En × Nat) :=
  match decN 7 l with
  | some (zs, k) => match decB 1536 (l.drop k) with
    | some (d, j) => some (eOf zs d, k + j)
    | none => none
  | none => none
theorem decE_enc {x : En} (h : x.fits) (hd : x.data.length ≤ 1536) (rest : List UInt8) : decE (encE x ++ rest) = some (x, (encE x).length) := by
  rw [encE_eq]
  unfold decE
  have e : (7 : Nat) = x.nums.length := rfl
  rw [List.append_assoc, e, decN_enc _ _ h.nums]
  dsimp only
  rw [List.drop_left, List.append_assoc, decB_enc 1536 x.data rest (by omega) (by omega)]
  dsimp only
  rw [eOf_nums]
  simp only [List.length_append]
theorem decE_some {l : List UInt8} {x : En} {n : Nat} (h : decE l = some (x, n)) : (encE x).length = n ∧ l = encE x ++ l.drop n ∧ x.fits ∧ x.data.length ≤ 1536 ∧ n ≤ l.length := by
  rw [encE_eq]
  unfold decE at h
  split at h
  · rename_i zs k hN
    split at h
    · rename_i d j hB
      injection h with h
      injection h with e1 e2
      obtain ⟨g1, g2, g3, g4⟩ := decN_some _ _ _ _ hN
      obtain ⟨b1, b2, b3, b4⟩ := decB_some hB
      obtain ⟨n1, n2⟩ := nums_eOf d g1
      rw [e1] at n1 n2
      have hk := decN_len _ _ _ _ hN
      rw [List.length_drop] at b4
      refine ⟨?_, ?_, En.fits.of_nums (by rw [n1]; exact g4), by rw [n2]; omega, by omega⟩
      · rw [n1, n2, List.length_append, g2, b1, e2]
      · rw [n1, n2, ← e2, ← List.drop_drop, List.append_assoc, ← b2, ← g3]
    · cases h
  · cases h

/-- What Entry reads, and where the reader stands then. -/
def rEnt (l : List UInt8) (pos : Nat) (f : Bool) : En × Nat × Bool :=
  if f = true then (zE, pos, true) else match decE (l.drop pos) with | some (x, n) => (x, pos + n, false) | none => (zE, pos, true)
theorem rEnt_pos {l : List UInt8} {pos : Nat} (f : Bool) (hp : pos ≤ l.length) : (rEnt l pos f).2.1 ≤ l.length := by
  unfold rEnt
  split
  · exact hp
  · split
    · rename_i hd
      have := (decE_some hd).2.2.2.2
      rw [List.length_drop] at this
      dsimp only
      omega
    · exact hp

end Go.Proofs.Ytbhgaaendekghaa
