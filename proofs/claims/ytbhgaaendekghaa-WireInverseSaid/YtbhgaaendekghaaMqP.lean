/-
  Messages as bytes, plain: the encoding, and what is read back. No program here.
-/
import Derived.Test.YtbhgaaendekghaaMsgO
import Derived.Test.YtbhgaaendekghaaWrN
import Derived.Test.YtbhgaaendekghaaWpP
import Derived.Test.YtbhgaaendekghaaWdP
namespace Go.Proofs.Ytbhgaaendekghaa

/-- The message of eight numbers and its Data. -/
def mOf (zs : List Int) (d : List UInt8) : M := ⟨zs.getD 0 0, zs.getD 1 0, zs.getD 2 0, zs.getD 3 0, zs.getD 4 0, zs.getD 5 0, zs.getD 6 0, zs.getD 7 0, d⟩
def M.nums (m : M) : List Int := [m.src, m.dst, m.kind, m.seq, m.a0, m.a1, m.a2, m.a3]
theorem mOf_nums (m : M) : mOf m.nums m.data = m := rfl
theorem nums_mOf {zs : List Int} (d : List UInt8) (h : zs.length = 8) : (mOf zs d).nums = zs ∧ (mOf zs d).data = d := by
  match zs, h with
  | [a, b, c, e, f, g, i, j], _ => exact ⟨rfl, rfl⟩
theorem M.fits.nums {m : M} (h : m.fits) : ∀ z ∈ m.nums, -9223372036854775808 ≤ z ∧ z ≤ 9223372036854775807 := by
  obtain ⟨h1, h2, h3, h4, h5, h6, h7, h8⟩ := h
  unfold M.nums
  intro z hz
  simp only [List.mem_cons, List.not_mem_nil, or_false] at hz
  rcases hz with rfl | rfl | rfl | rfl | rfl | rfl | rfl | rfl <;> assumption
theorem M.fits.of_nums {m : M} (h : ∀ z ∈ m.nums, -9223372036854775808 ≤ z ∧ z ≤ 9223372036854775807) : m.fits := by
  unfold M.nums at h
  exact ⟨h _ (by simp), h _ (by simp), h _ (by simp), h _ (by simp), h _ (by simp), h _ (by simp), h _ (by simp), h _ (by simp)⟩

/-- The encoding of a message. -/
def encM (m : M) : List UInt8 := encL m.nums ++ (encI m.data.length ++ m.data)
/-- The message with which the bytes begin, and how many bytes it takes. -/
def decM (l : List UInt8) : Option (M × Nat) :=
  match decN 8 l with
  | some (zs, k) => match decB 1536 (l.drop k) with
    | some (d, j) => some (mOf zs d, k + j)
    | none => none
  | none => none

theorem encM_len {m : M} (h : m.fits) (hd : m.data.length ≤ 1099511627776) : (encM m).length ≤ m.data.length + 90 := by
  unfold encM
  rw [List.length_append, List.length_append]
  have h1 := encL_len h.nums
  have h2 := encI_len (m.data.length : Int) (zig_lt (by omega))
  have h3 : m.nums.length = 8 := rfl
  omega
theorem decM_enc {m : M} (h : m.fits) (hd : m.data.length ≤ 1536) (rest : List UInt8) : decM (encM m ++ rest) = some (m, (encM m).length) := by
  unfold decM encM
  have e : (8 : Nat) = m.nums.length := rfl
  rw [List.append_assoc, e, decN_enc _ _ h.nums]
  dsimp only
  rw [List.drop_left, List.append_assoc, decB_enc 1536 m.data rest (by omega) (by omega)]
  dsimp only
  rw [mOf_nums]
  simp only [List.length_append]
theorem decM_some {l : List UInt8} {m : M} {n : Nat} (h : decM l = some (m, n)) : (encM m).length = n ∧ l = encM m ++ l.drop n ∧ m.fits ∧ m.data.length ≤ 1536 ∧ n ≤ l.length := by
  unfold decM at h
  split at h
  · rename_i zs k hN
    split at h
    · rename_i d j hB
      injection h with h
      injection h with e1 e2
      obtain ⟨g1, g2, g3, g4⟩ := decN_some _ _ _ _ hN
      obtain ⟨b1, b2, b3, b4⟩ := decB_some hB
      obtain ⟨n1, n2⟩ := nums_mOf d g1
      rw [e1] at n1 n2
      have hk := decN_len _ _ _ _ hN
      rw [List.length_drop] at b4
      refine ⟨?_, ?_, M.fits.of_nums (by rw [n1]; exact g4), by rw [n2]; omega, by omega⟩
      · unfold encM
        rw [n1, n2, List.length_append, g2, b1, e2]
      · unfold encM
        rw [n1, n2, ← e2, ← List.drop_drop, List.append_assoc, ← b2, ← g3]
    · cases h
  · cases h
/-- What Msg reads, and where the reader stands then. -/
def rMsg (l : List UInt8) (pos : Nat) (f : Bool) : M × Nat × Bool :=
  if f = true then (zM, pos, true) else match decM (l.drop pos) with | some (m, n) => (m, pos + n, false) | none => (zM, pos, true)
theorem rMsg_pos {l : List UInt8} {pos : Nat} (f : Bool) (hp : pos ≤ l.length) : (rMsg l pos f).2.1 ≤ l.length := by
  unfold rMsg
  split
  · exact hp
  · split
    · rename_i hd
      have := (decM_some hd).2.2.2.2
      rw [List.length_drop] at this
      dsimp only
      omega
    · exact hp
theorem rMsg_data {l : List UInt8} {pos : Nat} (f : Bool) : (rMsg l pos f).1.data.length ≤ 1536 := by
  unfold rMsg
  split
  · simp [zM]
  · split
    · rename_i hd
      exact (decM_some hd).2.2.2.1
    · simp [zM]

end Go.Proofs.Ytbhgaaendekghaa
