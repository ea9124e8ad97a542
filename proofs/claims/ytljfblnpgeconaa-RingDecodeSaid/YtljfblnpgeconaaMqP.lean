/-
  Messages as bytes, plain: the encoding, and what is read back. No program here.
-/
import Derived.Test.YtljfblnpgeconaaMsgO
import Derived.Test.YtljfblnpgeconaaWrN
import Derived.Test.YtljfblnpgeconaaWpP
namespace Go.Proofs.Ytljfblnpgeconaa

theorem decN_enc : ∀ (zs : List Int) (rest : List UInt8), (∀ z ∈ zs, -9223372036854775808 ≤ z ∧ z ≤ 9223372036854775807) → decN zs.length (encL zs ++ rest) = some (zs, (encL zs).length) := by
  intro zs
  induction zs with
  | nil => intro rest _; rfl
  | cons z zs ih =>
    intro rest h
    have hz := h z (by simp)
    have e : encL (z :: zs) = encI z ++ encL zs := by unfold encL; rw [List.flatMap_cons]
    rw [e, List.append_assoc, List.length_cons, decN, dec_enc z _ hz]
    dsimp only
    rw [List.drop_left, ih rest (fun y hy => h y (List.mem_cons_of_mem _ hy))]
    simp
theorem decN_some : ∀ (n : Nat) (l : List UInt8) (zs : List Int) (k : Nat), decN n l = some (zs, k) → zs.length = n ∧ (encL zs).length = k ∧ l = encL zs ++ l.drop k ∧ ∀ z ∈ zs, -9223372036854775808 ≤ z ∧ z ≤ 9223372036854775807 := by
  intro n
  induction n with
  | zero =>
    intro l zs k h
    simp only [decN, Option.some.injEq, Prod.mk.injEq] at h
    obtain ⟨rfl, rfl⟩ := h
    simp [encL]
  | succ n ih =>
    intro l zs k h
    unfold decN at h
    cases hd : dec l with
    | none => rw [hd] at h; cases h
    | some r =>
      obtain ⟨z, j⟩ := r
      rw [hd] at h
      dsimp only at h
      cases hr : decN n (l.drop j) with
      | none => rw [hr] at h; cases h
      | some r =>
        obtain ⟨ys, m⟩ := r
        rw [hr] at h
        simp only [Option.map_some, Option.some.injEq, Prod.mk.injEq] at h
        obtain ⟨rfl, rfl⟩ := h
        obtain ⟨h1, h2, h3, h4⟩ := ih _ _ _ hr
        obtain ⟨g1, g2, g3, g4⟩ := dec_some hd
        have e : encL (z :: ys) = encI z ++ encL ys := by unfold encL; rw [List.flatMap_cons]
        refine ⟨by rw [List.length_cons, h1], by rw [e, List.length_append, g1, h2], ?_, fun y hy => ?_⟩
        · rw [e, List.append_assoc, ← List.drop_drop, ← h3, ← g2]
        · rcases List.mem_cons.1 hy with rfl | hy
          · exact ⟨g3, g4⟩
          · exact h4 y hy
theorem decB_enc (most : Int) (x rest : List UInt8) (h : (x.length : Int) ≤ most) (hl : x.length ≤ 1099511627776) : decB most (encI x.length ++ (x ++ rest)) = some (x, (encI x.length ++ x).length) := by
  unfold decB
  rw [dec_enc _ _ (by omega)]
  dsimp only
  rw [if_pos ⟨by omega, h, by simp only [List.length_append]; omega⟩, List.drop_left, Int.toNat_natCast, List.take_left, List.length_append]
theorem decB_some {most : Int} {l x : List UInt8} {n : Nat} (h : decB most l = some (x, n)) : (encI x.length ++ x).length = n ∧ l = encI x.length ++ x ++ l.drop n ∧ (x.length : Int) ≤ most ∧ n ≤ l.length := by
  unfold decB at h
  split at h
  · rename_i z k hd
    have hk := dec_len hd
    obtain ⟨g1, g2, g3, g4⟩ := dec_some hd
    split at h
    · rename_i hz
      obtain ⟨m, rfl⟩ : ∃ m : Nat, z = m := ⟨z.toNat, by omega⟩
      injection h with h
      injection h with e1 e2
      rw [Int.toNat_natCast] at e1 e2
      have hx : x.length = m := by rw [← e1, List.length_take, List.length_drop]; omega
      rw [hx]
      refine ⟨by rw [List.length_append, g1, hx, e2], ?_, by omega, by omega⟩
      rw [← e2, ← List.drop_drop, ← e1, List.append_assoc, List.take_append_drop, ← g2]
    · cases h
  · cases h

/-- The message of eight numbers and its Data. -/
def mOf (zs : List Int) (d : List UInt8) : M := ⟨zs.getD 0 0, zs.getD 1 0, zs.getD 2 0, zs.getD 3 0, zs.getD 4 0, zs.getD 5 0, zs.getD 6 0, zs.getD 7 0, d⟩
def M.nums (m : M) : List Int := [m.src, m.dst, m.kind, m.seq, m.a0, m.a1, m.a2, m.a3]
theorem mOf_nums (m : M) : mOf m.nums m.data = m := rfl
theorem nums_mOf {zs : List Int} (d : List UInt8) (h : zs.length = 8) : (mOf zs d).nums = zs ∧ (mOf zs d).data = d := by
  match zs, h with
  | [a, b, c, e, f, g, i, j], _ => exact ⟨rfl, rfl⟩
theorem M.fits.nums {m : M} (h : m.fits) : ∀ z ∈ m.nums, -9223372036854775808 ≤ z ∧ z ≤ 9223372036854775807 := by
  obtain ⟨h1, h2, h3, h4, h5, h6, h7, h8⟩ := h
  unfold M.nums
  intro z hz
  simp only [List.mem_cons, List.not_mem_nil, or_false] at hz
  rcases hz with rfl | rfl | rfl | rfl | rfl | rfl | rfl | rfl <;> assumption
theorem M.fits.of_nums {m : M} (h : ∀ z ∈ m.nums, -9223372036854775808 ≤ z ∧ z ≤ 9223372036854775807) : m.fits := by
  unfold M.nums at h
  exact ⟨h _ (by simp), h _ (by simp), h _ (by simp), h _ (by simp), h _ (by simp), h _ (by simp), h _ (by simp), h _ (by simp)⟩

/-- The encoding of a message. -/
def encM (m : M) : List UInt8 := encL m.nums ++ (encI m.data.length ++ m.data)
/-- The message with which the bytes begin, and how many bytes it takes. -/
def decM (l : List UInt8) : Option (M × Nat) :=
  match decN 8 l with
  | some (zs, k) => match decB 1536 (l.drop k) with
    | some (d, j) => some (mOf zs d, k + j)
    | none => none
  | none => none

theorem encM_len {m : M} (h : m.fits) (hd : m.data.length ≤ 1099511627776) : (encM m).length ≤ m.data.length + 90 := by
  unfold encM
  rw [List.length_append, List.length_append]
  have h1 := encL_len h.nums
  have h2 := encI_len (m.data.length : Int) (zig_lt (by omega))
  have h3 : m.nums.length = 8 := rfl
  omega
theorem decM_enc {m : M} (h : m.fits) (hd : m.data.length ≤ 1536) (rest : List UInt8) : decM (encM m ++ rest) = some (m, (encM m).length) := by
  unfold decM encM
  have e : (8 : Nat) = m.nums.length := rfl
  rw [List.append_assoc, e, decN_enc _ _ h.nums]
  dsimp only
  rw [List.drop_left, List.append_assoc, decB_enc 1536 m.data rest (by omega) (by omega)]
  dsimp only
  rw [mOf_nums]
  simp only [List.length_append]
theorem decM_some {l : List UInt8} {m : M} {n : Nat} (h : decM l = some (m, n)) : (encM m).length = n ∧ l = encM m ++ l.drop n ∧ m.fits ∧ m.data.length ≤ 1536 ∧ n ≤ l.length := by
  unfold decM at h
  split at h
  · rename_i zs k hN
    split at h
    · rename_i d j hB
      injection h with h
      injection h with e1 e2
      obtain ⟨g1, g2, g3, g4⟩ := decN_some _ _ _ _ hN
      obtain ⟨b1, b2, b3, b4⟩ := decB_some hB
      obtain ⟨n1, n2⟩ := nums_mOf d g1
      rw [e1] at n1 n2
      have hk := decN_len _ _ _ _ hN
      rw [List.length_drop] at b4
      refine ⟨?_, ?_, M.fits.of_nums (by rw [n1]; exact g4), by rw [n2]; omega, by omega⟩
      · unfold encM
        rw [n1, n2, List.length_append, g2, b1, e2]
      · unfold encM
        rw [n1, n2, ← e2, ← List.drop_drop, List.append_assoc, ← b2, ← g3]
    · cases h
  · cases h
/-- Where a message's bytes are cut short, none is read. -/
theorem dec_take {l : List UInt8} {z : Int} {k n : Nat} (h : dec l = some (z, n)) (hk : n ≤ k) : dec (l.take k) = some (z, n) := by
  obtain ⟨g1, g2, g3, g4⟩ := dec_some h
  have e : l.take k = encI z ++ (l.take k).drop n := by
    have h1 : (l.take k).take n = encI z := by
      rw [List.take_take, Nat.min_eq_left hk]
      conv => lhs; rw [g2]
      rw [← g1, List.take_left]
    rw [← h1, List.take_append_drop]
  rw [e, dec_enc z _ ⟨g3, g4⟩, g1]

/-- What Msg reads, and where the reader stands then. -/
def rMsg (l : List UInt8) (pos : Nat) (f : Bool) : M × Nat × Bool :=
  if f = true then (zM, pos, true) else match decM (l.drop pos) with | some (m, n) => (m, pos + n, false) | none => (zM, pos, true)
theorem rMsg_pos {l : List UInt8} {pos : Nat} (f : Bool) (hp : pos ≤ l.length) : (rMsg l pos f).2.1 ≤ l.length := by
  unfold rMsg
  split
  · exact hp
  · split
    · rename_i hd
      have := (decM_some hd).2.2.2.2
      rw [List.length_drop] at this
      dsimp only
      omega
    · exact hp
theorem rMsg_data {l : List UInt8} {pos : Nat} (f : Bool) : (rMsg l pos f).1.data.length ≤ 1536 := by
  unfold rMsg
  split
  · simp [zM]
  · split
    · rename_i hd
      exact (decM_some hd).2.2.2.1
    · simp [zM]

end Go.Proofs.Ytljfblnpgeconaa
