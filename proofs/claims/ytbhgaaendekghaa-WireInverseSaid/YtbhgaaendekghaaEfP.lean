/-
  Effects (api.Effect) as values of fifteen cells, and as bytes: the encoding, and what is read back. No program here.
-/
import Derived.Test.YtbhgaaendekghaaMqP
namespace Go.Proofs.Ytbhgaaendekghaa
open Go.RowKit

structure Ef where
  kind : Int
  a0 : Int
  a1 : Int
  a2 : Int
  a3 : Int
  msg : M
  data : List UInt8
def zF : Ef := ⟨0, 0, 0, 0, 0, zM, []⟩
/-- An effect, and where its Data and its message's Data lie. -/
structure FR where
  Am : Option Addr
  cm : Nat
  Ad : Option Addr
  cd : Nat
  x : Ef
def FR.cells (r : FR) : List Value :=
  [.int .i64 r.x.kind, .int .i64 r.x.a0, .int .i64 r.x.a1, .int .i64 r.x.a2, .int .i64 r.x.a3] ++ mcells r.Am r.cm r.x.msg ++ [.slice r.Ad r.x.data.length r.cd]
theorem FR.cells_len (r : FR) : r.cells.length = 15 := rfl
theorem FR.cells_one (r : FR) : ∀ u ∈ r.cells, u.oneCell' = true := by
  intro u hu
  simp only [FR.cells, mcells, List.cons_append, List.nil_append, List.mem_cons, List.not_mem_nil, or_false] at hu
  rcases hu with rfl | rfl | rfl | rfl | rfl | rfl | rfl | rfl | rfl | rfl | rfl | rfl | rfl | rfl | rfl <;> rfl
def Ef.nums (x : Ef) : List Int := [x.kind, x.a0, x.a1, x.a2, x.a3]
def J64 (n : Int) : Prop := -9223372036854775808 ≤ n ∧ n ≤ 9223372036854775807
/-- The numbers of an effect are of type int. -/
structure Ef.fits (x : Ef) : Prop where
  nums : ∀ z ∈ x.nums, -9223372036854775808 ≤ z ∧ z ≤ 9223372036854775807
  msg : x.msg.fits
def fOf (zs : List Int) (m : M) (d : List UInt8) : Ef := ⟨zs.getD 0 0, zs.getD 1 0, zs.getD 2 0, zs.getD 3 0, zs.getD 4 0, m, d⟩
theorem fOf_nums (x : Ef) : fOf x.nums x.msg x.data = x := rfl
theorem nums_fOf {zs : List Int} (m : M) (d : List UInt8) (h : zs.length = 5) : (fOf zs m d).nums = zs := by
  match zs, h with
  | [a, b, c, e, f], _ => rfl

/-- The encoding of an effect. -/
def encF (x : Ef) : List UInt8 := encL x.nums ++ (encM x.msg ++ (encI x.data.length ++ x.data))
def encFn (l : List Ef) : List UInt8 := l.flatMap encF
/-- The encoding of a list of effects. -/
def encFs (l : List Ef) : List UInt8 := encI l.length ++ encFn l
theorem encFn_cons (x : Ef) (l : List Ef) : encFn (x :: l) = encF x ++ encFn l := by unfold encFn; rw [List.flatMap_cons]
theorem encFn_snoc (l : List Ef) (x : Ef) : encFn (l ++ [x]) = encFn l ++ encF x := by unfold encFn; simp
theorem encF_len {x : Ef} (h : x.fits) (hm : x.msg.data.length ≤ 1099511627776) (hd : x.data.length ≤ 1099511627776) : (encF x).length ≤ x.msg.data.length + x.data.length + 160 := by
  unfold encF
  simp only [List.length_append]
  have h1 := encL_len h.nums
  have h2 := encM_len h.msg hm
  have h3 := encI_len (x.data.length : Int) (zig_lt (by omega))
  have h4 : x.nums.length = 5 := rfl
  omega
/-- The effect with which the bytes begin, and how many bytes it takes. -/
def decF (l : List UInt8) : Option (Ef × Nat) :=
  match decN 5 l with
  | some (zs, k) => match decM (l.drop k) with
    | some (m, j) => match decB 1536 (l.drop (k + j)) with
      | some (d, i) => some (fOf zs m d, k + j + i)
      | none => none
    | none => none
  | none => none
theorem decF_enc {x : Ef} (h : x.fits) (hm : x.msg.data.length ≤ 1536) (hd : x.data.length ≤ 1536) (rest : List UInt8) : decF (encF x ++ rest) = some (x, (encF x).length) := by
  unfold decF encF
  have e : (5 : Nat) = x.nums.length := rfl
  rw [List.append_assoc, e, decN_enc _ _ h.nums]
  dsimp only
  rw [List.drop_left, List.append_assoc (encM x.msg), decM_enc h.msg hm]
  dsimp only
  rw [← List.drop_drop, List.drop_left, List.drop_left, List.append_assoc, decB_enc 1536 x.data rest (by omega) (by omega)]
  dsimp only
  rw [fOf_nums]
  simp only [List.length_append, Nat.add_assoc]
theorem decF_some {l : List UInt8} {x : Ef} {n : Nat} (h : decF l = some (x, n)) : (encF x).length = n ∧ l = encF x ++ l.drop n ∧ x.fits ∧ x.msg.data.length ≤ 1536 ∧ x.data.length ≤ 1536 ∧ n ≤ l.length := by
  unfold decF at h
  split at h
  · rename_i zs k hN
    split at h
    · rename_i m j hM
      split at h
      · rename_i d i hB
        injection h with h
        injection h with e1 e2
        obtain ⟨g1, g2, g3, g4⟩ := decN_some _ _ _ _ hN
        obtain ⟨m1, m2, m3, m4, m5⟩ := decM_some hM
        obtain ⟨b1, b2, b3, b4⟩ := decB_some hB
        have n1 := nums_fOf m d g1
        have n2 : (fOf zs m d).msg = m := rfl
        have n3 : (fOf zs m d).data = d := rfl
        rw [e1] at n1 n2 n3
        have hk := decN_len _ _ _ _ hN
        rw [List.length_drop] at b4 m5
        refine ⟨?_, ?_, ⟨by rw [n1]; exact g4, by rw [n2]; exact m3⟩, by rw [n2]; exact m4, by rw [n3]; omega, by omega⟩
        · unfold encF
          rw [n1, n2, n3, List.length_append, List.length_append, g2, m1, b1, ← e2, Nat.add_assoc]
        · unfold encF
          rw [n1, n2, n3, ← e2, List.append_assoc, List.append_assoc, ← List.drop_drop, ← b2, ← List.drop_drop, ← m2, ← g3]
      · cases h
    · cases h
  · cases h
/-- n effects, one after the other, and how many bytes they take. -/
def decFn : Nat → List UInt8 → Option (List Ef × Nat)
  | 0, _ => some ([], 0)
  | n + 1, l => match decF l with
    | some (x, k) => (decFn n (l.drop k)).map fun r => (x :: r.1, k + r.2)
    | none => none
theorem decFn_enc : ∀ (xs : List Ef) (rest : List UInt8), (∀ x ∈ xs, x.fits ∧ x.msg.data.length ≤ 1536 ∧ x.data.length ≤ 1536) → decFn xs.length (encFn xs ++ rest) = some (xs, (encFn xs).length) := by
  intro xs
  induction xs with
  | nil => intro rest _; rfl
  | cons x xs ih =>
    intro rest h
    have hx := h x (by simp)
    rw [encFn_cons, List.append_assoc, List.length_cons, decFn, decF_enc hx.1 hx.2.1 hx.2.2]
    dsimp only
    rw [List.drop_left, ih rest (fun y hy => h y (List.mem_cons_of_mem _ hy))]
    simp
theorem decFn_some : ∀ (n : Nat) (l : List UInt8) (xs : List Ef) (k : Nat), decFn n l = some (xs, k) → xs.length = n ∧ (encFn xs).length = k ∧ l = encFn xs ++ l.drop k ∧ k ≤ l.length ∧ ∀ x ∈ xs, x.fits ∧ x.msg.data.length ≤ 1536 ∧ x.data.length ≤ 1536 := by
  intro n
  induction n with
  | zero =>
    intro l xs k h
    simp only [decFn, Option.some.injEq, Prod.mk.injEq] at h
    obtain ⟨rfl, rfl⟩ := h
    simp [encFn]
  | succ n ih =>
    intro l xs k h
    unfold decFn at h
    cases hd : decF l with
    | none => rw [hd] at h; cases h
    | some r =>
      obtain ⟨x, j⟩ := r
      rw [hd] at h
      dsimp only at h
      cases hr : decFn n (l.drop j) with
      | none => rw [hr] at h; cases h
      | some r =>
        obtain ⟨ys, m⟩ := r
        rw [hr] at h
        simp only [Option.map_some, Option.some.injEq, Prod.mk.injEq] at h
        obtain ⟨rfl, rfl⟩ := h
        obtain ⟨h1, h2, h3, h4, h5⟩ := ih _ _ _ hr
        obtain ⟨g1, g2, g3, g4, g5, g6⟩ := decF_some hd
        rw [List.length_drop] at h4
        refine ⟨by rw [List.length_cons, h1], by rw [encFn_cons, List.length_append, g1, h2], ?_, by omega, fun y hy => ?_⟩
        · rw [encFn_cons, List.append_assoc, ← List.drop_drop, ← h3, ← g2]
        · rcases List.mem_cons.1 hy with rfl | hy
          · exact ⟨g3, g4, g5⟩
          · exact h5 y hy
/-- The list of at most 160 effects with which the bytes begin, and how many bytes it takes. -/
def decFs (l : List UInt8) : Option (List Ef × Nat) :=
  match dec l with
  | some (z, k) => if 0 ≤ z ∧ z ≤ 160 then (decFn z.toNat (l.drop k)).map fun r => (r.1, k + r.2) else none
  | none => none
theorem decFs_enc {xs : List Ef} (hl : xs.length ≤ 160) (h : ∀ x ∈ xs, x.fits ∧ x.msg.data.length ≤ 1536 ∧ x.data.length ≤ 1536) (rest : List UInt8) : decFs (encFs xs ++ rest) = some (xs, (encFs xs).length) := by
  unfold decFs encFs
  rw [List.append_assoc, dec_enc _ _ (by omega)]
  dsimp only
  rw [if_pos ⟨by omega, by omega⟩, List.drop_left, Int.toNat_natCast, decFn_enc xs rest h]
  simp
theorem decFs_some {l : List UInt8} {xs : List Ef} {n : Nat} (h : decFs l = some (xs, n)) : (encFs xs).length = n ∧ l = encFs xs ++ l.drop n ∧ xs.length ≤ 160 ∧ n ≤ l.length ∧ ∀ x ∈ xs, x.fits ∧ x.msg.data.length ≤ 1536 ∧ x.data.length ≤ 1536 := by
  unfold decFs at h
  split at h
  · rename_i z k hd
    split at h
    · rename_i hz
      cases hr : decFn z.toNat (l.drop k) with
      | none => rw [hr] at h; cases h
      | some r =>
        obtain ⟨ys, m⟩ := r
        rw [hr] at h
        simp only [Option.map_some, Option.some.injEq, Prod.mk.injEq] at h
        obtain ⟨rfl, rfl⟩ := h
        obtain ⟨h1, h2, h3, h4, h5⟩ := decFn_some _ _ _ _ hr
        obtain ⟨g1, g2, g3, g4⟩ := dec_some hd
        rw [List.length_drop] at h4
        have e : (ys.length : Int) = z := by omega
        refine ⟨by unfold encFs; rw [e, List.length_append, g1, h2], ?_, by omega, by have := (dec_len hd).1; omega, h5⟩
        unfold encFs
        rw [e, List.append_assoc, ← List.drop_drop, ← h3, ← g2]
    · cases h
  · cases h
/-- What Effects reads, and where the reader stands then. -/
def rEfs (l : List UInt8) (pos : Nat) (f : Bool) : List Ef × Nat × Bool :=
  if f = true then ([], pos, true) else match decFs (l.drop pos) with | some (xs, n) => (xs, pos + n, false) | none => ([], pos, true)
theorem rEfs_pos {l : List UInt8} {pos : Nat} (f : Bool) (hp : pos ≤ l.length) : (rEfs l pos f).2.1 ≤ l.length := by
  unfold rEfs
  split
  · exact hp
  · split
    · rename_i hd
      have := (decFs_some hd).2.2.2.1
      rw [List.length_drop] at this
      dsimp only
      omega
    · exact hp
/-- What is read of all bytes. -/
def readFs (l : List UInt8) : List Ef × Int := match decFs l with | some (xs, n) => if n = l.length then (xs, 0) else ([], 4) | none => ([], 4)
def readMs (l : List UInt8) : M × Int := match decM l with | some (m, n) => if n = l.length then (m, 0) else (zM, 4) | none => (zM, 4)
theorem readFs_eq (l : List UInt8) : readFs l = if (rEfs l 0 false).2.2 = true ∨ (rEfs l 0 false).2.1 ≠ l.length then ([], 4) else ((rEfs l 0 false).1, 0) := by
  have e : rEfs l 0 false = match decFs l with | some (x, n) => (x, n, false) | none => ([], 0, true) := by
    unfold rEfs
    rw [if_neg (by simp), List.drop_zero]
    cases decFs l with
    | none => rfl
    | some q =>
      obtain ⟨x, n⟩ := q
      simp
  rw [e]
  unfold readFs
  cases decFs l with
  | none => simp
  | some q =>
    obtain ⟨x, n⟩ := q
    by_cases h : n = l.length
    · simp [h]
    · simp [h]
theorem readMs_eq (l : List UInt8) : readMs l = if (rMsg l 0 false).2.2 = true ∨ (rMsg l 0 false).2.1 ≠ l.length then (zM, 4) else ((rMsg l 0 false).1, 0) := by
  have e : rMsg l 0 false = match decM l with | some (x, n) => (x, n, false) | none => (zM, 0, true) := by
    unfold rMsg
    rw [if_neg (by simp), List.drop_zero]
    cases decM l with
    | none => rfl
    | some q =>
      obtain ⟨x, n⟩ := q
      simp
  rw [e]
  unfold readMs
  cases decM l with
  | none => simp
  | some q =>
    obtain ⟨x, n⟩ := q
    by_cases h : n = l.length
    · simp [h]
    · simp [h]

end Go.Proofs.Ytbhgaaendekghaa
