/-
  No encoding is a proper beginning of another: integers, messages, lists of effects. No program here.
-/
import Derived.Test.YtbhgaaendekghaaEfF
namespace Go.Proofs.Ytbhgaaendekghaa

theorem encI_cut {n m : Int} {r s : List UInt8} (hn : J64 n) (hm : J64 m) (h : encI n ++ r = encI m ++ s) : n = m ∧ r = s := by
  have h1 := dec_enc n r hn
  have h2 := dec_enc m s hm
  rw [h, h2] at h1
  injection h1 with h1
  injection h1 with h1 _
  subst h1
  exact ⟨rfl, List.append_cancel_left h⟩
theorem encL_cut : ∀ {zs ws : List Int} {r s : List UInt8}, zs.length = ws.length → (∀ z ∈ zs, J64 z) → (∀ z ∈ ws, J64 z) → encL zs ++ r = encL ws ++ s → zs = ws ∧ r = s
  | [], [], r, s, _, _, _, h => ⟨rfl, h⟩
  | z :: zs, y :: ws, r, s, hl, hz, hw, h => by
    have e1 : encL (z :: zs) = encI z ++ encL zs := by unfold encL; rw [List.flatMap_cons]
    have e2 : encL (y :: ws) = encI y ++ encL ws := by unfold encL; rw [List.flatMap_cons]
    rw [e1, e2, List.append_assoc, List.append_assoc] at h
    obtain ⟨h1, h⟩ := encI_cut (hz z (by simp)) (hw y (by simp)) h
    obtain ⟨h2, h⟩ := encL_cut (by simpa using hl) (fun q hq => hz q (List.mem_cons_of_mem _ hq)) (fun q hq => hw q (List.mem_cons_of_mem _ hq)) h
    rw [h1, h2]
    exact ⟨rfl, h⟩
theorem encB_cut {x y r s : List UInt8} (hx : x.length ≤ 1099511627776) (hy : y.length ≤ 1099511627776) (h : encI x.length ++ (x ++ r) = encI y.length ++ (y ++ s)) : x = y ∧ r = s := by
  obtain ⟨h1, h⟩ := encI_cut (by unfold J64; omega) (by unfold J64; omega) h
  exact List.append_inj h (by omega)
theorem encM_cut {x y : M} {r s : List UInt8} (hx : x.fits) (hy : y.fits) (hdx : x.data.length ≤ 1099511627776) (hdy : y.data.length ≤ 1099511627776) (h : encM x ++ r = encM y ++ s) : x = y ∧ r = s := by
  unfold encM at h
  rw [List.append_assoc, List.append_assoc, List.append_assoc, List.append_assoc] at h
  obtain ⟨h1, h⟩ := encL_cut (zs := x.nums) (ws := y.nums) rfl hx.nums hy.nums h
  obtain ⟨h2, h⟩ := encB_cut hdx hdy h
  refine ⟨?_, h⟩
  rw [← mOf_nums x, ← mOf_nums y, h1, h2]
/-- Numbers and lengths of an effect that an encoding can take. -/
structure Ef.okay (x : Ef) : Prop where
  fits : x.fits
  msg : x.msg.data.length ≤ 1099511627776
  data : x.data.length ≤ 1099511627776
theorem encF_cut {x y : Ef} {r s : List UInt8} (hx : x.okay) (hy : y.okay) (h : encF x ++ r = encF y ++ s) : x = y ∧ r = s := by
  unfold encF at h
  simp only [List.append_assoc] at h
  obtain ⟨h1, h⟩ := encL_cut (zs := x.nums) (ws := y.nums) rfl hx.fits.nums hy.fits.nums h
  obtain ⟨h2, h⟩ := encM_cut hx.fits.msg hy.fits.msg hx.msg hy.msg h
  obtain ⟨h3, h⟩ := encB_cut hx.data hy.data h
  refine ⟨?_, h⟩
  rw [← fOf_nums x, ← fOf_nums y, h1, h2, h3]
theorem encFn_cut {r s : List UInt8} : ∀ (xs ys : List Ef), xs.length = ys.length → (∀ x ∈ xs, x.okay) → (∀ y ∈ ys, y.okay) → encFn xs ++ r = encFn ys ++ s → xs = ys ∧ r = s := by
  intro xs
  induction xs with
  | nil =>
    intro ys hl _ _ h
    cases ys with
    | nil => exact ⟨rfl, h⟩
    | cons y ys => simp at hl
  | cons x xs ih =>
    intro ys hl hx hy h
    cases ys with
    | nil => simp at hl
    | cons y ys =>
      rw [encFn_cons, encFn_cons, List.append_assoc, List.append_assoc] at h
      obtain ⟨h1, h⟩ := encF_cut (hx x (by simp)) (hy y (by simp)) h
      obtain ⟨h2, h⟩ := ih ys (by simpa using hl) (fun q hq => hx q (List.mem_cons_of_mem _ hq)) (fun q hq => hy q (List.mem_cons_of_mem _ hq)) h
      rw [h1, h2]
      exact ⟨rfl, h⟩
theorem encFs_cut {xs ys : List Ef} {r s : List UInt8} (hlx : xs.length ≤ 1099511627776) (hly : ys.length ≤ 1099511627776) (hx : ∀ x ∈ xs, x.okay) (hy : ∀ y ∈ ys, y.okay) (h : encFs xs ++ r = encFs ys ++ s) : xs = ys ∧ r = s := by
  unfold encFs at h
  rw [List.append_assoc, List.append_assoc] at h
  obtain ⟨h1, h⟩ := encI_cut (by unfold J64; omega) (by unfold J64; omega) h
  exact encFn_cut xs ys (by omega) hx hy h

theorem take_eq {l e : List UInt8} {k n : Nat} (h : l.take k = e ++ (l.take k).drop n) (hn : n = (l.take k).length) : l = e ++ l.drop k := by
  rw [hn, List.drop_length, List.append_nil] at h
  rw [← h, List.take_append_drop]
/-- A proper beginning of the encoding of an integer is none of an integer. -/
theorem dec_beginning {z : Int} (hz : J64 z) {k : Nat} (hk : k < (encI z).length) : dec ((encI z).take k) = none := by
  cases hd : dec ((encI z).take k) with
  | none => rfl
  | some q =>
    obtain ⟨y, n⟩ := q
    exfalso
    obtain ⟨h1, h2, h3, h4⟩ := dec_some hd
    have h5 : encI z ++ [] = encI y ++ (((encI z).take k).drop n ++ (encI z).drop k) := by
      rw [← List.append_assoc, ← h2, List.take_append_drop, List.append_nil]
    obtain ⟨_, h6⟩ := encI_cut hz ⟨h3, h4⟩ h5
    have h7 := congrArg List.length h6
    simp only [List.length_append, List.length_drop, List.length_nil] at h7
    omega
/-- A proper beginning of the encoding of a message is none of a message. -/
theorem readMs_beginning {m : M} (hm : m.fits) (hd : m.data.length ≤ 1099511627776) {k : Nat} (hk : k < (encM m).length) : readMs ((encM m).take k) = (zM, 4) := by
  unfold readMs
  cases h : decM ((encM m).take k) with
  | none => rfl
  | some q =>
    obtain ⟨y, n⟩ := q
    dsimp only
    by_cases hn : n = ((encM m).take k).length
    · exfalso
      obtain ⟨h1, h2, h3, h4, h5⟩ := decM_some h
      have h6 := take_eq h2 hn
      rw [← List.append_nil (encM m)] at h6
      obtain ⟨_, h7⟩ := encM_cut hm h3 hd (by omega) (h6.trans (by rw [List.append_nil]))
      have h8 := congrArg List.length h7
      rw [List.length_drop, List.length_nil] at h8
      omega
    · rw [if_neg hn]
/-- A proper beginning of the encoding of a list of effects is none of such a list. -/
theorem readFs_beginning {xs : List Ef} (hl : xs.length ≤ 1099511627776) (hx : ∀ x ∈ xs, x.okay) {k : Nat} (hk : k < (encFs xs).length) : readFs ((encFs xs).take k) = ([], 4) := by
  unfold readFs
  cases h : decFs ((encFs xs).take k) with
  | none => rfl
  | some q =>
    obtain ⟨ys, n⟩ := q
    dsimp only
    by_cases hn : n = ((encFs xs).take k).length
    · exfalso
      obtain ⟨h1, h2, h3, h4, h5⟩ := decFs_some h
      have h6 := take_eq h2 hn
      rw [← List.append_nil (encFs xs)] at h6
      obtain ⟨_, h7⟩ := encFs_cut hl (by omega) hx (fun y hy => ⟨(h5 y hy).1, by have := (h5 y hy).2.1; omega, by have := (h5 y hy).2.2; omega⟩) (h6.trans (by rw [List.append_nil]))
      have h8 := congrArg List.length h7
      rw [List.length_drop, List.length_nil] at h8
      omega
    · rw [if_neg hn]
theorem encI_pos (z : Int) : 0 < (encI z).length := by
  unfold encI
  rw [encU]
  split <;> simp
theorem encM_pos (m : M) : 0 < (encM m).length := by
  have := encI_pos (m.data.length : Int)
  unfold encM
  simp only [List.length_append]
  omega
theorem encFs_pos (l : List Ef) : 0 < (encFs l).length := by
  have := encI_pos (l.length : Int)
  unfold encFs
  simp only [List.length_append]
  omega
theorem encFn_len : ∀ {l : List Ef}, (∀ x ∈ l, x.okay) → (encFn l).length ≤ sumD l + 160 * l.length
  | [], _ => by simp [encFn]
  | x :: l, h => by
    have h1 := encF_len (h x (by simp)).fits (h x (by simp)).msg (h x (by simp)).data
    have h2 := encFn_len (l := l) (fun y hy => h y (List.mem_cons_of_mem _ hy))
    rw [encFn_cons, List.length_append, List.length_cons]
    unfold sumD
    omega

end Go.Proofs.Ytbhgaaendekghaa
