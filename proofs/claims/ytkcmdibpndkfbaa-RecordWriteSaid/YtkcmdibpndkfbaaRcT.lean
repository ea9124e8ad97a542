/-
  Frames, plain: what was written is read.
  Conditions: the entries are valid.
-/
import Derived.Test.YtkcmdibpndkfbaaRcR2
namespace Go.Proofs.Ytkcmdibpndkfbaa

theorem readE_enc {x : En} (hf : x.fits) (hd : x.data.length ≤ 1536) : readE (encE x) = (x, 0) := by
  have h1 := decE_enc hf hd []
  rw [List.append_nil] at h1
  unfold readE
  rw [h1]
  dsimp only
  rw [if_pos rfl]
theorem frameR_frB {x : En} (hv : vE x = true) (hf : x.fits) (h : Nat) (rest : List UInt8) : frameR (frB x h ++ rest) h = (x, fromS h (encE x), 16 + (encE x).length, 0) := by
  have hd := vE_data hv
  have hel := encE_len hf (by omega : x.data.length ≤ 1099511627776)
  have hre := readE_enc hf hd
  unfold frB
  obtain ⟨E, hE⟩ : ∃ E, encE x = E := ⟨_, rfl⟩
  rw [hE] at hel hre ⊢
  obtain ⟨n, hn⟩ : ∃ n, E.length = n := ⟨_, rfl⟩
  rw [hn] at hel ⊢
  obtain ⟨S, hS⟩ : ∃ S, fromS h E = S := ⟨_, rfl⟩
  rw [hS]
  have hl : be4 n ++ be4 (4294967295 - n) ++ E ++ le8 S ++ rest = be4 n ++ (be4 (4294967295 - n) ++ (E ++ (le8 S ++ rest))) := by simp only [List.append_assoc]
  have e1 : nB (be4 n ++ be4 (4294967295 - n) ++ E ++ le8 S ++ rest) = n := by rw [hl]; exact nB_be4 n (by omega) _
  have e2 : nB ((be4 n ++ be4 (4294967295 - n) ++ E ++ le8 S ++ rest).drop 4) = 4294967295 - n := by
    rw [hl, List.drop_left' (show (be4 n).length = 4 from rfl)]
    exact nB_be4 _ (by omega) _
  have e8 : (be4 n ++ be4 (4294967295 - n) ++ E ++ le8 S ++ rest).drop 8 = E ++ (le8 S ++ rest) := by
    rw [hl, ← List.append_assoc, List.drop_left' (show (be4 n ++ be4 (4294967295 - n)).length = 8 from rfl)]
  have e3 : ((be4 n ++ be4 (4294967295 - n) ++ E ++ le8 S ++ rest).drop 8).take n = E := by rw [e8, List.take_left' hn]
  have e4 : ((be4 n ++ be4 (4294967295 - n) ++ E ++ le8 S ++ rest).drop (8 + n)).take 8 = le8 S := by
    rw [← List.drop_drop, e8, List.drop_left' hn, List.take_left' (le8_len S)]
  have e5 : (be4 n ++ be4 (4294967295 - n) ++ E ++ le8 S ++ rest).length = 16 + n + rest.length := by
    simp only [List.length_append, le8_len, hn]
    have e : ∀ n, (be4 n).length = 4 := fun _ => rfl
    rw [e, e]
    omega
  obtain ⟨L, hL⟩ : ∃ L, be4 n ++ be4 (4294967295 - n) ++ E ++ le8 S ++ rest = L := ⟨_, rfl⟩
  rw [hL] at e1 e2 e3 e4 e5 ⊢
  unfold frameR
  rw [e1, e2, e3, e4, hS, hre, e5]
  rw [if_neg (by omega), if_neg (by omega), if_neg (by simp), if_neg (by simp [hv])]
theorem frB_length (x : En) (h : Nat) : (frB x h).length = 16 + (encE x).length := by
  unfold frB
  simp only [List.length_append, le8_len]
  have e : ∀ n, (be4 n).length = 4 := fun _ => rfl
  rw [e, e]
  omega
/-- The bytes of entries are read again. -/
theorem readB_body {l : List En} (hv : ∀ x ∈ l, vE x = true ∧ x.fits) (h f : Nat) (hf : l.length < f) : readB f (bodyB h l) h = (l, (bodyB h l).length, 0) := by
  induction l generalizing h f with
  | nil =>
    match f, hf with
    | f + 1, _ => rfl
  | cons x l ih =>
    match f, hf with
    | f + 1, hf =>
      have h1 := frameR_frB (hv x (by simp)).1 (hv x (by simp)).2 h (bodyB (fromS h (encE x)) l)
      have h2 := ih (fun y hy => hv y (by simp [hy])) (fromS h (encE x)) f (by simpa using hf)
      have h3 := frB_length x h
      show readB (f + 1) (frB x h ++ bodyB (fromS h (encE x)) l) h = (x :: l, (frB x h ++ bodyB (fromS h (encE x)) l).length, 0)
      unfold readB
      rw [if_neg (by rw [List.length_append, h3]; omega), h1]
      dsimp only
      rw [if_neg (by simp), List.drop_left' h3, h2, List.length_append, h3]
/-- A proper beginning of a frame is none. -/
theorem frameR_cut {x : En} (hv : vE x = true) (hf : x.fits) (h k : Nat) (hk : k < (frB x h).length) : frameR ((frB x h).take k) h = (zE, 0, 0, 4) := by
  have hd := vE_data hv
  have hel := encE_len hf (by omega : x.data.length ≤ 1099511627776)
  have hfl := frB_length x h
  have hkl : ((frB x h).take k).length = k := by rw [List.length_take]; omega
  unfold frameR
  rw [hkl]
  by_cases h8 : k < 8
  · rw [if_pos h8]
  · rw [if_neg h8]
    have hn : nB ((frB x h).take k) = (encE x).length := by
      unfold frB
      obtain ⟨n, hn⟩ : ∃ n, (encE x).length = n := ⟨_, rfl⟩
      rw [hn, List.append_assoc, List.append_assoc, List.take_append, List.take_of_length_le (by show 4 ≤ k; omega)]
      exact nB_be4 n (by omega) _
    rw [hn, if_pos (.inr (by omega))]

end Go.Proofs.Ytkcmdibpndkfbaa
