/-
  What is read of a beginning of a record, and of one with one byte changed, plain.
  Conditions: the entries are valid.
-/
import Derived.Test.YtkcmdibpndkfbaaRcT
import Derived.Test.YtkcmdibpndkfbaaRcI
namespace Go.Proofs.Ytkcmdibpndkfbaa

/-- The bytes of the first entries' frames. -/
def endB (h : Nat) (l : List En) (n : Nat) : Nat := (bodyB h (l.take n)).length
theorem endB_zero (h : Nat) (l : List En) : endB h l 0 = 0 := rfl
theorem endB_cons (h : Nat) (x : En) (l : List En) (n : Nat) : endB h (x :: l) (n + 1) = (frB x h).length + endB (fromS h (encE x)) l n := by
  unfold endB
  rw [List.take_succ_cons]
  show (frB x h ++ bodyB (fromS h (encE x)) (l.take n)).length = _
  rw [List.length_append]
/-- Where the reading stops. -/
theorem readB_take {l : List En} (hv : ∀ x ∈ l, vE x = true ∧ x.fits) (h f k : Nat) (hf : k < f) (hk : k ≤ (bodyB h l).length) :
    ∃ n, n ≤ l.length ∧ endB h l n ≤ k ∧ (n < l.length → k < endB h l (n + 1)) ∧ readB f ((bodyB h l).take k) h = (l.take n, endB h l n, if endB h l n = k then 0 else 4) := by
  induction l generalizing h f k with
  | nil =>
    have h0 : k = 0 := by
      have e : (bodyB h []).length = 0 := rfl
      omega
    subst h0
    match f, hf with
    | f + 1, _ => exact ⟨0, Nat.le_refl _, Nat.le_refl _, fun h => by simp at h, rfl⟩
  | cons x l ih =>
    match f, hf with
    | f + 1, hf =>
      have h3 := frB_length x h
      have hbl : (bodyB h (x :: l)).length = (frB x h).length + (bodyB (fromS h (encE x)) l).length := by
        show (frB x h ++ bodyB (fromS h (encE x)) l).length = _
        rw [List.length_append]
      by_cases hlt : k < (frB x h).length
      · refine ⟨0, Nat.zero_le _, by rw [endB_zero]; exact Nat.zero_le _, fun _ => ?_, ?_⟩
        · rw [endB_cons, endB_zero]
          omega
        · have htk : (bodyB h (x :: l)).take k = (frB x h).take k := by
            show (frB x h ++ bodyB (fromS h (encE x)) l).take k = _
            rw [List.take_append_of_le_length (by omega)]
          have hkl : ((frB x h).take k).length = k := by rw [List.length_take]; omega
          rw [htk, endB_zero, List.take_zero]
          unfold readB
          rw [hkl]
          by_cases h0 : k = 0
          · rw [if_pos h0, if_pos h0.symm]
          · rw [if_neg h0, frameR_cut (hv x (by simp)).1 (hv x (by simp)).2 h k hlt]
            dsimp only
            rw [if_pos (by simp), if_neg (fun e => h0 e.symm)]
      · obtain ⟨n, hn, h4, h5, h6⟩ := ih (fun y hy => hv y (by simp [hy])) (fromS h (encE x)) f (k - (frB x h).length) (by omega) (by omega)
        refine ⟨n + 1, by simpa using hn, by rw [endB_cons]; omega, fun h7 => ?_, ?_⟩
        · rw [endB_cons]
          have := h5 (by simpa using h7)
          omega
        · have htk : (bodyB h (x :: l)).take k = frB x h ++ (bodyB (fromS h (encE x)) l).take (k - (frB x h).length) := by
            show (frB x h ++ bodyB (fromS h (encE x)) l).take k = _
            rw [List.take_append, List.take_of_length_le (by omega)]
          have h1 := frameR_frB (hv x (by simp)).1 (hv x (by simp)).2 h ((bodyB (fromS h (encE x)) l).take (k - (frB x h).length))
          rw [htk, endB_cons, List.take_succ_cons]
          unfold readB
          rw [if_neg (by rw [List.length_append, h3]; omega), h1]
          dsimp only
          rw [if_neg (by simp), List.drop_left' h3, h6, h3]
          have e : (endB (fromS h (encE x)) l n = k - (16 + (encE x).length)) ↔ (16 + (encE x).length + endB (fromS h (encE x)) l n = k) := by omega
          simp only [e]

theorem nB_four {a b c d : UInt8} {r : List UInt8} : nB (a :: b :: c :: d :: r) = ((a.toNat * 256 + b.toNat) * 256 + c.toNat) * 256 + d.toNat := by
  unfold nB
  simp
/-- Four bytes, one of them changed, are another number. -/
theorem nB_set {l r : List UInt8} {k : Nat} {b c : UInt8} (hl : l.length = 4) (hk : l[k]? = some b) (hb : b ≠ c) : nB (l.set k c ++ r) ≠ nB (l ++ r) := by
  match l, hl with
  | [x0, x1, x2, x3], _ =>
    have hb' : b.toNat ≠ c.toNat := fun e => hb (UInt8.toNat_inj.1 e)
    have h0 := x0.toNat_lt
    have h1 := x1.toNat_lt
    have h2 := x2.toNat_lt
    have h3 := x3.toNat_lt
    have hc := c.toNat_lt
    have hbl := b.toNat_lt
    match k, hk with
    | 0, hk => simp at hk; subst hk; simp only [List.set_cons_zero, List.cons_append, List.nil_append, nB_four]; omega
    | 1, hk => simp at hk; subst hk; simp only [List.set_cons_zero, List.set_cons_succ, List.cons_append, List.nil_append, nB_four]; omega
    | 2, hk => simp at hk; subst hk; simp only [List.set_cons_zero, List.set_cons_succ, List.cons_append, List.nil_append, nB_four]; omega
    | 3, hk => simp at hk; subst hk; simp only [List.set_cons_zero, List.set_cons_succ, List.cons_append, List.nil_append, nB_four]; omega
    | n + 4, hk => simp at hk
theorem set_ne {l : List UInt8} {k : Nat} {b c : UInt8} (hk : l[k]? = some b) (hb : b ≠ c) : l.set k c ≠ l := fun e => by
  have h1 : (l.set k c)[k]? = some b := by rw [e]; exact hk
  have h2 : k < l.length := (List.getElem?_eq_some_iff.1 hk).1
  rw [List.getElem?_set_self h2] at h1
  injection h1 with h1
  exact hb h1.symm
/-- A frame with one byte changed is none. -/
theorem frameR_set {x : En} (hv : vE x = true) (hf : x.fits) {h k : Nat} (hh : h < 18446744073709551616) {b c : UInt8} (hk : (frB x h)[k]? = some b) (hb : b ≠ c) (rest : List UInt8) : (frameR ((frB x h).set k c ++ rest) h).2.2.2 ≠ 0 := by
  have hd := vE_data hv
  have hel := encE_len hf (by omega : x.data.length ≤ 1099511627776)
  have hfl := frB_length x h
  have hkl : k < 16 + (encE x).length := by
    have := (List.getElem?_eq_some_iff.1 hk).1
    omega
  have hfs := fun (k : Nat) (b : UInt8) hk (hb : b ≠ c) => fromS_set (h := h) (l := encE x) (k := k) (b := b) (c := c) hh hk hb
  have hS1 := fun l : List UInt8 => fromS_lt hh l
  unfold frB at hk ⊢
  obtain ⟨E, hE⟩ : ∃ E, encE x = E := ⟨_, rfl⟩
  rw [hE] at hel hkl hfs hk ⊢
  obtain ⟨n, hn⟩ : ∃ n, E.length = n := ⟨_, rfl⟩
  rw [hn] at hel hkl hk ⊢
  obtain ⟨S, hS⟩ : ∃ S, fromS h E = S := ⟨_, rfl⟩
  rw [hS] at hfs hk ⊢
  have hSl : S < 18446744073709551616 := by rw [← hS]; exact hS1 E
  have l4 : ∀ n, (be4 n).length = 4 := fun _ => rfl
  have hassoc : be4 n ++ be4 (4294967295 - n) ++ E ++ le8 S = be4 n ++ (be4 (4294967295 - n) ++ (E ++ le8 S)) := by simp only [List.append_assoc]
  rw [hassoc] at hk ⊢
  have e1 : ∀ r, nB (be4 n ++ r) = n := fun r => nB_be4 n (by omega) _
  have e2 : ∀ r, nB (be4 (4294967295 - n) ++ r) = 4294967295 - n := fun r => nB_be4 _ (by omega) _
  by_cases k4 : k < 4
  · rw [List.getElem?_append_left (by rw [l4]; exact k4)] at hk
    rw [List.set_append_left _ _ (by rw [l4]; exact k4)]
    have h1 := nB_set (r := be4 (4294967295 - n) ++ (E ++ le8 S) ++ rest) (l4 n) hk hb
    rw [e1, ← List.append_assoc] at h1
    obtain ⟨G, hG⟩ : ∃ G, (be4 n).set k c = G := ⟨_, rfl⟩
    have hGl : G.length = 4 := by rw [← hG, List.length_set]; rfl
    rw [hG] at h1 ⊢
    unfold frameR
    have e3 : nB ((G ++ (be4 (4294967295 - n) ++ (E ++ le8 S)) ++ rest).drop 4) = 4294967295 - n := by
      rw [List.append_assoc, List.drop_left' hGl, List.append_assoc]
      exact e2 _
    rw [e3]
    split
    · simp
    · rw [if_pos (.inl (by omega))]
      simp
  · rw [List.getElem?_append_right (by rw [l4]; omega), l4] at hk
    rw [List.set_append_right _ _ (by rw [l4]; omega), l4]
    by_cases k8 : k - 4 < 4
    · rw [List.getElem?_append_left (by rw [l4]; exact k8)] at hk
      rw [List.set_append_left _ _ (by rw [l4]; exact k8)]
      have h1 := nB_set (r := E ++ le8 S ++ rest) (l4 _) hk hb
      rw [List.append_assoc, e2] at h1
      obtain ⟨G, hG⟩ : ∃ G, (be4 (4294967295 - n)).set (k - 4) c = G := ⟨_, rfl⟩
      rw [hG] at h1 ⊢
      unfold frameR
      rw [show be4 n ++ (G ++ (E ++ le8 S)) ++ rest = be4 n ++ (G ++ (E ++ (le8 S ++ rest))) by simp only [List.append_assoc], List.drop_left' (l4 n), e1]
      split
      · simp
      · rw [if_pos (.inl (by omega))]
        simp
    · rw [List.getElem?_append_right (by rw [l4]; omega), l4] at hk
      rw [List.set_append_right _ _ (by rw [l4]; omega), l4]
      by_cases kn : k - 4 - 4 < n
      · rw [List.getElem?_append_left (by omega)] at hk
        rw [List.set_append_left _ _ (by omega)]
        have h1 := hfs _ _ hk hb
        obtain ⟨G, hG⟩ : ∃ G, E.set (k - 4 - 4) c = G := ⟨_, rfl⟩
        have hGl : G.length = n := by rw [← hG, List.length_set, hn]
        rw [hG] at h1 ⊢
        have e8 : (be4 n ++ (be4 (4294967295 - n) ++ (G ++ le8 S)) ++ rest).drop 8 = G ++ (le8 S ++ rest) := by
          rw [show be4 n ++ (be4 (4294967295 - n) ++ (G ++ le8 S)) ++ rest = (be4 n ++ be4 (4294967295 - n)) ++ (G ++ (le8 S ++ rest)) by simp only [List.append_assoc], List.drop_left' (show (be4 n ++ be4 (4294967295 - n)).length = 8 from rfl)]
        have e9 : nB (be4 n ++ (be4 (4294967295 - n) ++ (G ++ le8 S)) ++ rest) = n := by rw [List.append_assoc]; exact e1 _
        have e10 : ((be4 n ++ (be4 (4294967295 - n) ++ (G ++ le8 S)) ++ rest).drop (8 + n)).take 8 = le8 S := by
          rw [← List.drop_drop, e8, List.drop_left' hGl, List.take_left' (le8_len S)]
        obtain ⟨L, hL⟩ : ∃ L, be4 n ++ (be4 (4294967295 - n) ++ (G ++ le8 S)) ++ rest = L := ⟨_, rfl⟩
        rw [hL] at e8 e9 e10 ⊢
        unfold frameR
        rw [e9, e10, e8, List.take_left' hGl]
        split
        · simp
        · split
          · simp
          · rw [if_pos (fun e => h1 (le8_inj (hS1 _) hSl e.symm))]
            simp
      · rw [List.getElem?_append_right (by omega), hn] at hk
        rw [List.set_append_right _ _ (by omega), hn]
        have h1 := set_ne hk hb
        obtain ⟨G, hG⟩ : ∃ G, (le8 S).set (k - 4 - 4 - n) c = G := ⟨_, rfl⟩
        have hGl : G.length = 8 := by rw [← hG, List.length_set]; exact le8_len S
        rw [hG] at h1 ⊢
        have e8 : (be4 n ++ (be4 (4294967295 - n) ++ (E ++ G)) ++ rest).drop 8 = E ++ (G ++ rest) := by
          rw [show be4 n ++ (be4 (4294967295 - n) ++ (E ++ G)) ++ rest = (be4 n ++ be4 (4294967295 - n)) ++ (E ++ (G ++ rest)) by simp only [List.append_assoc], List.drop_left' (show (be4 n ++ be4 (4294967295 - n)).length = 8 from rfl)]
        have e9 : nB (be4 n ++ (be4 (4294967295 - n) ++ (E ++ G)) ++ rest) = n := by rw [List.append_assoc]; exact e1 _
        have e10 : ((be4 n ++ (be4 (4294967295 - n) ++ (E ++ G)) ++ rest).drop (8 + n)).take 8 = G := by
          rw [← List.drop_drop, e8, List.drop_left' hn, List.take_left' hGl]
        obtain ⟨L, hL⟩ : ∃ L, be4 n ++ (be4 (4294967295 - n) ++ (E ++ G)) ++ rest = L := ⟨_, rfl⟩
        rw [hL] at e8 e9 e10 ⊢
        unfold frameR
        rw [e9, e10, e8, List.take_left' hn, hS, if_pos h1]
        split
        · simp
        · split <;> simp
/-- With one byte changed the entries ahead of it are read, with an error. -/
theorem readB_set {l : List En} (hv : ∀ x ∈ l, vE x = true ∧ x.fits) (h f k : Nat) (hh : h < 18446744073709551616) (hf : l.length < f) {b c : UInt8} (hk : (bodyB h l)[k]? = some b) (hb : b ≠ c) :
    ∃ n e, n < l.length ∧ endB h l n ≤ k ∧ k < endB h l (n + 1) ∧ e ≠ 0 ∧ readB f ((bodyB h l).set k c) h = (l.take n, endB h l n, e) := by
  induction l generalizing h f k with
  | nil => simp [bodyB] at hk
  | cons x l ih =>
    match f, hf with
    | f + 1, hf =>
      have h3 := frB_length x h
      have hbody : bodyB h (x :: l) = frB x h ++ bodyB (fromS h (encE x)) l := rfl
      rw [hbody] at hk ⊢
      by_cases hlt : k < (frB x h).length
      · rw [List.getElem?_append_left hlt] at hk
        rw [List.set_append_left _ _ hlt]
        have h4 := frameR_set (hv x (by simp)).1 (hv x (by simp)).2 hh hk hb (bodyB (fromS h (encE x)) l)
        refine ⟨0, _, by simp, by rw [endB_zero]; exact Nat.zero_le _, by rw [endB_cons, endB_zero]; omega, h4, ?_⟩
        rw [endB_zero, List.take_zero]
        unfold readB
        rw [if_neg (by rw [List.length_append, List.length_set, h3]; omega), if_pos h4]
      · rw [List.getElem?_append_right (by omega)] at hk
        rw [List.set_append_right _ _ (by omega)]
        obtain ⟨n, e, h4, h5, h6, h7, h8⟩ := ih (fun y hy => hv y (by simp [hy])) (fromS h (encE x)) f (k - (frB x h).length) (fromS_lt hh _) (by simpa using hf) hk
        refine ⟨n + 1, e, by simpa using h4, by rw [endB_cons]; omega, by rw [endB_cons]; omega, h7, ?_⟩
        have h1 := frameR_frB (hv x (by simp)).1 (hv x (by simp)).2 h ((bodyB (fromS h (encE x)) l).set (k - (frB x h).length) c)
        rw [endB_cons, List.take_succ_cons]
        unfold readB
        rw [if_neg (by rw [List.length_append, h3]; omega), h1]
        dsimp only
        rw [if_neg (by simp), List.drop_left' h3, h8, h3]

/-- Where the text and the frames end. -/
def endR (l : List En) (n : Nat) : Nat := 5 + endB (ofS magic) l n
theorem recB_len (l : List En) : (recB l).length = 5 + (bodyB (ofS magic) l).length := by
  unfold recB
  rw [List.length_append]
  rfl
theorem endR_last (l : List En) : endR l l.length = (recB l).length := by
  unfold endR endB
  rw [recB_len, List.take_length]
theorem endB_mono {h : Nat} {l : List En} {n m : Nat} (hm : m ≤ l.length) (h1 : n < m) : endB h l n < endB h l m := by
  induction l generalizing h n m with
  | nil => simp at hm; omega
  | cons x l ih =>
    match m, h1 with
    | m + 1, h1 =>
      have h3 := frB_length x h
      match n with
      | 0 => rw [endB_zero, endB_cons]; omega
      | n + 1 =>
        rw [endB_cons, endB_cons]
        have := ih (h := fromS h (encE x)) (n := n) (m := m) (by simpa using hm) (by omega)
        omega
theorem endR_mono {l : List En} {n m : Nat} (hm : m ≤ l.length) (h1 : n < m) : endR l n < endR l m := by
  have := endB_mono (h := ofS magic) hm h1
  unfold endR
  omega
theorem endR_next {l : List En} {n : Nat} {x : En} (hx : l[n]? = some x) : endR l (n + 1) = endR l n + 16 + (encE x).length := by
  obtain ⟨h1, h2⟩ := List.getElem?_eq_some_iff.1 hx
  unfold endR endB
  rw [List.take_succ_eq_append_getElem h1, h2, bodyB_snoc, List.length_append, frB_length]
  omega
theorem take_magic {l : List UInt8} {k : Nat} (h : k < 5) : ((magic ++ l).take k).take 5 ≠ magic := fun e => by
  have h1 := congrArg List.length e
  rw [List.length_take, List.length_take] at h1
  have : magic.length = 5 := rfl
  omega
/-- What is read of a record. -/
theorem readR_recB {l : List En} (hv : ∀ x ∈ l, vE x = true ∧ x.fits) : readR (recB l) = (l, (recB l).length, 0) := by
  have hl : l.length ≤ (bodyB (ofS magic) l).length := by
    have key : ∀ (l : List En) h, l.length ≤ (bodyB h l).length := by
      intro l
      induction l with
      | nil => intro h; exact Nat.zero_le _
      | cons x l ih =>
        intro h
        have h3 := frB_length x h
        have := ih (fromS h (encE x))
        show l.length + 1 ≤ (frB x h ++ bodyB (fromS h (encE x)) l).length
        rw [List.length_append]
        omega
    exact key l _
  have h1 := readB_body hv (ofS magic) (recB l).length (by rw [recB_len]; omega)
  have e1 : (recB l).take 5 = magic := List.take_left' rfl
  have e2 : (recB l).drop 5 = bodyB (ofS magic) l := List.drop_left' rfl
  unfold readR
  rw [if_pos e1, e2, h1, recB_len]
theorem recB_inj {l m : List En} (hl : ∀ x ∈ l, vE x = true ∧ x.fits) (hm : ∀ x ∈ m, vE x = true ∧ x.fits) (h : recB l = recB m) : l = m := by
  have h1 := readR_recB hl
  rw [h, readR_recB hm] at h1
  injection h1 with h1
  exact h1.symm
theorem readR_take {l : List En} (hv : ∀ x ∈ l, vE x = true ∧ x.fits) (k : Nat) (hk : k ≤ (recB l).length) :
    (k < 5 ∧ readR ((recB l).take k) = ([], 0, 4)) ∨
    ∃ n, n ≤ l.length ∧ endR l n ≤ k ∧ (n < l.length → k < endR l (n + 1)) ∧ readR ((recB l).take k) = (l.take n, endR l n, if endR l n = k then 0 else 4) := by
  by_cases h5 : k < 5
  · refine .inl ⟨h5, ?_⟩
    unfold readR
    rw [if_neg (show ¬ ((recB l).take k).take 5 = magic from take_magic h5)]
  · have h1 := recB_len l
    obtain ⟨n, hn, h2, h3, h4⟩ := readB_take hv (ofS magic) k (k - 5) (by omega) (by omega)
    refine .inr ⟨n, hn, by unfold endR; omega, fun h => by have := h3 h; unfold endR; omega, ?_⟩
    have e1 : ((recB l).take k).take 5 = magic := by
      rw [List.take_take, Nat.min_eq_left (by omega)]
      exact List.take_left' rfl
    have e2 : ((recB l).take k).drop 5 = (bodyB (ofS magic) l).take (k - 5) := by
      rw [List.drop_take]
      unfold recB
      rw [List.drop_left' (show magic.length = 5 from rfl)]
    have e3 : ((recB l).take k).length = k := by rw [List.length_take]; omega
    unfold readR
    rw [if_pos e1, e2, e3, h4]
    dsimp only
    unfold endR
    have e : (endB (ofS magic) l n = k - 5) ↔ (5 + endB (ofS magic) l n = k) := by omega
    simp only [e]
theorem readR_set {l : List En} (hv : ∀ x ∈ l, vE x = true ∧ x.fits) {k : Nat} {b c : UInt8} (hk : (recB l)[k]? = some b) (hb : b ≠ c) :
    (k < 5 ∧ readR ((recB l).set k c) = ([], 0, 4)) ∨
    ∃ n e, n < l.length ∧ endR l n ≤ k ∧ k < endR l (n + 1) ∧ e ≠ 0 ∧ readR ((recB l).set k c) = (l.take n, endR l n, e) := by
  by_cases h5 : k < 5
  · refine .inl ⟨h5, ?_⟩
    have h1 : magic[k]? = some b := by
      unfold recB at hk
      rwa [List.getElem?_append_left (show k < magic.length from h5)] at hk
    have e1 : (recB l).set k c = magic.set k c ++ bodyB (ofS magic) l := by
      unfold recB
      rw [List.set_append_left _ _ (show k < magic.length from h5)]
    unfold readR
    rw [e1, List.take_left' (by rw [List.length_set]; rfl), if_neg (set_ne h1 hb)]
  · have hkl := (List.getElem?_eq_some_iff.1 hk).1
    have h1 := recB_len l
    have hk2 : (bodyB (ofS magic) l)[k - 5]? = some b := by
      unfold recB at hk
      rwa [List.getElem?_append_right (show magic.length ≤ k by have : magic.length = 5 := rfl; omega)] at hk
    have hlen : l.length < (recB l).length := by
      have key : ∀ (l : List En) h, l.length ≤ (bodyB h l).length := by
        intro l
        induction l with
        | nil => intro h; exact Nat.zero_le _
        | cons x l ih =>
          intro h
          have h3 := frB_length x h
          have := ih (fromS h (encE x))
          show l.length + 1 ≤ (frB x h ++ bodyB (fromS h (encE x)) l).length
          rw [List.length_append]
          omega
      have := key l (ofS magic)
      omega
    obtain ⟨n, e, hn, h2, h3, h4, h6⟩ := readB_set hv (ofS magic) (recB l).length (k - 5) (ofS_lt magic) hlen hk2 hb
    refine .inr ⟨n, e, hn, by unfold endR; omega, by unfold endR; omega, h4, ?_⟩
    have e1 : (recB l).set k c = magic ++ (bodyB (ofS magic) l).set (k - 5) c := by
      unfold recB
      rw [List.set_append_right _ _ (show magic.length ≤ k by have : magic.length = 5 := rfl; omega)]
      rfl
    unfold readR
    rw [e1, List.take_left' (show magic.length = 5 from rfl), if_pos rfl, List.drop_left' (show magic.length = 5 from rfl)]
    rw [show (magic ++ (bodyB (ofS magic) l).set (k - 5) c).length = (recB l).length by rw [← e1, List.length_set], h6]
    rfl

end Go.Proofs.Ytkcmdibpndkfbaa
