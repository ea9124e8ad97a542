/-
  Plain laws of tables of slots: a handle is never given twice; a table is a map from its handles to values.
  No conditions: no program in sight.
-/
import Derived.Test.YtoicdaoappiglaaSlP
namespace Go.Proofs.Ytoicdaoappiglaa

def ixOf (l : Tbl) (h : Int) : Nat := (h % l.length).toNat
/-- Every handle that was given belongs to an older generation of its slot, or to the present one, which holds a value. -/
def Seen (l : Tbl) (seen : List Int) : Prop := ∀ h ∈ seen, 0 ≤ h ∧ (h / l.length < (at_ l (ixOf l h)).gen ∨ h / l.length = (at_ l (ixOf l h)).gen ∧ (at_ l (ixOf l h)).used = true)

theorem hdl_div {l : Tbl} {i : Nat} (hi : i < l.length) : hdl l i / l.length = (at_ l i).gen := by
  unfold hdl
  rw [Int.add_comm, Int.add_mul_ediv_right _ _ (by omega), Int.ediv_eq_zero_of_lt (by omega) (by omega)]; omega
theorem hdl_mod {l : Tbl} {i : Nat} (hi : i < l.length) : hdl l i % l.length = i := by
  unfold hdl
  rw [Int.add_comm, Int.add_mul_emod_self_right, Int.emod_eq_of_lt (by omega) (by omega)]
theorem hdl_ix {l : Tbl} {i : Nat} (hi : i < l.length) : ixOf l (hdl l i) = i := by
  unfold ixOf; rw [hdl_mod hi]; omega

theorem best_lt {l : Tbl} (h : ¬ best l < 0) : (best l).toNat < l.length ∧ (at_ l (best l).toNat).used = false ∧ (at_ l (best l).toNat).gen < 1000 := by
  have hb := bestTo_bd l l.length
  unfold best at h ⊢
  exact ⟨by omega, hb.2.2 (by omega)⟩

theorem Seen.new {l : Tbl} {seen : List Int} (hs : Seen l seen) (hb : ¬ best l < 0) : putH l ∉ seen := by
  intro hm
  have hl := best_lt hb
  have h := hs _ hm
  unfold putH at h
  rw [if_neg hb, hdl_ix hl.1, hdl_div hl.1] at h
  rcases h.2 with h1 | h1
  · omega
  · rw [hl.2.1] at h1; simp at h1

theorem Seen.of_at {l l' : Tbl} {seen : List Int} (hs : Seen l seen) (hl : l'.length = l.length)
    (h : ∀ i, (at_ l i).gen < (at_ l' i).gen ∨ (at_ l i).gen = (at_ l' i).gen ∧ ((at_ l i).used = true → (at_ l' i).used = true)) : Seen l' seen := by
  intro x hx
  have h1 := hs x hx
  have e : ixOf l' x = ixOf l x := by unfold ixOf; rw [hl]
  rw [e, hl]
  have h2 := h (ixOf l x)
  refine ⟨h1.1, ?_⟩
  rcases h1.2 with h3 | h3
  · left; omega
  · rcases h2 with h4 | h4
    · left; omega
    · right; exact ⟨by omega, h4.2 h3.2⟩

theorem Seen.put {l : Tbl} {seen : List Int} (hs : Seen l seen) (v : Int) : Seen (putT l v) seen := by
  refine hs.of_at (putT_length l v) fun i => ?_
  unfold putT
  split
  · exact .inr ⟨rfl, id⟩
  · rename_i hb
    have hl := best_lt hb
    rw [at_set _ _ _ _ hl.1]
    split
    · rename_i e; subst e; exact .inr ⟨rfl, fun _ => rfl⟩
    · exact .inr ⟨rfl, id⟩
theorem Seen.putOk {l : Tbl} {seen : List Int} (hs : Seen l seen) (hf : Fine l) (v : Int) (hb : ¬ best l < 0) : Seen (putT l v) (seen ++ [putH l]) := by
  intro x hx
  rw [List.mem_append] at hx
  rcases hx with hx | hx
  · exact hs.put v x hx
  · rw [List.mem_singleton] at hx
    subst hx
    have hl := best_lt hb
    have hbd := hdl_bd hf _ hl.1
    have e : ixOf (putT l v) (putH l) = (best l).toNat := by
      unfold ixOf; rw [putT_length]; unfold putH; rw [if_neg hb, hdl_mod hl.1]; omega
    rw [e, putT_length]
    unfold putH putT
    rw [if_neg hb, if_neg hb, hdl_div hl.1, at_set _ _ _ _ hl.1, if_pos rfl]
    exact ⟨by omega, .inr ⟨rfl, rfl⟩⟩
theorem Seen.setT {l : Tbl} {seen : List Int} (hs : Seen l seen) (hf : Fine l) (a v : Int) : Seen (setT l a v) seen := by
  refine hs.of_at (setT_length l a v) fun i => ?_
  unfold Proofs.Ytoicdaoappiglaa.setT
  split
  · rename_i j e
    rw [at_set _ _ _ _ (findT_lt hf.1 e).1]
    split
    · rename_i e; subst e; exact .inr ⟨rfl, id⟩
    · exact .inr ⟨rfl, id⟩
  · exact .inr ⟨rfl, id⟩
theorem Seen.dropT {l : Tbl} {seen : List Int} (hs : Seen l seen) (hf : Fine l) (a : Int) : Seen (dropT l a) seen := by
  refine hs.of_at (dropT_length l a) fun i => ?_
  unfold Proofs.Ytoicdaoappiglaa.dropT
  split
  · rename_i j e
    rw [at_set _ _ _ _ (findT_lt hf.1 e).1]
    split
    · rename_i e; subst e; exact .inl (by simp; omega)
    · exact .inr ⟨rfl, id⟩
  · exact .inr ⟨rfl, id⟩

theorem bestTo_first (l : Tbl) (k : Nat) (hk : k < l.length) (h0 : ∀ i, i < k → (at_ l i).used = true) (hu : (at_ l k).used = false) (hg : (at_ l k).gen < 1000)
    (h1 : ∀ j, k < j → j < l.length → (at_ l j).used = true ∨ (at_ l k).gen ≤ (at_ l j).gen) (m : Nat) (hm : m ≤ l.length) : bestTo l m = if m ≤ k then -1 else (k : Int) := by
  induction m with
  | zero => simp [bestTo]
  | succ m ih =>
    have ih := ih (by omega)
    unfold bestTo
    rw [ih]
    by_cases h2 : m ≤ k
    · rw [if_pos h2]
      by_cases h3 : m = k
      · subst h3
        rw [if_pos ⟨hu, hg, .inl (by omega)⟩, if_neg (by omega)]
      · rw [if_neg (fun h => by have := h0 m (by omega); rw [this] at h; simp at h), if_pos (by omega)]
    · rw [if_neg h2, if_neg (show ¬ m + 1 ≤ k by omega)]
      rw [if_neg]
      rintro ⟨h3, _, h4⟩
      rcases h4 with h4 | h4
      · omega
      · rw [Int.toNat_natCast] at h4
        rcases h1 m (by omega) (by omega) with h5 | h5
        · rw [h5] at h3; simp at h3
        · omega
theorem best_first (l : Tbl) (k : Nat) (hk : k < l.length) (h0 : ∀ i, i < k → (at_ l i).used = true) (hu : (at_ l k).used = false) (hg : (at_ l k).gen < 1000)
    (h1 : ∀ j, k < j → j < l.length → (at_ l j).used = true ∨ (at_ l k).gen ≤ (at_ l j).gen) : best l = k := by
  unfold best; rw [bestTo_first l k hk h0 hu hg h1 _ (Nat.le_refl _), if_neg (by omega)]
theorem bestTo_none (l : Tbl) (m : Nat) (hm : ∀ i, i < m → (at_ l i).used = true) : bestTo l m = -1 := by
  induction m with
  | zero => rfl
  | succ m ih =>
    unfold bestTo
    rw [ih (fun i hi => hm i (by omega)), if_neg (fun h => by have := hm m (by omega); rw [this] at h; simp at h)]
theorem best_none (l : Tbl) (h : ∀ i, i < l.length → (at_ l i).used = true) : best l = -1 := bestTo_none l _ h

theorem put_first {l : Tbl} {k : Nat} (v : Int) (hb : best l = k) : putT l v = l.set k ⟨(at_ l k).gen, v, true⟩ ∧ putH l = hdl l k ∧ putE l = 0 := by
  unfold putT putH putE
  rw [hb, if_neg (by omega), if_neg (by omega), if_neg (by omega), Int.toNat_natCast]
  exact ⟨rfl, rfl, rfl⟩
theorem put_none {l : Tbl} (v : Int) (hb : best l = -1) : putT l v = l ∧ putH l = 0 ∧ putE l = 13 := by
  unfold putT putH putE
  rw [hb, if_pos (by omega), if_pos (by omega), if_pos (by omega)]
  exact ⟨rfl, rfl, rfl⟩

/-- The handle of a slot that holds a value is found. -/
theorem find_hdl {l : Tbl} (hf : Fine l) {i : Nat} (hi : i < l.length) (hu : (at_ l i).used = true) : findT l (hdl l i) = some i := by
  have hb := hdl_bd hf i hi
  unfold findT
  rw [hdl_mod hi, Int.toNat_natCast, if_pos ⟨by omega, hu, rfl⟩]

theorem hdlsTo_all (l : Tbl) (k : Nat) (h : ∀ i, i < k → (at_ l i).used = true) : (hdlsTo l k).length = k := by
  induction k with
  | zero => rfl
  | succ k ih =>
    unfold hdlsTo
    rw [if_pos (h k (by omega)), List.length_append, ih (fun i hi => h i (by omega))]; rfl

/-- The first k slots hold X, the others nothing. -/
structure Room (n : Nat) (X : Nat → Int) (k : Nat) (l : Tbl) : Prop where
  len : l.length = n
  ats : ∀ i, i < n → at_ l i = if i < k then ⟨0, X i, true⟩ else zSlot
theorem Room.new (n : Nat) (X : Nat → Int) : Room n X 0 (List.replicate n zSlot) := ⟨by simp, fun i hi => by
  unfold at_
  rw [List.getD_eq_getElem?_getD, List.getElem?_replicate]; simp [hi]⟩
theorem Room.put {n : Nat} {X : Nat → Int} {k : Nat} {l : Tbl} (h : Room n X k l) (hk : k < n) : Room n X (k + 1) (putT l (X k)) ∧ putH l = k ∧ putE l = 0 := by
  have hb : best l = k := by
    refine best_first l k (by rw [h.len]; omega) (fun i hi => ?_) ?_ ?_ (fun j hj hj2 => ?_)
    · rw [h.ats i (by omega), if_pos hi]
    · rw [h.ats k hk, if_neg (by omega)]; rfl
    · rw [h.ats k hk, if_neg (by omega)]; simp [zSlot]
    · rw [h.ats k hk, if_neg (by omega), h.ats j (by rw [h.len] at hj2; exact hj2), if_neg (by omega)]; right; omega
  have hp := put_first (X k) hb
  have hg : (at_ l k).gen = 0 := by rw [h.ats k hk, if_neg (by omega)]; rfl
  refine ⟨⟨by rw [putT_length, h.len], fun i hi => ?_⟩, ?_, hp.2.2⟩
  · rw [hp.1, at_set _ _ _ _ (by rw [h.len]; exact hk), hg]
    by_cases e : i = k
    · subst e; rw [if_pos rfl, if_pos (by omega)]
    · rw [if_neg e, h.ats i hi]
      by_cases e2 : i < k
      · rw [if_pos e2, if_pos (by omega)]
      · rw [if_neg e2, if_neg (by omega)]
  · rw [hp.2.1]; unfold hdl; rw [hg]; omega
theorem Room.full {n : Nat} {X : Nat → Int} {l : Tbl} (h : Room n X n l) (v : Int) : putT l v = l ∧ putE l = 13 := by
  have := put_none v (best_none l fun i hi => by rw [h.ats i (by rw [h.len] at hi; exact hi), if_pos (by rw [h.len] at hi; exact hi)])
  exact ⟨this.1, this.2.2⟩
theorem Room.get {n : Nat} {X : Nat → Int} {l : Tbl} (h : Room n X n l) (hf : Fine l) {i : Nat} (hi : i < n) : findT l i = some i := by
  have e : hdl l i = i := by unfold hdl; rw [h.ats i hi, if_pos hi]; simp
  have := find_hdl hf (i := i) (by rw [h.len]; exact hi) (by rw [h.ats i hi, if_pos hi])
  rwa [e] at this
/-- What is behind the drop of one slot and a further Put. -/
theorem Room.last {n : Nat} {X : Nat → Int} {l : Tbl} (h : Room n X n l) (hf : Fine l) (hn : n ≤ 60) {a : Nat} (ha : a < n) (v : Int) :
    isE l a = 0 ∧ putH (dropT l a) = n + a ∧ putE (dropT l a) = 0 ∧ getO (putT (dropT l a) v) (n + a) = true ∧ getV (putT (dropT l a) v) (n + a) = v ∧ getO (putT (dropT l a) v) a = false ∧ (hdls (putT (dropT l a) v)).length = n := by
  have hfi := h.get hf ha
  have hdr : dropT l a = l.set a ⟨1, 0, false⟩ := by
    unfold dropT; rw [hfi]; simp only; rw [h.ats a ha, if_pos ha]; rfl
  have hfd := hf.dropT a
  have hal : a < l.length := by rw [h.len]; exact ha
  have hat : ∀ i, i < n → at_ (dropT l a) i = if i = a then ⟨1, 0, false⟩ else ⟨0, X i, true⟩ := fun i hi => by
    rw [hdr, at_set _ _ _ _ hal]
    by_cases e : i = a
    · rw [if_pos e, if_pos e]
    · rw [if_neg e, if_neg e, h.ats i hi, if_pos hi]
  have hlen : (dropT l a).length = n := by rw [dropT_length, h.len]
  have hb : best (dropT l a) = a := by
    refine best_first _ a (by omega) (fun i hi => ?_) ?_ ?_ (fun j hj hj2 => ?_)
    · rw [hat i (by omega), if_neg (by omega)]
    · rw [hat a ha, if_pos rfl]
    · rw [hat a ha, if_pos rfl]; simp
    · rw [hat j (by omega), if_neg (by omega)]; left; rfl
  have hp := put_first v hb
  have hfp := hfd.put v
  have hat2 : ∀ i, i < n → at_ (putT (dropT l a) v) i = if i = a then ⟨1, v, true⟩ else ⟨0, X i, true⟩ := fun i hi => by
    rw [hp.1, at_set _ _ _ _ (by omega)]
    by_cases e : i = a
    · rw [if_pos e, if_pos e, hat a ha, if_pos rfl]
    · rw [if_neg e, if_neg e, hat i hi, if_neg e]
  have hlen2 : (putT (dropT l a) v).length = n := by rw [putT_length, hlen]
  have hh : hdl (putT (dropT l a) v) a = n + a := by unfold hdl; rw [hat2 a ha, if_pos rfl, hlen2]; simp
  have hff := find_hdl hfp (i := a) (by omega) (by rw [hat2 a ha, if_pos rfl])
  rw [hh] at hff
  have hnf : findT (putT (dropT l a) v) a = none := by
    unfold findT
    rw [hlen2, Int.emod_eq_of_lt (by omega) (by omega), Int.toNat_natCast, hh, if_neg (by omega)]
  refine ⟨?_, ?_, hp.2.2, ?_, ?_, ?_, ?_⟩
  · unfold isE; rw [hfi]; rfl
  · rw [hp.2.1]; unfold hdl; rw [hat a ha, if_pos rfl, hlen]; simp
  · unfold getO; rw [hff]; rfl
  · unfold getV; rw [hff]; simp only; rw [hat2 a ha, if_pos rfl]
  · unfold getO; rw [hnf]; rfl
  · unfold hdls
    rw [hlen2]
    refine hdlsTo_all _ _ fun i hi => ?_
    rw [hat2 i hi]
    split <;> rfl

end Go.Proofs.Ytoicdaoappiglaa
