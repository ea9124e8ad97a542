/-
  A table of slots is a map from its handles to values: the list of pairs that the law SlotsMap keeps follows Put, Set and Drop.
  No conditions: no program in sight.
-/
import Derived.Test.YtoicdaoappiglaaSlQ
namespace Go.Proofs.Ytoicdaoappiglaa

theorem hdl_set (l : Tbl) (i j : Nat) (s : Slot) (hi : i < l.length) : hdl (l.set i s) j = if j = i then s.gen * l.length + i else hdl l j := by
  unfold hdl
  rw [at_set _ _ _ _ hi, List.length_set]
  by_cases e : j = i
  · subst e; rw [if_pos rfl, if_pos rfl]
  · rw [if_neg e, if_neg e]
theorem findT_set (l : Tbl) (i : Nat) (s : Slot) (h : Int) (hi : i < l.length) :
    findT (l.set i s) h = if ixOf l h = i then (if 0 ≤ h ∧ s.used = true ∧ s.gen * l.length + i = h then some i else none) else findT l h := by
  unfold findT ixOf
  rw [hdl_set _ _ _ _ hi, at_set _ _ _ _ hi, List.length_set]
  by_cases e : (h % (l.length : Int)).toNat = i
  · rw [if_pos e, if_pos e, if_pos e, e]
  · rw [if_neg e, if_neg e, if_neg e]
theorem findT_ix {l : Tbl} {h : Int} {i : Nat} (e : findT l h = some i) : ixOf l h = i := by
  unfold findT at e
  split at e
  · injection e
  · cases e

theorem hdlsTo_count (l : Tbl) (k : Nat) (hk : k ≤ l.length) : (hdlsTo l k).length = (l.take k).countP (·.used) := by
  induction k with
  | zero => rfl
  | succ k ih =>
    have ht : l.take (k + 1) = l.take k ++ [at_ l k] := by
      have e : l[k]'(by omega) = at_ l k := by unfold at_; rw [List.getD_eq_getElem?_getD, List.getElem?_eq_getElem (by omega)]; rfl
      rw [List.take_succ_eq_append_getElem (by omega), e]
    unfold hdlsTo
    rw [ht, List.countP_append, ← ih (by omega)]
    split
    · rename_i h; rw [List.length_append, List.countP_cons]; simp [h]
    · rename_i h; rw [List.countP_cons]; simp [h]
theorem hdls_count (l : Tbl) : (hdls l).length = l.countP (·.used) := by unfold hdls; rw [hdlsTo_count l _ (Nat.le_refl _), List.take_length]
theorem hdls_set (l : Tbl) (i : Nat) (s : Slot) (hi : i < l.length) : (hdls (l.set i s)).length = (hdls l).length - (if (at_ l i).used then 1 else 0) + (if s.used then 1 else 0) := by
  have e : l[i] = at_ l i := by unfold at_; rw [List.getD_eq_getElem?_getD, List.getElem?_eq_getElem hi]; rfl
  rw [hdls_count, hdls_count, List.countP_set hi, e]
theorem hdls_pos (l : Tbl) (i : Nat) (hi : i < l.length) (hu : (at_ l i).used = true) : 0 < (hdls l).length := by
  rw [hdls_count, List.countP_pos_iff]
  have e : l[i] = at_ l i := by unfold at_; rw [List.getD_eq_getElem?_getD, List.getElem?_eq_getElem hi]; rfl
  exact ⟨at_ l i, by rw [← e]; exact List.getElem_mem _, hu⟩

/-- The list of pairs says what the table holds. -/
structure MapOf (l : Tbl) (m : List (Int × Int)) : Prop where
  nodup : (m.map (·.1)).Nodup
  keys : ∀ h, h ∈ m.map (·.1) ↔ (findT l h).isSome = true
  vals : ∀ x ∈ m, getV l x.1 = x.2
  len : m.length = (hdls l).length

theorem findT_new (n : Nat) (h : Int) : findT (List.replicate n zSlot) h = none := by
  unfold findT
  have e : at_ (List.replicate n zSlot) (h % ((List.replicate n zSlot).length : Int)).toNat = zSlot := by
    unfold at_; rw [List.getD_eq_getElem?_getD, List.getElem?_replicate]; split <;> rfl
  rw [e, if_neg (by simp [zSlot])]
theorem MapOf.new (n : Nat) : MapOf (List.replicate n zSlot) [] :=
  ⟨by simp, fun h => by rw [findT_new]; simp, fun x hx => absurd hx (by simp), by rw [hdls_count, List.countP_replicate]; simp [zSlot]⟩

theorem MapOf.put {l : Tbl} {m : List (Int × Int)} (hm : MapOf l m) (hf : Fine l) (v : Int) (hb : ¬ best l < 0) : MapOf (putT l v) (m ++ [(putH l, v)]) := by
  obtain ⟨hbl, hbu, hbg⟩ := best_lt hb
  have hbd := hdl_bd hf _ hbl
  have hp : putT l v = l.set (best l).toNat ⟨(at_ l (best l).toNat).gen, v, true⟩ := by unfold putT; rw [if_neg hb]
  have hh : putH l = hdl l (best l).toNat := by unfold putH; rw [if_neg hb]
  have hix : ixOf l (putH l) = (best l).toNat := by rw [hh]; exact hdl_ix hbl
  have hold : ∀ h, ixOf l h = (best l).toNat → findT l h = none := fun h e => by
    unfold findT
    unfold ixOf at e
    rw [e, if_neg (by rw [hbu]; simp)]
  have hfind : ∀ h, findT (putT l v) h = if h = putH l then some (best l).toNat else findT l h := fun h => by
    rw [hp, findT_set _ _ _ _ hbl]
    by_cases e : h = putH l
    · subst e
      rw [if_pos hix, if_pos rfl, if_pos ⟨by omega, rfl, by rw [hh]; rfl⟩]
    · rw [if_neg e]
      split
      · rename_i e2
        rw [hold h e2, if_neg]
        rintro ⟨_, _, e3⟩
        exact e (by rw [hh]; unfold hdl; exact e3.symm)
      · rfl
  have hnk : putH l ∉ m.map (·.1) := fun h => by
    have := (hm.keys _).1 h
    rw [hold _ hix] at this
    cases this
  refine ⟨?_, fun h => ?_, fun x hx => ?_, ?_⟩
  · rw [List.map_append, List.nodup_append]
    refine ⟨hm.nodup, by simp, fun a ha b hb2 => ?_⟩
    simp at hb2
    subst hb2
    exact fun e => hnk (e ▸ ha)
  · rw [List.map_append, List.mem_append, hfind]
    by_cases e : h = putH l
    · rw [if_pos e]; simp [e]
    · rw [if_neg e, ← hm.keys]; simp [e]
  · rw [List.mem_append] at hx
    unfold getV
    rcases hx with hx | hx
    · have hne : x.1 ≠ putH l := fun e => hnk (e ▸ List.mem_map_of_mem hx)
      rw [hfind, if_neg hne]
      have hv := hm.vals x hx
      unfold getV at hv
      rcases hfx : findT l x.1 with _ | i
      · have := (hm.keys x.1).1 (List.mem_map_of_mem hx)
        rw [hfx] at this; cases this
      · rw [hfx] at hv
        simp only at hv ⊢
        have hib : i ≠ (best l).toNat := fun e => by
          have := hold x.1 (by rw [findT_ix hfx, e])
          rw [hfx] at this; cases this
        rw [hp, at_set _ _ _ _ hbl, if_neg hib]
        exact hv
    · simp at hx
      subst hx
      rw [hfind, if_pos rfl]
      simp only
      rw [hp, at_set _ _ _ _ hbl, if_pos rfl]
  · rw [hp, hdls_set _ _ _ hbl, hbu, List.length_append, hm.len]
    simp

theorem findT_setT (l : Tbl) (a v h : Int) (hf : Fine l) : findT (setT l a v) h = findT l h := by
  unfold setT
  split
  · rename_i i e
    have hl := findT_lt hf.1 e
    rw [findT_set _ _ _ _ hl.1]
    split
    · rename_i e2
      unfold findT
      unfold ixOf at e2
      rw [e2]
      rfl
    · rfl
  · rfl
theorem MapOf.set {l : Tbl} {m : List (Int × Int)} (hm : MapOf l m) (hf : Fine l) {h : Int} (v : Int) {a : Nat} {x : Int × Int} (ha : m[a]? = some x) (hx : x.1 = h) : MapOf (setT l h v) (m.set a (x.1, v)) := by
  subst hx
  have hal : a < m.length := (List.getElem?_eq_some_iff.1 ha).1
  have hmk : (m.set a (x.1, v)).map (·.1) = m.map (·.1) := by
    rw [List.map_set]
    apply List.ext_getElem?
    intro i
    rw [List.getElem?_set]
    split
    · rename_i e; subst e; have e2 : m[a] = x := (List.getElem?_eq_some_iff.1 ha).2; simp [hal, e2]
    · rfl
  have hs : (findT l x.1).isSome = true := (hm.keys x.1).1 (List.mem_map_of_mem (List.mem_of_getElem? ha))
  obtain ⟨i, hi⟩ := Option.isSome_iff_exists.1 hs
  have hil := findT_lt hf.1 hi
  have hst : setT l x.1 v = l.set i ⟨(at_ l i).gen, v, (at_ l i).used⟩ := by unfold setT; rw [hi]
  refine ⟨by rw [hmk]; exact hm.nodup, fun k => by rw [hmk, findT_setT _ _ _ _ hf]; exact hm.keys k, fun y hy => ?_, ?_⟩
  · obtain ⟨j, hj⟩ := List.getElem?_of_mem hy
    rw [List.getElem?_set] at hj
    unfold getV
    rw [findT_setT _ _ _ _ hf]
    by_cases e : a = j
    · subst e
      simp [hal] at hj
      subst hj
      simp only
      rw [hi]
      simp only
      rw [hst, at_set _ _ _ _ hil.1, if_pos rfl]
    · rw [if_neg e] at hj
      have hym : y ∈ m := List.mem_of_getElem? hj
      have hv := hm.vals y hym
      unfold getV at hv
      rcases hfy : findT l y.1 with _ | q
      · have := (hm.keys y.1).1 (List.mem_map_of_mem hym)
        rw [hfy] at this; cases this
      · rw [hfy] at hv
        simp only at hv ⊢
        have hqi : q ≠ i := fun e2 => by
          subst e2
          have h1 := findT_lt hf.1 hfy
          have hxy : x.1 = y.1 := by rw [← hil.2.2.2.2, ← h1.2.2.2.2]
          exact e ((List.getElem?_inj (by rw [List.length_map]; exact hal) hm.nodup).1 (by rw [List.getElem?_map, List.getElem?_map, ha, hj]; simp [hxy]))
        rw [hst, at_set _ _ _ _ hil.1, if_neg hqi]
        exact hv
  · rw [hst, hdls_set _ _ _ hil.1, List.length_set, hm.len]
    have := hdls_pos l i hil.1 hil.2.2.2.1
    simp [hil.2.2.2.1]
    omega
theorem MapOf.setNone {l : Tbl} {m : List (Int × Int)} (hm : MapOf l m) {h : Int} (v : Int) (hn : findT l h = none) : MapOf (setT l h v) m := by
  unfold setT; rw [hn]; exact hm

theorem findT_dropT (l : Tbl) (a h : Int) (hf : Fine l) : findT (dropT l a) h = if h = a then none else findT l h := by
  unfold dropT
  split
  · rename_i i e
    have hl := findT_lt hf.1 e
    have hix := findT_ix e
    rw [findT_set _ _ _ _ hl.1]
    by_cases e1 : h = a
    · subst e1
      rw [if_pos hix, if_pos rfl, if_neg (by simp)]
    · rw [if_neg e1]
      split
      · rename_i e2
        rw [if_neg (by simp)]
        unfold findT
        unfold ixOf at e2
        rw [e2, if_neg]
        rintro ⟨_, _, h3⟩
        exact e1 (by rw [← h3, hl.2.2.2.2])
      · rfl
  · rename_i e
    by_cases e1 : h = a
    · subst e1; rw [if_pos rfl, e]
    · rw [if_neg e1]
theorem MapOf.drop {l : Tbl} {m : List (Int × Int)} (hm : MapOf l m) (hf : Fine l) {h : Int} {a : Nat} {x : Int × Int} (ha : m[a]? = some x) (hx : x.1 = h) : MapOf (dropT l h) (m.take a ++ m.drop (a + 1)) := by
  subst hx
  have hal : a < m.length := (List.getElem?_eq_some_iff.1 ha).1
  have hspl : m = m.take a ++ x :: m.drop (a + 1) := by
    have e : m[a] = x := (List.getElem?_eq_some_iff.1 ha).2
    rw [← e, ← List.drop_eq_getElem_cons hal, List.take_append_drop]
  have hnd := hm.nodup
  rw [hspl, List.map_append, List.map_cons, List.nodup_append] at hnd
  obtain ⟨n1, n2, n3⟩ := hnd
  rw [List.nodup_cons] at n2
  have hnot : ∀ y ∈ m.take a ++ m.drop (a + 1), y.1 ≠ x.1 := fun y hy e => by
    rw [List.mem_append] at hy
    rcases hy with hy | hy
    · exact n3 y.1 (List.mem_map_of_mem hy) x.1 (by simp) e
    · exact n2.1 (e ▸ List.mem_map_of_mem hy)
  have hmem : ∀ y ∈ m.take a ++ m.drop (a + 1), y ∈ m := fun y hy => by
    rw [List.mem_append] at hy
    rcases hy with hy | hy
    · exact List.mem_of_mem_take hy
    · exact List.mem_of_mem_drop hy
  have hs : (findT l x.1).isSome = true := (hm.keys x.1).1 (List.mem_map_of_mem (List.mem_of_getElem? ha))
  obtain ⟨i, hi⟩ := Option.isSome_iff_exists.1 hs
  have hil := findT_lt hf.1 hi
  have hst : dropT l x.1 = l.set i ⟨(at_ l i).gen + 1, 0, false⟩ := by unfold dropT; rw [hi]
  refine ⟨?_, fun k => ?_, fun y hy => ?_, ?_⟩
  · rw [List.map_append, List.nodup_append]
    exact ⟨n1, n2.2, fun p hp q hq => n3 p hp q (by simp only [List.mem_cons]; exact .inr hq)⟩
  · rw [findT_dropT _ _ _ hf]
    constructor
    · intro hk
      obtain ⟨y, hy, rfl⟩ := List.mem_map.1 hk
      rw [if_neg (hnot y hy)]
      exact (hm.keys y.1).1 (List.mem_map_of_mem (hmem y hy))
    · intro hk
      by_cases e : k = x.1
      · rw [if_pos e] at hk; cases hk
      · rw [if_neg e, ← hm.keys] at hk
        rw [hspl, List.map_append, List.map_cons, List.mem_append, List.mem_cons] at hk
        rw [List.map_append, List.mem_append]
        rcases hk with hk | hk | hk
        · exact .inl hk
        · exact absurd hk e
        · exact .inr hk
  · have hne := hnot y hy
    have hv := hm.vals y (hmem y hy)
    unfold getV at hv ⊢
    rw [findT_dropT _ _ _ hf, if_neg hne]
    rcases hfy : findT l y.1 with _ | q
    · have := (hm.keys y.1).1 (List.mem_map_of_mem (hmem y hy))
      rw [hfy] at this; cases this
    · rw [hfy] at hv
      simp only at hv ⊢
      have hqi : q ≠ i := fun e2 => by
        subst e2
        have h1 := findT_lt hf.1 hfy
        exact hne (by rw [← hil.2.2.2.2, ← h1.2.2.2.2])
      rw [hst, at_set _ _ _ _ hil.1, if_neg hqi]
      exact hv
  · rw [hst, hdls_set _ _ _ hil.1, ← hm.len, List.length_append, List.length_take, List.length_drop]
    simp [hil.2.2.2.1]
    omega
theorem MapOf.dropNone {l : Tbl} {m : List (Int × Int)} (hm : MapOf l m) {h : Int} (hn : findT l h = none) : MapOf (dropT l h) m := by
  unfold dropT; rw [hn]; exact hm

/-- The last index among the first k at which the handle is h: -1 if there is none. -/
def lastTo (m : List (Int × Int)) (h : Int) : Nat → Int
  | 0 => -1
  | k + 1 => if (m.getD k (0, 0)).1 = h then k else lastTo m h k
theorem lastTo_cases (m : List (Int × Int)) (h : Int) (k : Nat) (hk : k ≤ m.length) :
    (lastTo m h k = -1 ∧ ∀ j x, j < k → m[j]? = some x → x.1 ≠ h) ∨ ∃ (a : Nat) (x : Int × Int), lastTo m h k = a ∧ a < k ∧ m[a]? = some x ∧ x.1 = h := by
  induction k with
  | zero => exact .inl ⟨rfl, fun j x hj => absurd hj (by omega)⟩
  | succ k ih =>
    have hx : m[k]? = some (m[k]'(by omega)) := List.getElem?_eq_getElem (by omega)
    unfold lastTo
    rw [List.getD_eq_getElem?_getD, hx]
    simp only [Option.getD_some]
    split
    · rename_i e
      exact .inr ⟨k, _, rfl, by omega, hx, e⟩
    · rename_i e
      rcases ih (by omega) with ⟨h1, h2⟩ | ⟨a, x, h1, h2, h3, h4⟩
      · refine .inl ⟨h1, fun j x hj hjx => ?_⟩
        by_cases e2 : j = k
        · subst e2; rw [hx] at hjx; injection hjx with hjx; rw [← hjx]; exact e
        · exact h2 j x (by omega) hjx
      · exact .inr ⟨a, x, h1, by omega, h3, h4⟩
theorem MapOf.last {l : Tbl} {m : List (Int × Int)} (hm : MapOf l m) (h : Int) :
    (lastTo m h m.length = -1 ∧ findT l h = none) ∨ ∃ (a : Nat) (x : Int × Int), lastTo m h m.length = a ∧ a < m.length ∧ m[a]? = some x ∧ x.1 = h ∧ (findT l h).isSome = true := by
  rcases lastTo_cases m h m.length (Nat.le_refl _) with ⟨h1, h2⟩ | ⟨a, x, h1, h2, h3, h4⟩
  · refine .inl ⟨h1, ?_⟩
    rcases hf : findT l h with _ | i
    · rfl
    · have : h ∈ m.map (·.1) := (hm.keys h).2 (by rw [hf]; rfl)
      obtain ⟨x, hx, rfl⟩ := List.mem_map.1 this
      obtain ⟨j, hj⟩ := List.getElem?_of_mem hx
      exact absurd rfl (h2 j x (List.getElem?_eq_some_iff.1 hj).1 hj)
  · refine .inr ⟨a, x, h1, h2, h3, h4, ?_⟩
    rw [← hm.keys, ← h4]
    exact List.mem_map_of_mem (List.mem_of_getElem? h3)

end Go.Proofs.Ytoicdaoappiglaa
