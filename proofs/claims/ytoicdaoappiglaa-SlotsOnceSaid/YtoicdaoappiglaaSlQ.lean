/-
  Plain laws of tables of slots: a handle is never given twice; a table is a map from its handles to values.
  No conditions: no program in sight.
-/
import Derived.Test.YtoicdaoappiglaaSlP
namespace Go.Proofs.Ytoicdaoappiglaa

def ixOf (l : Tbl) (h : Int) : Nat := (h % l.length).toNat
/-- Every handle that was given belongs to an older generation of its slot, or to the present one, which holds a value. -/
def Seen (l : Tbl) (seen : List Int) : Prop := ∀ h ∈ seen, 0 ≤ h ∧ (h / l.length < (at_ l (ixOf l h)).gen ∨ h / l.length = (at_ l (ixOf l h)).gen ∧ (at_ l (ixOf l h)).used = true)

theorem hdl_div {l : Tbl} {i : Nat} (hi : i < l.length) : hdl l i / l.length = (at_ l i).gen := by
  unfold hdl
  rw [Int.add_comm, Int.add_mul_ediv_right _ _ (by omega), Int.ediv_eq_zero_of_lt (by omega) (by omega)]; omega
theorem hdl_mod {l : Tbl} {i : Nat} (hi : i < l.length) : hdl l i % l.length = i := by
  unfold hdl
  rw [Int.add_comm, Int.add_mul_emod_self_right, Int.emod_eq_of_lt (by omega) (by omega)]
theorem hdl_ix {l : Tbl} {i : Nat} (hi : i < l.length) : ixOf l (hdl l i) = i := by
  unfold ixOf; rw [hdl_mod hi]; omega

theorem best_lt {l : Tbl} (h : ¬ best l < 0) : (best l).toNat < l.length ∧ (at_ l (best l).toNat).used = false ∧ (at_ l (best l).toNat).gen < 1000 := by
  have hb := bestTo_bd l l.length
  unfold best at h ⊢
  exact ⟨by omega, hb.2.2 (by omega)⟩

theorem Seen.new {l : Tbl} {seen : List Int} (hs : Seen l seen) (hb : ¬ best l < 0) : putH l ∉ seen := by
  intro hm
  have hl := best_lt hb
  have h := hs _ hm
  unfold putH at h
  rw [if_neg hb, hdl_ix hl.1, hdl_div hl.1] at h
  rcases h.2 with h1 | h1
  · omega
  · rw [hl.2.1] at h1; simp at h1

theorem Seen.of_at {l l' : Tbl} {seen : List Int} (hs : Seen l seen) (hl : l'.length = l.length)
    (h : ∀ i, (at_ l i).gen < (at_ l' i).gen ∨ (at_ l i).gen = (at_ l' i).gen ∧ ((at_ l i).used = true → (at_ l' i).used = true)) : Seen l' seen := by
  intro x hx
  have h1 := hs x hx
  have e : ixOf l' x = ixOf l x := by unfold ixOf; rw [hl]
  rw [e, hl]
  have h2 := h (ixOf l x)
  refine ⟨h1.1, ?_⟩
  rcases h1.2 with h3 | h3
  · left; omega
  · rcases h2 with h4 | h4
    · left; omega
    · right; exact ⟨by omega, h4.2 h3.2⟩

theorem Seen.put {l : Tbl} {seen : List Int} (hs : Seen l seen) (v : Int) : Seen (putT l v) seen := by
  refine hs.of_at (putT_length l v) fun i => ?_
  unfold putT
  split
  · exact .inr ⟨rfl, id⟩
  · rename_i hb
    have hl := best_lt hb
    rw [at_set _ _ _ _ hl.1]
    split
    · rename_i e; subst e; exact .inr ⟨rfl, fun _ => rfl⟩
    · exact .inr ⟨rfl, id⟩
theorem Seen.putOk {l : Tbl} {seen : List Int} (hs : Seen l seen) (hf : Fine l) (v : Int) (hb : ¬ best l < 0) : Seen (putT l v) (seen ++ [putH l]) := by
  intro x hx
  rw [List.mem_append] at hx
  rcases hx with hx | hx
  · exact hs.put v x hx
  · rw [List.mem_singleton] at hx
    subst hx
    have hl := best_lt hb
    have hbd := hdl_bd hf _ hl.1
    have e : ixOf (putT l v) (putH l) = (best l).toNat := by
      unfold ixOf; rw [putT_length]; unfold putH; rw [if_neg hb, hdl_mod hl.1]; omega
    rw [e, putT_length]
    unfold putH putT
    rw [if_neg hb, if_neg hb, hdl_div hl.1, at_set _ _ _ _ hl.1, if_pos rfl]
    exact ⟨by omega, .inr ⟨rfl, rfl⟩⟩
theorem Seen.setT {l : Tbl} {seen : List Int} (hs : Seen l seen) (hf : Fine l) (a v : Int) : Seen (setT l a v) seen := by
  refine hs.of_at (setT_length l a v) fun i => ?_
  unfold Proofs.Ytoicdaoappiglaa.setT
  split
  · rename_i j e
    rw [at_set _ _ _ _ (findT_lt hf.1 e).1]
    split
    · rename_i e; subst e; exact .inr ⟨rfl, id⟩
    · exact .inr ⟨rfl, id⟩
  · exact .inr ⟨rfl, id⟩
theorem Seen.dropT {l : Tbl} {seen : List Int} (hs : Seen l seen) (hf : Fine l) (a : Int) : Seen (dropT l a) seen := by
  refine hs.of_at (dropT_length l a) fun i => ?_
  unfold Proofs.Ytoicdaoappiglaa.dropT
  split
  · rename_i j e
    rw [at_set _ _ _ _ (findT_lt hf.1 e).1]
    split
    · rename_i e; subst e; exact .inl (by simp; omega)
    · exact .inr ⟨rfl, id⟩
  · exact .inr ⟨rfl, id⟩

end Go.Proofs.Ytoicdaoappiglaa
