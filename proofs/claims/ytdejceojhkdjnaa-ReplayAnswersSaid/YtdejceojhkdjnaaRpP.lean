/-
  Plain laws: the states behind each beginning of a proper list, and who is there.
  No conditions.
-/
import Derived.Test.YtdejceojhkdjnaaRpW6
namespace Go.Proofs.Ytdejceojhkdjnaa
open Go.RowKit

def sAt (s : List PS) (l : List En) (k : Nat) : List PS := (l.take k).foldl entS s
theorem runP_all {s : List PS} {l : List En} (h : (runP s l).2.1 = 0) : (runP s l).2.2 = l.foldl entS s ∧ ∀ k x, l[k]? = some x → entE (sAt s l k) x = 0 := by
  induction l generalizing s with
  | nil => exact ⟨rfl, fun k x hx => absurd hx (by simp)⟩
  | cons y l ih =>
    unfold runP at h ⊢
    by_cases h0 : entE s y = 0
    · rw [if_pos h0] at h ⊢
      obtain ⟨h1, h2⟩ := ih (s := entS s y) h
      refine ⟨h1, fun k x hx => ?_⟩
      rcases k with _ | k
      · rw [List.getElem?_cons_zero] at hx
        injection hx with hx
        subst hx
        exact h0
      · rw [List.getElem?_cons_succ] at hx
        exact h2 k x hx
    · rw [if_neg h0] at h
      exact absurd h h0
theorem sAt_succ {s : List PS} {l : List En} {k : Nat} {x : En} (hx : l[k]? = some x) : sAt s l (k + 1) = entS (sAt s l k) x := by
  unfold sAt
  obtain ⟨hlt, hg⟩ := List.getElem?_eq_some_iff.1 hx
  rw [List.take_succ_eq_append_getElem hlt, List.foldl_append, hg]
  rfl
theorem sAt_all (s : List PS) (l : List En) : sAt s l l.length = l.foldl entS s := by unfold sAt; rw [List.take_length]
theorem entS_len (s : List PS) (x : En) : (entS s x).length = s.length := by
  unfold entS stepS
  dsimp only
  repeat' split
  all_goals first | rfl | exact List.length_set ..
theorem foldl_len (l : List En) (s : List PS) : (l.foldl entS s).length = s.length := by
  induction l generalizing s with
  | nil => rfl
  | cons x l ih => rw [List.foldl_cons, ih, entS_len]
theorem initS_len : initS.length = 32 := by kernel_rfl
theorem sAt_len (l : List En) (k : Nat) : (sAt initS l k).length = 32 := by unfold sAt; rw [foldl_len, initS_len]

def theres (s : List PS) : List Bool := s.map PS.there
theorem count_t {b : List Bool} {k : Nat} (h : b[k]? = some false) : (b.set k true).count true = b.count true + 1 := by
  induction b generalizing k with
  | nil => simp at h
  | cons x b ih =>
    rcases k with _ | k
    · simp at h; subst h; simp
    · have := ih (by simpa using h)
      rw [List.set_cons_succ, List.count_cons, List.count_cons, this]
      omega
theorem count_f {b : List Bool} {k : Nat} (h : b[k]? = some true) : (b.set k false).count true + 1 = b.count true := by
  induction b generalizing k with
  | nil => simp at h
  | cons x b ih =>
    rcases k with _ | k
    · simp at h; subst h; simp
    · have := ih (by simpa using h)
      rw [List.set_cons_succ, List.count_cons, List.count_cons, ← this]
      omega
theorem set_same {b : List Bool} {k : Nat} {x : Bool} (h : b[k]? = some x) : b.set k x = b := by
  apply List.ext_getElem?
  intro i
  rw [List.getElem?_set]
  split
  · rename_i e; subst e
    split
    · exact h.symm
    · rename_i hn; rw [List.getElem?_eq_none (by omega)]
  · rfl
theorem theres_set (s : List PS) (k : Nat) (t : PS) : theres (s.set k t) = (theres s).set k t.there := by
  unfold theres
  rw [List.map_set]
theorem theres_get {s : List PS} {k : Nat} {t : PS} (h : s[k]? = some t) : (theres s)[k]? = some t.there := by
  unfold theres
  rw [List.getElem?_map, h]
  rfl

theorem theres_step {s : List PS} {x : En} (hs : s.length = 32) (h : entE s x = 0) : ∃ q : Nat, x.task = q ∧ q < 32 ∧ (x.kind = 3 → (theres s)[q]? = some false ∧ theres (entS s x) = (theres s).set q true) ∧
    (x.kind = 6 → (theres s)[q]? = some true ∧ theres (entS s x) = (theres s).set q false) ∧ (x.kind ≠ 3 → x.kind ≠ 6 → theres (entS s x) = theres s) := by
  unfold entE at h
  by_cases hv : vE x = true
  rotate_left
  · rw [if_neg hv] at h
    exact absurd h (by decide)
  rw [if_pos hv] at h
  obtain ⟨h0, h31⟩ := vE_task hv
  obtain ⟨q, hq⟩ := Int.eq_ofNat_of_zero_le h0
  have hq32 : q < 32 := by omega
  obtain ⟨t, ht⟩ : ∃ t, s[q]? = some t := ⟨_, List.getElem?_eq_getElem (by omega)⟩
  have hth := theres_get ht
  have hS : entS s x = (stepS s x).1 := by unfold entS; rw [if_pos hv]
  have h2 : (stepS s x).2 = true := by
    cases hc : (stepS s x).2 with
    | true => rfl
    | false => rw [hc] at h; exact absurd h (by decide)
  refine ⟨q, hq, hq32, ?_⟩
  rw [hS]
  unfold stepS at h2 ⊢
  simp only [hq, Int.toNat_natCast, getD_of ht] at h2 ⊢
  rcases vE_kinds hv with e | e | e | e | e | e | e
  all_goals
    simp only [e] at h2 ⊢
    simp (decide := true) only [if_true, if_false, Bool.and_eq_true] at h2 ⊢
  all_goals refine ⟨?_, ?_, ?_⟩
  all_goals first
    | exact trivial
    | exact fun _ h => h.elim
    | exact fun h => h.elim
    | exact fun h => absurd h (by decide)
    | exact fun h h' => absurd rfl h
    | exact fun h h' => absurd rfl h'
    | exact fun _ _ => rfl
    | exact fun _ _ => (theres_set _ _ _).trans (set_same hth)
    | exact fun _ => (theres_set _ _ _).trans (set_same hth)
    | exact (theres_set _ _ _).trans (set_same hth)
    | exact rfl
    | skip
  · refine fun _ => ⟨?_, theres_set _ _ _⟩
    rw [hth]
    have := h2.1
    revert this
    cases t.there <;> simp
  · refine fun _ => ⟨?_, theres_set _ _ _⟩
    rw [hth, h2.1]

theorem alive_count {s : List PS} {k : Nat} (hk : k ≤ s.length) : (aliveP s k).length = ((theres s).take k).count true := by
  induction k with
  | zero => simp [aliveP]
  | succ k ih =>
    obtain ⟨t, ht⟩ : ∃ t, s[k]? = some t := ⟨_, List.getElem?_eq_getElem (by omega)⟩
    obtain ⟨hlt, hg⟩ := List.getElem?_eq_some_iff.1 (theres_get ht)
    rw [aliveP_succ, getD_of ht, List.take_succ_eq_append_getElem hlt, List.count_append, hg, ← ih (by omega)]
    cases t.there <;> simp
theorem alive_len {s : List PS} (hs : s.length = 32) : (aliveP s 32).length = (theres s).count true := by
  rw [alive_count (by omega), List.take_of_length_le (by unfold theres; rw [List.length_map]; omega)]
theorem alive_mem {s : List PS} {i a : Nat} (hs : s.length = 32) (h : (aliveP s 32)[i]? = some a) : a < 32 ∧ (theres s)[a]? = some true := by
  have hm := List.mem_of_getElem? h
  unfold aliveP at hm
  simp only [List.mem_filter, List.mem_range] at hm
  obtain ⟨t, ht⟩ : ∃ t, s[a]? = some t := ⟨_, List.getElem?_eq_getElem (by omega)⟩
  rw [getD_of ht] at hm
  exact ⟨hm.1, by rw [theres_get ht, hm.2]⟩
theorem alive_lt {s : List PS} {i a b : Nat} (h : (aliveP s 32)[i]? = some a) (h' : (aliveP s 32)[i + 1]? = some b) : a < b := by
  have hp : (aliveP s 32).Pairwise (· < ·) := List.Pairwise.filter _ List.pairwise_lt_range
  obtain ⟨h1, rfl⟩ := List.getElem?_eq_some_iff.1 h
  obtain ⟨h2, rfl⟩ := List.getElem?_eq_some_iff.1 h'
  exact List.pairwise_iff_getElem.1 hp i (i + 1) h1 h2 (by omega)
theorem theres_len {s : List PS} (hs : s.length = 32) : (theres s).length = 32 := by unfold theres; rw [List.length_map, hs]
theorem theres_init : theres initS = (List.replicate 32 false).set 16 true := by kernel_rfl
theorem count_le (b : List Bool) : b.count true ≤ b.length := List.count_le_length
end Go.Proofs.Ytdejceojhkdjnaa
