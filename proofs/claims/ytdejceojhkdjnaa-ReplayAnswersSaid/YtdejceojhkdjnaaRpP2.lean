/-
  Plain laws: in a proper list every answer ends one call, and a call that nothing answered is not followed by another of its task ahead of an ending.
  No conditions.
-/
import Derived.Test.YtdejceojhkdjnaaRpW7
import Derived.Test.YtdejceojhkdjnaaRpP
namespace Go.Proofs.Ytdejceojhkdjnaa
open Go.RowKit

theorem getD_set (s : List PS) (k Q : Nat) (t : PS) : (s.set k t).getD Q zPS = if k = Q ∧ k < s.length then t else s.getD Q zPS := by
  rw [List.getD_eq_getElem?_getD, List.getD_eq_getElem?_getD, List.getElem?_set]
  by_cases h : k = Q
  · subst h
    by_cases h2 : k < s.length
    · simp [h2]
    · simp [h2]
  · simp [h]

structure StepAt (t t' : PS) (x : En) : Prop where
  k1 : x.kind = 1 → t.there = true ∧ t.calling = false ∧ t'.there = true ∧ t'.calling = true ∧ t'.call = x.call
  k2 : x.kind = 2 → t.there = true ∧ t.calling = true ∧ t.call = x.call ∧ t'.calling = false
  k3 : x.kind = 3 → t.there = false ∧ t'.calling = false
  k6 : x.kind = 6 → t'.there = false
  ko : x.kind ≠ 1 → x.kind ≠ 2 → x.kind ≠ 3 → x.kind ≠ 6 → t'.there = t.there ∧ t'.calling = t.calling ∧ t'.call = t.call

theorem entS_at {s : List PS} {x : En} {Q : Nat} (hs : s.length = 32) (h : entE s x = 0) :
    (x.task ≠ (Q : Int) → (entS s x).getD Q zPS = s.getD Q zPS) ∧ (x.task = (Q : Int) → StepAt (s.getD Q zPS) ((entS s x).getD Q zPS) x) := by
  unfold entE at h
  by_cases hv : vE x = true
  rotate_left
  · rw [if_neg hv] at h
    exact absurd h (by decide)
  rw [if_pos hv] at h
  obtain ⟨h0, h31⟩ := vE_task hv
  obtain ⟨q, hq⟩ := Int.eq_ofNat_of_zero_le h0
  have hq32 : q < s.length := by omega
  have h2 : (stepS s x).2 = true := by
    cases hc : (stepS s x).2 with
    | true => rfl
    | false => rw [hc] at h; exact absurd h (by decide)
  have hS : entS s x = (stepS s x).1 := by unfold entS; rw [if_pos hv]
  rw [hS]
  have hk := vE_kinds hv
  clear hS h hv h0 h31
  unfold stepS at h2 ⊢
  simp only [hq, Int.toNat_natCast] at h2 ⊢
  have hg := fun t => getD_set s q Q t
  constructor
  · intro hne
    have hne' : q ≠ Q := fun e => hne (by rw [e])
    have hg' : ∀ t, (s.set q t).getD Q zPS = s.getD Q zPS := fun t => by rw [hg, if_neg (fun e => hne' e.1)]
    rcases hk with e | e | e | e | e | e | e
    all_goals
      simp only [e] at h2 ⊢
      simp (decide := true) only [if_true, if_false, hg']
  · intro he
    obtain rfl : q = Q := by omega
    have hg' : ∀ t, (s.set q t).getD q zPS = t := fun t => by rw [hg, if_pos ⟨rfl, hq32⟩]
    rcases hk with e | e | e | e | e | e | e
    all_goals
      simp only [e] at h2 ⊢
      simp (decide := true) only [if_true, if_false, hg', inS, Bool.and_eq_true, Bool.not_eq_true', beq_iff_eq] at h2 ⊢
    · exact ⟨fun _ => ⟨h2.1, h2.2.1, h2.1, rfl, rfl⟩, fun h => absurd (e.symm.trans h) (by decide), fun h => absurd (e.symm.trans h) (by decide), fun h => absurd (e.symm.trans h) (by decide), fun h => absurd e h⟩
    · exact ⟨fun h => absurd (e.symm.trans h) (by decide), fun _ => ⟨h2.1.1, h2.1.2.2.1, h2.1.2.2.2, rfl⟩, fun h => absurd (e.symm.trans h) (by decide), fun h => absurd (e.symm.trans h) (by decide), fun _ h => absurd e h⟩
    · exact ⟨fun h => absurd (e.symm.trans h) (by decide), fun h => absurd (e.symm.trans h) (by decide), fun _ => ⟨h2.1, rfl⟩, fun h => absurd (e.symm.trans h) (by decide), fun _ _ h => absurd e h⟩
    · exact ⟨fun h => absurd (e.symm.trans h) (by decide), fun h => absurd (e.symm.trans h) (by decide), fun h => absurd (e.symm.trans h) (by decide), fun h => absurd (e.symm.trans h) (by decide), fun _ _ _ _ => ⟨rfl, rfl, rfl⟩⟩
    · exact ⟨fun h => absurd (e.symm.trans h) (by decide), fun h => absurd (e.symm.trans h) (by decide), fun h => absurd (e.symm.trans h) (by decide), fun h => absurd (e.symm.trans h) (by decide), fun _ _ _ _ => ⟨rfl, rfl, rfl⟩⟩
    · exact ⟨fun h => absurd (e.symm.trans h) (by decide), fun h => absurd (e.symm.trans h) (by decide), fun h => absurd (e.symm.trans h) (by decide), fun _ => rfl, fun _ _ _ h => absurd e h⟩
    · exact ⟨fun h => absurd (e.symm.trans h) (by decide), fun h => absurd (e.symm.trans h) (by decide), fun h => absurd (e.symm.trans h) (by decide), fun h => absurd (e.symm.trans h) (by decide), fun _ _ _ _ => ⟨rfl, rfl, rfl⟩⟩

theorem drop_cons_of {l : List En} {k : Nat} {x : En} (hx : l[k]? = some x) : l.drop k = x :: l.drop (k + 1) := by
  obtain ⟨hlt, hg⟩ := List.getElem?_eq_some_iff.1 hx
  rw [List.drop_eq_getElem_cons hlt, hg]
theorem endsFrom_at {t f : Int} {l : List En} {i : Nat} (h : endsFrom t l i = f) (hf : 0 ≤ f) : ∃ j x, f = (i + j : Nat) ∧ l[j]? = some x ∧ x.task = t ∧ x.kind = 2 := by
  induction l generalizing i with
  | nil => have : (-1 : Int) = f := h; omega
  | cons x l ih =>
    unfold endsFrom at h
    have next : endsFrom t l (i + 1) = f → ∃ j x', f = (i + j : Nat) ∧ (x :: l)[j]? = some x' ∧ x'.task = t ∧ x'.kind = 2 := fun h => by
      obtain ⟨j, x', h1, h2, h3, h4⟩ := ih h
      exact ⟨j + 1, x', by omega, by simpa using h2, h3, h4⟩
    by_cases ht : x.task = t
    · rw [if_pos ht] at h
      by_cases h2 : x.kind = 2
      · rw [if_pos h2] at h
        exact ⟨0, x, by omega, rfl, ht, h2⟩
      · rw [if_neg h2] at h
        by_cases h1 : x.kind = 1
        · rw [if_pos h1] at h; omega
        · rw [if_neg h1] at h
          by_cases h6 : x.kind = 6
          · rw [if_pos h6] at h; omega
          · rw [if_neg h6] at h; exact next h
    · rw [if_neg ht] at h
      exact next h
/-- Of a list, at a place. -/
theorem ends_at {t : Int} {l : List En} {b i : Nat} (h : endsFrom t (l.drop (b + 1)) (b + 1) = (i : Int)) : b < i ∧ ∃ x, l[i]? = some x ∧ x.task = t ∧ x.kind = 2 := by
  obtain ⟨j, x, h1, h2, h3, h4⟩ := endsFrom_at h (by omega)
  have hij : i = b + 1 + j := by omega
  refine ⟨by omega, x, ?_, h3, h4⟩
  rw [List.getElem?_drop] at h2
  rw [hij]
  exact h2

theorem calls_mem {l : List En} {k : Nat} {c : Cl} (hk : k ≤ l.length) (h : c ∈ callsP l k) : ∃ b x, b < k ∧ l[b]? = some x ∧ x.kind = 1 ∧ c = callAt l b x := by
  induction k with
  | zero => exact absurd h (by simp [callsP])
  | succ k ih =>
    obtain ⟨x, hx⟩ : ∃ x, l[k]? = some x := ⟨_, List.getElem?_eq_getElem (by omega)⟩
    have hgd : l.getD k zEn = x := by rw [List.getD_eq_getElem?_getD, hx]; rfl
    unfold callsP at h
    rw [hgd] at h
    split at h
    · rename_i h1
      rcases List.mem_append.1 h with h2 | h2
      · obtain ⟨b, y, h3, h4⟩ := ih (by omega) h2
        exact ⟨b, y, by omega, h4⟩
      · rw [List.mem_singleton] at h2
        exact ⟨k, x, by omega, hx, h1, h2⟩
    · obtain ⟨b, y, h3, h4⟩ := ih (by omega) h
      exact ⟨b, y, by omega, h4⟩
theorem callAt_fin (l : List En) (b : Nat) (x : En) : (callAt l b x).fin = endsFrom x.task (l.drop (b + 1)) (b + 1) := by unfold callAt; split <;> rfl
theorem callAt_task (l : List En) (b : Nat) (x : En) : (callAt l b x).task = x.task := by unfold callAt; split <;> rfl
theorem callAt_number (l : List En) (b : Nat) (x : En) : (callAt l b x).number = x.call := by unfold callAt; split <;> rfl
theorem callAt_beg (l : List En) (b : Nat) (x : En) : (callAt l b x).beg = b := by unfold callAt; split <;> rfl
theorem callAt_done (l : List En) (b : Nat) (x : En) : (callAt l b x).done = decide (0 ≤ (callAt l b x).fin) := by
  rw [callAt_fin]
  unfold callAt
  split
  · rename_i h; rw [decide_eq_true h]
  · rename_i h; rw [decide_eq_false h]

def pend (s : List PS) (Q : Nat) (l : List En) (k i : Nat) : Bool := (s.getD Q zPS).there && ((s.getD Q zPS).calling && endsFrom Q (l.drop k) k == (i : Int))
def cntF (l : List En) (i k : Nat) : Nat := (callsP l k).countP fun c => c.fin == (i : Int)

theorem cntF_succ {l : List En} {i k : Nat} {x : En} (hx : l[k]? = some x) : cntF l i (k + 1) = cntF l i k + if x.kind = 1 ∧ endsFrom x.task (l.drop (k + 1)) (k + 1) = i then 1 else 0 := by
  have hgd : l.getD k zEn = x := by rw [List.getD_eq_getElem?_getD, hx]; rfl
  unfold cntF
  rw [callsP, hgd]
  by_cases h1 : x.kind = 1
  · rw [if_pos h1, List.countP_append]
    by_cases h2 : endsFrom x.task (l.drop (k + 1)) (k + 1) = i
    · rw [if_pos ⟨h1, h2⟩]; simp [callAt_fin, h2]
    · rw [if_neg (fun h => h2 h.2)]; simp [callAt_fin, h2]
  · rw [if_neg h1, if_neg (fun h => h1 h.1)]; rfl

theorem open_upto {l : List En} {i Q : Nat} {y : En} (hp : ∀ k x, l[k]? = some x → entE (sAt initS l k) x = 0) (hy : l[i]? = some y) (hQ : y.task = (Q : Int)) (k : Nat) (hk : k ≤ i) :
    cntF l i k = (if pend (sAt initS l k) Q l k i = true then 1 else 0) ∧ ∀ c ∈ callsP l k, c.fin = (i : Int) → c.number = ((sAt initS l k).getD Q zPS).call := by
  have hil : i < l.length := (List.getElem?_eq_some_iff.1 hy).1
  induction k with
  | zero =>
    refine ⟨?_, fun c hc => absurd hc (by simp [callsP])⟩
    have h0 : ((sAt initS l 0).getD Q zPS).calling = false := by
      have : ∀ t ∈ initS, t.calling = false := by
        intro t ht
        rcases List.mem_or_eq_of_mem_set ht with h | h
        · rw [List.eq_of_mem_replicate h]; rfl
        · rw [h]
      rw [List.getD_eq_getElem?_getD]
      rcases h : (sAt initS l 0)[Q]? with _ | t
      · rfl
      · exact this t (List.mem_of_getElem? h)
    unfold pend
    rw [h0]
    simp [cntF, callsP]
  | succ k ih =>
    obtain ⟨ih1, ih2⟩ := ih (by omega)
    obtain ⟨x, hx⟩ : ∃ x, l[k]? = some x := ⟨_, List.getElem?_eq_getElem (by omega)⟩
    have hgd : l.getD k zEn = x := by rw [List.getD_eq_getElem?_getD, hx]; rfl
    obtain ⟨hne, heq⟩ := entS_at (Q := Q) (sAt_len l k) (hp k x hx)
    have hold : ∀ c ∈ callsP l k, c.fin = (i : Int) → pend (sAt initS l k) Q l k i = true := fun c hc hf => by
      cases hpd : pend (sAt initS l k) Q l k i with
      | true => rfl
      | false =>
        rw [hpd] at ih1
        have : cntF l i k = 0 := ih1
        unfold cntF at this
        rw [List.countP_eq_zero] at this
        exact absurd (by simpa using hf) (this c hc)
    have hmem : ∀ c ∈ callsP l (k + 1), c ∈ callsP l k ∨ (x.kind = 1 ∧ c = callAt l k x) := fun c hc => by
      rw [callsP, hgd] at hc
      split at hc
      · rename_i h1
        rcases List.mem_append.1 hc with h2 | h2
        · exact .inl h2
        · exact .inr ⟨h1, List.mem_singleton.1 h2⟩
      · exact .inl hc
    rw [cntF_succ hx, ih1, sAt_succ hx]
    have hstep : endsFrom Q (l.drop k) k = if x.task = (Q : Int) then (if x.kind = 2 then (k : Int) else if x.kind = 1 then -1 else if x.kind = 6 then -1 else endsFrom Q (l.drop (k + 1)) (k + 1)) else endsFrom Q (l.drop (k + 1)) (k + 1) := by
      rw [drop_cons_of hx, endsFrom]
    have hno : ∀ T : Int, endsFrom T (l.drop (k + 1)) (k + 1) = (i : Int) → T = (Q : Int) := fun T h => by
      obtain ⟨_, z, hz, h1, _⟩ := ends_at h
      rw [hy] at hz
      injection hz with hz
      rw [← h1, ← hz, hQ]
    have hnew : ∀ c, c = callAt l k x → c.fin = (i : Int) → x.task = (Q : Int) := fun c hc hf => by
      rw [hc, callAt_fin] at hf
      exact hno _ hf
    have e0 : ¬ (x.kind = 1 ∧ endsFrom x.task (l.drop (k + 1)) (k + 1) = (i : Int)) → (if x.kind = 1 ∧ endsFrom x.task (l.drop (k + 1)) (k + 1) = (i : Int) then 1 else 0 : Nat) = 0 := fun h => if_neg h
    unfold pend at hold ⊢
    rw [hstep] at hold ⊢
    by_cases ht : x.task = (Q : Int)
    rotate_left
    · rw [hne ht, if_neg ht, e0 (fun h => ht (hno _ h.2))]
      refine ⟨rfl, fun c hc hf => ?_⟩
      rcases hmem c hc with h | ⟨_, h⟩
      · exact ih2 c h hf
      · exact absurd (hnew c h hf) ht
    have hst := heq ht
    rw [if_pos ht] at hold ⊢
    rw [ht]
    have hki : (k : Int) ≠ i := by omega
    have hm1 : (-1 : Int) ≠ i := by omega
    generalize hE : endsFrom Q (l.drop (k + 1)) (k + 1) = E at hold ⊢
    by_cases k1 : x.kind = 1
    · obtain ⟨g1, g2, g3, g4, g5⟩ := hst.k1 k1
      rw [g2, g3, g4]
      rw [g2] at hold
      refine ⟨by by_cases hEi : E = i <;> simp [k1, hEi], fun c hc hf => ?_⟩
      rcases hmem c hc with h | ⟨_, h⟩
      · exact absurd (hold c h hf) (by simp)
      · rw [h, callAt_number, g5]
    have hmem' : ∀ c ∈ callsP l (k + 1), c ∈ callsP l k := fun c hc => by
      rcases hmem c hc with h | ⟨h, _⟩
      · exact h
      · exact absurd h k1
    simp only [k1, false_and, if_false, Nat.add_zero] at hold ⊢
    by_cases k2 : x.kind = 2
    · obtain ⟨g1, g2, g3, g4⟩ := hst.k2 k2
      rw [if_pos k2] at hold ⊢
      refine ⟨by rw [g4]; simp [beq_false_of_ne hki], fun c hc hf => ?_⟩
      have := hold c (hmem' c hc) hf
      rw [beq_false_of_ne hki] at this
      simp at this
    rw [if_neg k2] at hold ⊢
    by_cases k6 : x.kind = 6
    · have g := hst.k6 k6
      rw [if_pos k6] at hold ⊢
      refine ⟨by rw [g]; simp [beq_false_of_ne hm1], fun c hc hf => ?_⟩
      have := hold c (hmem' c hc) hf
      rw [beq_false_of_ne hm1] at this
      simp at this
    rw [if_neg k6] at hold ⊢
    by_cases k3 : x.kind = 3
    · obtain ⟨g1, g2⟩ := hst.k3 k3
      refine ⟨by rw [g1, g2]; simp, fun c hc hf => ?_⟩
      have := hold c (hmem' c hc) hf
      rw [g1] at this
      simp at this
    obtain ⟨g1, g2, g3⟩ := hst.ko k1 k2 k3 k6
    refine ⟨by rw [g1, g2], fun c hc hf => ?_⟩
    rw [g3]
    exact ih2 c (hmem' c hc) hf

/-- Behind place i no call is answered at place i. -/
theorem cntF_const {l : List En} {i k : Nat} (hik : i ≤ k) (hk : k ≤ l.length) : cntF l i k = cntF l i i := by
  induction k with
  | zero => obtain rfl : i = 0 := by omega
            rfl
  | succ k ih =>
    by_cases h : i = k + 1
    · rw [h]
    · obtain ⟨x, hx⟩ : ∃ x, l[k]? = some x := ⟨_, List.getElem?_eq_getElem (by omega)⟩
      have hz : ¬ (x.kind = 1 ∧ endsFrom x.task (l.drop (k + 1)) (k + 1) = (i : Int)) := fun h2 => by
        have := (ends_at h2.2).1
        omega
      rw [cntF_succ hx, ih (by omega) (by omega), if_neg hz, Nat.add_zero]

structure AnsAt (l : List En) (i : Nat) (y : En) (c : Cl) : Prop where
  done : c.done = true
  num : c.number = y.call
  task : c.task = y.task
  beg : c.beg < i

theorem answers {l : List En} (hr : (runP initS l).2.1 = 0) {i : Nat} {y : En} (hy : l[i]? = some y) :
    cntF l i l.length = (if y.kind = 2 then 1 else 0) ∧ ∀ c ∈ callsP l l.length, c.fin = (i : Int) → AnsAt l i y c := by
  have hp := (runP_all hr).2
  have hil : i < l.length := (List.getElem?_eq_some_iff.1 hy).1
  have hEi := hp i y hy
  have hQ : ∃ Q : Nat, y.task = (Q : Int) := by
    obtain ⟨q, hq, _⟩ := theres_step (sAt_len l i) hEi
    exact ⟨q, hq⟩
  obtain ⟨Q, hQ⟩ := hQ
  obtain ⟨h1, h2⟩ := open_upto hp hy hQ i (Nat.le_refl _)
  have hst := (entS_at (Q := Q) (sAt_len l i) hEi).2 hQ
  have hpe : pend (sAt initS l i) Q l i i = decide (y.kind = 2) := by
    unfold pend
    rw [drop_cons_of hy, endsFrom, if_pos hQ]
    by_cases k2 : y.kind = 2
    · obtain ⟨g1, g2, _, _⟩ := hst.k2 k2
      rw [if_pos k2, g1, g2, decide_eq_true k2]
      simp
    · rw [if_neg k2, decide_eq_false k2]
      have : (if y.kind = 1 then -1 else if y.kind = 6 then -1 else endsFrom (Q : Int) (l.drop (i + 1)) (i + 1)) ≠ (i : Int) := by
        split
        · omega
        · split
          · omega
          · intro h
            have := (ends_at h).1
            omega
      rw [beq_false_of_ne this]
      simp
  refine ⟨?_, fun c hc hf => ?_⟩
  · rw [cntF_const (by omega) (Nat.le_refl _), h1, hpe]
    by_cases k2 : y.kind = 2 <;> simp [k2]
  · obtain ⟨b, x, hb, hx, hk1, rfl⟩ := calls_mem (Nat.le_refl _) hc
    have hf' := hf
    rw [callAt_fin] at hf'
    obtain ⟨hbi, z, hz, hzt, hz2⟩ := ends_at hf'
    rw [hy] at hz
    injection hz with hz
    subst hz
    have hmi : callAt l b x ∈ callsP l i := by
      have : ∀ k, b < k → k ≤ l.length → callAt l b x ∈ callsP l k := by
        intro k
        induction k with
        | zero => intro h; omega
        | succ k ih =>
          intro h h'
          by_cases hbk : b = k
          · subst hbk
            have hgd : l.getD b zEn = x := by rw [List.getD_eq_getElem?_getD, hx]; rfl
            rw [callsP, hgd, if_pos hk1]
            exact List.mem_append.2 (.inr (List.mem_singleton.2 rfl))
          · have := ih (by omega) (by omega)
            rw [callsP]
            split
            · exact List.mem_append.2 (.inl this)
            · exact this
      exact this i hbi (by omega)
    refine ⟨?_, ?_, ?_, ?_⟩
    · rw [callAt_done, hf, decide_eq_true (by omega)]
    · rw [h2 _ hmi hf]
      exact (hst.k2 hz2).2.2.1
    · rw [callAt_task, hzt]
    · rw [callAt_beg]; exact hbi

/-- A call that nothing answered: what is known at each place behind it, where no ending has come. -/
def OpenAt (l : List En) (Q : Nat) (j : Nat) : Prop := ((sAt initS l j).getD Q zPS).there = true ∧ ((sAt initS l j).getD Q zPS).calling = true ∧ endsFrom Q (l.drop j) j < 0
theorem open_start {l : List En} (hr : (runP initS l).2.1 = 0) {c : Cl} (hc : c ∈ callsP l l.length) (hd : c.done = false) : ∃ Q : Nat, c.task = (Q : Int) ∧ c.beg < l.length ∧ OpenAt l Q (c.beg + 1) := by
  obtain ⟨b, x, hb, hx, hk1, rfl⟩ := calls_mem (Nat.le_refl _) hc
  have hE := (runP_all hr).2 b x hx
  obtain ⟨Q, hQ, _⟩ := theres_step (sAt_len l b) hE
  have hst := ((entS_at (Q := Q) (sAt_len l b) hE).2 hQ).k1 hk1
  rw [callAt_done, callAt_fin] at hd
  have hd' : ¬ 0 ≤ endsFrom x.task (l.drop (b + 1)) (b + 1) := of_decide_eq_false hd
  refine ⟨Q, by rw [callAt_task, hQ], by rw [callAt_beg]; exact hb, ?_⟩
  rw [callAt_beg]
  unfold OpenAt
  rw [sAt_succ hx, ← hQ]
  exact ⟨hst.2.2.1, hst.2.2.2.1, by omega⟩
theorem open_step {l : List En} (hr : (runP initS l).2.1 = 0) {j Q : Nat} {x : En} (hx : l[j]? = some x) (h : OpenAt l Q j) :
    (x.task ≠ (Q : Int) → OpenAt l Q (j + 1)) ∧ (x.task = (Q : Int) → x.kind ≠ 1 ∧ (x.kind ≠ 6 → OpenAt l Q (j + 1))) := by
  have hE := (runP_all hr).2 j x hx
  obtain ⟨h1, h2, h3⟩ := h
  rw [drop_cons_of hx, endsFrom] at h3
  obtain ⟨hne, heq⟩ := entS_at (Q := Q) (sAt_len l j) hE
  unfold OpenAt
  rw [sAt_succ hx]
  refine ⟨fun ht => ?_, fun ht => ?_⟩
  · rw [if_neg ht] at h3
    rw [hne ht]
    exact ⟨h1, h2, h3⟩
  · rw [if_pos ht] at h3
    have hst := heq ht
    have k1 : x.kind ≠ 1 := fun k1 => by have := (hst.k1 k1).2.1; rw [h2] at this; exact absurd this (by decide)
    refine ⟨k1, fun k6 => ?_⟩
    have k2 : x.kind ≠ 2 := fun k2 => by rw [if_pos k2] at h3; omega
    have k3 : x.kind ≠ 3 := fun k3 => by have := (hst.k3 k3).1; rw [h1] at this; exact absurd this (by decide)
    rw [if_neg k2, if_neg k1, if_neg k6] at h3
    obtain ⟨g1, g2, _⟩ := hst.ko k1 k2 k3 k6
    exact ⟨g1.trans h1, g2.trans h2, h3⟩

end Go.Proofs.Ytdejceojhkdjnaa
