/-
  Layer 43, plain: writing and reading in parts.
  No conditions: plain lemmas.
-/
import Derived.Test.YtfichoekjjcjiaaStQ2
namespace Go.Proofs.Ytfichoekjjcjiaa

theorem write_cases (e : E) (d : List UInt8) : (¬ VE e ∧ writeE e d = (zE, 1)) ∨ (VE e ∧ e.closed = true ∧ writeE e d = (zE, 7)) ∨ (VE e ∧ e.closed = false ∧ 128 < e.out.length + d.length ∧ writeE e d = (zE, 13)) ∨
    (VE e ∧ e.closed = false ∧ e.out.length + d.length ≤ 128 ∧ writeE e d = ({ e with out := e.out ++ d, due := e.due || decide (0 < d.length) }, 0)) := by
  unfold writeE
  by_cases hv : VE e
  · by_cases hc : e.closed = true
    · exact .inr (.inl ⟨hv, hc, by rw [if_neg (fun h => h hv), if_pos hc]⟩)
    · have hc' : e.closed = false := by simpa using hc
      by_cases hl : 128 < e.out.length + d.length
      · exact .inr (.inr (.inl ⟨hv, hc', hl, by rw [if_neg (fun h => h hv), if_neg hc, if_pos hl]⟩))
      · exact .inr (.inr (.inr ⟨hv, hc', by omega, by rw [if_neg (fun h => h hv), if_neg hc, if_neg hl]⟩))
  · exact .inl ⟨hv, by rw [if_pos hv]⟩

/-- Writing in two parts. -/
theorem write_parts {x wh o t : E} {d : List UInt8} {k : Nat} {e f g : Int} (hk : k ≤ d.length) (h1 : writeE x d = (wh, e)) (h2 : writeE x (d.take k) = (o, f)) (h3 : writeE o (d.drop k) = (t, g)) :
    (e = 0 ∧ f = 0 ∧ g = 0 ∧ wh = t) ∨ (e ≠ 0 ∧ (f ≠ 0 ∨ g ≠ 0)) := by
  have hlt : (d.take k).length = k := by rw [List.length_take]; omega
  have hld : (d.drop k).length = d.length - k := by rw [List.length_drop]
  rcases write_cases x d with ⟨hv, he⟩ | ⟨hv, hc, he⟩ | ⟨hv, hc, hl, he⟩ | ⟨hv, hc, hl, he⟩
  · rw [h1] at he
    injection he with _ he
    rcases write_cases x (d.take k) with ⟨_, h⟩ | ⟨h, _⟩ | ⟨h, _⟩ | ⟨h, _⟩
    · rw [h2] at h
      injection h with _ h
      exact .inr ⟨by omega, .inl (by omega)⟩
    all_goals exact absurd h hv
  · rw [h1] at he
    injection he with _ he
    rcases write_cases x (d.take k) with ⟨h, _⟩ | ⟨_, _, h⟩ | ⟨_, h, _⟩ | ⟨_, h, _⟩
    · exact absurd hv h
    · rw [h2] at h
      injection h with _ h
      exact .inr ⟨by omega, .inl (by omega)⟩
    all_goals rw [hc] at h; cases h
  · rw [h1] at he
    injection he with _ he
    refine .inr ⟨by omega, ?_⟩
    rcases write_cases x (d.take k) with ⟨h, _⟩ | ⟨_, h, _⟩ | ⟨_, _, _, h⟩ | ⟨_, _, hl', h⟩
    · exact absurd hv h
    · rw [hc] at h; cases h
    · rw [h2] at h
      injection h with _ h
      exact .inl (by omega)
    · have h0 := h
      rw [h2] at h
      injection h with ho hf
      have hvo : VE o := write_valid (by rw [h0, ← ho])
      refine .inr ?_
      rcases write_cases o (d.drop k) with ⟨h, _⟩ | ⟨_, h, _⟩ | ⟨_, _, _, h⟩ | ⟨_, _, h, _⟩
      · exact absurd hvo h
      · rw [ho] at h
        rw [show x.closed = true from h] at hc
        cases hc
      · rw [h3] at h
        injection h with _ h
        omega
      · rw [ho] at h
        have h : (x.out ++ d.take k).length + (d.drop k).length ≤ 128 := h
        rw [List.length_append] at h
        omega
  · rw [h1] at he
    injection he with hw he
    refine .inl ⟨he, ?_⟩
    rcases write_cases x (d.take k) with ⟨h, _⟩ | ⟨_, h, _⟩ | ⟨_, _, h, _⟩ | ⟨_, _, hl', h⟩
    · exact absurd hv h
    · rw [hc] at h; cases h
    · omega
    · have h0 := h
      rw [h2] at h
      injection h with ho hf
      have hvo : VE o := write_valid (by rw [h0, ← ho])
      rcases write_cases o (d.drop k) with ⟨h, _⟩ | ⟨_, h, _⟩ | ⟨_, _, h, _⟩ | ⟨_, _, _, h⟩
      · exact absurd hvo h
      · rw [ho] at h
        rw [show x.closed = true from h] at hc
        cases hc
      · rw [ho] at h
        have h : 128 < (x.out ++ d.take k).length + (d.drop k).length := h
        rw [List.length_append] at h
        omega
      · rw [h3] at h
        injection h with ht hg
        refine ⟨hf, hg, ?_⟩
        rw [hw, ht, ho]
        have e1 : x.out ++ d.take k ++ d.drop k = x.out ++ d := by rw [List.append_assoc, List.take_append_drop]
        have e2 : (x.due || decide (0 < (d.take k).length) || decide (0 < (d.drop k).length)) = (x.due || decide (0 < d.length)) := by
          rw [hlt, hld, Bool.or_assoc]
          congr 1
          by_cases h0 : 0 < d.length
          · rw [decide_eq_true h0]
            by_cases hk0 : 0 < k
            · rw [decide_eq_true hk0, Bool.true_or]
            · rw [decide_eq_true (show 0 < d.length - k by omega), Bool.or_true]
          · rw [decide_eq_false h0, decide_eq_false (show ¬ 0 < k by omega), decide_eq_false (show ¬ 0 < d.length - k by omega)]
            rfl
        dsimp only
        rw [e1, e2]

/-- Reading in two parts. -/
theorem read_parts {x al o : E} {s t : List UInt8} {n m : Nat} {e f : Int} (hn : 1 ≤ n) (hm : 1 ≤ m) (hl : n + m ≤ x.inn.length) (h1 : readE x ((n + m : Nat) : Int) = (al, s, e)) (h2 : readE x (n : Int) = (o, t, f)) :
    e = f ∧ (e = 0 → ∃ tw u, readE o (m : Int) = (tw, u, 0) ∧ s = t ++ u ∧ s.length = n + m ∧ al = tw) := by
  unfold readE at h1 h2
  by_cases hv : VE x
  rotate_left
  · rw [if_pos (.inl hv)] at h1 h2
    injection h1 with _ h1
    injection h1 with _ h1
    injection h2 with _ h2
    injection h2 with _ h2
    exact ⟨by omega, fun h => by omega⟩
  rw [if_neg (fun h => by rcases h with h | h; exact h hv; omega)] at h1 h2
  by_cases hc : x.closed = true
  · rw [if_pos hc] at h1 h2
    injection h1 with _ h1
    injection h1 with _ h1
    injection h2 with _ h2
    injection h2 with _ h2
    exact ⟨by omega, fun h => by omega⟩
  rw [if_neg hc, if_neg (fun h => by have := h.1; omega)] at h1 h2
  have hc' : x.closed = false := by simpa using hc
  rw [Int.toNat_natCast, Nat.min_eq_left hl] at h1
  rw [Int.toNat_natCast, Nat.min_eq_left (by omega)] at h2
  injection h1 with ha h1
  injection h1 with hs he
  injection h2 with ho h2
  injection h2 with ht hf
  refine ⟨by omega, fun _ => ?_⟩
  have hvo : VE o := by
    rw [← ho]
    obtain ⟨v1, v2, v3, v4, v5, v6⟩ := hv
    refine ⟨v1, ?_, v3, v4, v5, fun h => ?_⟩
    · show (x.inn.drop n).length ≤ 128
      rw [List.length_drop]; omega
    · rw [show x.closed = true from h] at hc'; cases hc'
  have hoi : o.inn = x.inn.drop n := by rw [← ho]
  have hol : o.inn.length = x.inn.length - n := by rw [hoi, List.length_drop]
  have hoc : o.closed = false := by rw [← ho]; exact hc'
  refine ⟨{ o with due := o.due || decide (o.inn.length = 128), inn := o.inn.drop m }, o.inn.take m, ?_, ?_, ?_, ?_⟩
  · unfold readE
    rw [if_neg (fun h => by rcases h with h | h; exact h hvo; omega), if_neg (by rw [hoc]; simp), if_neg (fun h => by have := h.1; omega), Int.toNat_natCast, Nat.min_eq_left (by omega)]
  · rw [← hs, ← ht, hoi, List.take_add]
  · rw [← hs, List.length_take]; omega
  · have hd : decide (o.inn.length = 128) = false := by
      rw [decide_eq_false_iff_not]
      have := hv.2.1
      omega
    rw [hd, Bool.or_false, hoi, List.drop_drop, ← ha]
    rw [← ho]

end Go.Proofs.Ytfichoekjjcjiaa
