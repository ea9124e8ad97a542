/-
  Layer 43, plain: two ends and what is on the way between them; what is read is a beginning of what was written.
  No conditions: plain lemmas.
-/
import Derived.Test.YtfichoekjjcjiaaStQ2
namespace Go.Proofs.Ytfichoekjjcjiaa

/-- One direction: W was written at the one end; what of it is still kept there, what has arrived at the other end. -/
structure Dir (W out : List UInt8) (base : Int) (cx dx : Bool) (inn : List UInt8) (next : Int) (ey cy : Bool) (rd : List UInt8) (over : Bool) (sx sy : List Pk) (i : Int) (m b : Nat) : Prop where
  fb : base = b
  bm : b ≤ m
  mW : m ≤ W.length
  fo : out = W.drop b
  fn : next = m + (if ey = true then 1 else 0)
  fe : ey = true → cx = true ∧ m = W.length
  fd : dx = true → ey = true
  fr : cy = false → rd ++ inn = W.take m
  fp : rd <+: W
  fv : over = true → rd = W ∧ cx = true
  fx : ∀ p ∈ sx, ∃ q : Nat, p.seq = q ∧ q + p.data.length ≤ W.length ∧ p.data = (W.drop q).take p.data.length ∧ p.data.length ≤ 64 ∧ (p.fin = true → cx = true ∧ q + p.data.length = W.length) ∧ p.pair = 1 ∧ p.side = i
  fy : ∀ p ∈ sy, 0 ≤ p.ack ∧ p.ack ≤ next

namespace Dir
variable {W out inn rd : List UInt8} {base next i : Int} {cx dx ey cy over : Bool} {sx sy : List Pk} {m b : Nat}

theorem write (h : Dir W out base cx dx inn next ey cy rd over sx sy i m b) (d : List UInt8) (hc : cx = false) : Dir (W ++ d) (out ++ d) base cx dx inn next ey cy rd over sx sy i m b := by
  have h1 := h.bm
  have h2 := h.mW
  refine ⟨h.fb, h1, by rw [List.length_append]; omega, ?_, h.fn, fun e => ?_, h.fd, fun e => ?_, ?_, fun e => ?_, fun p hp => ?_, h.fy⟩
  · rw [h.fo, List.drop_append_of_le_length (by omega)]
  · have := (h.fe e).1; rw [hc] at this; cases this
  · rw [List.take_append_of_le_length h2]; exact h.fr e
  · exact h.fp.trans (List.prefix_append _ _)
  · have := (h.fv e).2; rw [hc] at this; cases this
  · obtain ⟨q, a1, a2, a3, a4, a5, a6⟩ := h.fx p hp
    refine ⟨q, a1, by rw [List.length_append]; omega, ?_, a4, fun e => ?_, a6⟩
    · rw [List.drop_append_of_le_length (by omega), List.take_append_of_le_length (by rw [List.length_drop]; omega)]
      exact a3
    · have := (a5 e).1; rw [hc] at this; cases this

theorem close (h : Dir W out base cx dx inn next ey cy rd over sx sy i m b) : Dir W out base true dx inn next ey cy rd over sx sy i m b :=
  ⟨h.fb, h.bm, h.mW, h.fo, h.fn, fun e => ⟨rfl, (h.fe e).2⟩, h.fd, h.fr, h.fp, fun e => ⟨(h.fv e).1, rfl⟩, fun p hp => by
    obtain ⟨q, a1, a2, a3, a4, a5, a6⟩ := h.fx p hp
    exact ⟨q, a1, a2, a3, a4, fun e => ⟨rfl, (a5 e).2⟩, a6⟩, h.fy⟩

theorem closeR (h : Dir W out base cx dx inn next ey cy rd over sx sy i m b) (inn' : List UInt8) : Dir W out base cx dx inn' next ey true rd over sx sy i m b :=
  ⟨h.fb, h.bm, h.mW, h.fo, h.fn, h.fe, h.fd, fun e => (by cases e), h.fp, h.fv, h.fx, h.fy⟩

theorem send (h : Dir W out base cx dx inn next ey cy rd over sx sy i m b) (ack : Int) (fin : Bool) (hf : fin = true → cx = true ∧ out.length ≤ 64) :
    Dir W out base cx dx inn next ey cy rd over (sx ++ [⟨1, i, base, ack, fin, out.take 64⟩]) sy i m b :=
  ⟨h.fb, h.bm, h.mW, h.fo, h.fn, h.fe, h.fd, h.fr, h.fp, h.fv, fun p hp => by
    rcases List.mem_append.1 hp with hp | hp
    · exact h.fx p hp
    · rw [List.mem_singleton] at hp
      subst hp
      have hbm := h.bm
      have hmW := h.mW
      have hl : out.length = W.length - b := by rw [h.fo, List.length_drop]
      have hl2 : (out.take 64).length = min 64 (W.length - b) := by rw [List.length_take, hl]
      refine ⟨b, h.fb, ?_, ?_, ?_, fun e => ⟨(hf e).1, ?_⟩, rfl, rfl⟩
      · show b + (out.take 64).length ≤ W.length
        omega
      · show out.take 64 = (W.drop b).take (out.take 64).length
        rw [hl2, ← h.fo, List.take_eq_take_iff.2]
        rw [hl]
        omega
      · show (out.take 64).length ≤ 64
        omega
      · show b + (out.take 64).length = W.length
        have := (hf e).2
        omega, h.fy⟩

theorem sendR (h : Dir W out base cx dx inn next ey cy rd over sx sy i m b) (p : Pk) (hp : p.ack = next) : Dir W out base cx dx inn next ey cy rd over sx (sy ++ [p]) i m b :=
  ⟨h.fb, h.bm, h.mW, h.fo, h.fn, h.fe, h.fd, h.fr, h.fp, h.fv, h.fx, fun p' hp' => by
    rcases List.mem_append.1 hp' with hp' | hp'
    · exact h.fy p' hp'
    · rw [List.mem_singleton] at hp'
      subst hp'
      rw [hp, h.fn]
      split <;> omega⟩

theorem readR (h : Dir W out base cx dx inn next ey cy rd over sx sy i m b) (n : Nat) (hn : 1 ≤ n) (hc : cy = false) (he : inn.length = 0 → ey = true) :
    Dir W out base cx dx (inn.drop (min n inn.length)) next ey cy (rd ++ inn.take (min n inn.length)) (over || decide ((inn.take (min n inn.length)).length = 0)) sx sy i m b := by
  have hrd := h.fr hc
  refine ⟨h.fb, h.bm, h.mW, h.fo, h.fn, h.fe, h.fd, fun _ => ?_, ?_, fun e => ?_, h.fx, h.fy⟩
  · rw [List.append_assoc, List.take_append_drop]; exact hrd
  · have h1 : rd ++ inn.take (min n inn.length) <+: rd ++ inn := by
      rw [List.prefix_append_right_inj]
      exact List.take_prefix _ _
    rw [hrd] at h1
    exact h1.trans (List.take_prefix _ _)
  · rw [Bool.or_eq_true] at e
    rcases e with e | e
    · obtain ⟨e1, e2⟩ := h.fv e
      have hl := congrArg List.length hrd
      rw [List.length_append, List.length_take, e1] at hl
      have : inn = [] := List.eq_nil_of_length_eq_zero (by omega)
      rw [this]
      exact ⟨by simpa using e1, e2⟩
    · have hl : (inn.take (min n inn.length)).length = 0 := by simpa using e
      rw [List.length_take] at hl
      have h0 : inn.length = 0 := by omega
      have hi : inn = [] := List.eq_nil_of_length_eq_zero h0
      obtain ⟨e1, e2⟩ := h.fe (he h0)
      rw [hi] at hrd ⊢
      rw [e2, List.take_length] at hrd
      exact ⟨by simpa using hrd, e1⟩

theorem ack (h : Dir W out base cx dx inn next ey cy rd over sx sy i m b) {e : E} {p : Pk} (hp : p ∈ sy) (ho : e.out = out) (hb : e.base = base) (hc : e.closed = cx) (hd : e.done = dx) :
    Dir W (ackE e p.ack).out (ackE e p.ack).base cx (ackE e p.ack).done inn next ey cy rd over sx sy i m (b + ackN e p.ack) := by
  obtain ⟨a1, a2⟩ := h.fy p hp
  have hbm := h.bm
  have hmW := h.mW
  have hbb := h.fb
  have hn := h.fn
  have hl : out.length = W.length - b := by rw [h.fo, List.length_drop]
  have hend := h.fe
  have hN : b + ackN e p.ack ≤ m := by
    unfold ackN
    rw [hb, ho]
    split
    · cases ey
      · simp only [Bool.false_eq_true, if_false] at hn
        omega
      · have := (hend rfl).2
        omega
    · omega
  refine ⟨?_, hN, hmW, ?_, hn, hend, fun hdn => ?_, h.fr, h.fp, h.fv, h.fx, h.fy⟩
  · show e.base + ackN e p.ack = ((b + ackN e p.ack : Nat) : Int)
    rw [hb, hbb]
    omega
  · show e.out.drop (ackN e p.ack) = _
    rw [ho, h.fo, List.drop_drop]
  · have hdn : (e.done || ackF e p.ack) = true := hdn
    rw [Bool.or_eq_true] at hdn
    rcases hdn with h1 | h1
    · exact h.fd (by rw [← hd]; exact h1)
    · unfold ackF at h1
      simp only [Bool.and_eq_true, decide_eq_true_eq] at h1
      have l0 : (e.out.drop (ackN e p.ack)).length = 0 := h1.1.2
      have l1 : p.ack = e.base + ackN e p.ack + 1 := h1.2
      rw [List.length_drop, ho] at l0
      rw [hb, hbb] at l1
      cases ey
      · simp only [Bool.false_eq_true, if_false] at hn
        omega
      · rfl

theorem take (h : Dir W out base cx dx inn next ey cy rd over sx sy i m b) {e : E} {p : Pk} (hp : p ∈ sx) (hi : e.inn = inn) (hn : e.next = next) (he : e.ended = ey) (hc : e.closed = cy) :
    ∃ m', Dir W out base cx dx (takeE e p).inn (takeE e p).next (takeE e p).ended cy rd over sx sy i m' b := by
  by_cases hno : takeNo e p
  · have ht : takeE e p = e := by unfold takeE; rw [if_pos hno]
    rw [ht, hi, hn, he]
    exact ⟨m, h⟩
  · obtain ⟨q, a1, a2, a3, a4, a5, a6⟩ := h.fx p hp
    have hey : ey = false := by
      rw [← he]
      cases hx : e.ended with
      | false => rfl
      | true => exact absurd (Or.inr (Or.inr hx)) hno
    have hnm : e.next = m := by rw [hn, h.fn, hey]; simp
    have h1 : ¬ e.next < p.seq := fun hx => hno (.inl hx)
    have h2 : ¬ p.seq + p.data.length < e.next := fun hx => hno (.inr (.inl hx))
    have hfr : fresh e p = (W.drop m).take (q + p.data.length - m) := by
      unfold fresh
      rw [hnm, a1, show ((m : Int) - q).toNat = m - q by omega, a3, List.drop_take, List.drop_drop, List.length_take, List.length_drop]
      rw [show q + (m - q) = m by omega]
      congr 1
      omega
    have hfl : (fresh e p).length = q + p.data.length - m := by
      rw [hfr, List.length_take, List.length_drop]; omega
    have hNl : takeN e p ≤ (fresh e p).length := by unfold takeN; split <;> omega
    have hbm := h.bm
    refine ⟨m + takeN e p, ?_⟩
    have ht : takeE e p = { e with inn := takeI e p, next := if takeX e p = true then e.next + takeN e p + 1 else e.next + takeN e p, ended := takeX e p } := by unfold takeE; rw [if_neg hno]
    have hX : takeX e p = true → cx = true ∧ m + takeN e p = W.length := fun hx => by
      unfold takeX at hx
      simp only [Bool.and_eq_true, decide_eq_true_eq] at hx
      have := a5 hx.2
      exact ⟨this.1, by omega⟩
    rw [ht]
    dsimp only
    refine ⟨h.fb, by omega, by omega, h.fo, ?_, hX, fun hd => ?_, fun hcy => ?_, h.fp, h.fv, h.fx, fun p' hp' => ?_⟩
    · rw [hnm]
      split <;> omega
    · have := h.fd hd
      rw [hey] at this
      cases this
    · unfold takeI
      rw [hc, hcy, if_neg (by simp), ← List.append_assoc, hi, h.fr hcy, hfr, List.take_take, Nat.min_eq_left (by omega), ← List.take_add]
    · obtain ⟨b1, b2⟩ := h.fy p' hp'
      refine ⟨b1, ?_⟩
      rw [← hn] at b2
      split <;> omega
end Dir

end Go.Proofs.Ytfichoekjjcjiaa
