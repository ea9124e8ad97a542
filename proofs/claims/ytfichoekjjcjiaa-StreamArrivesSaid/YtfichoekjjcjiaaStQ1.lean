/-
  Layer 43, plain: receiving keeps an end valid; a packet that is received a second time changes nothing.
  No conditions: plain lemmas.
-/
import Derived.Test.YtfichoekjjcjiaaStW6
namespace Go.Proofs.Ytfichoekjjcjiaa

theorem ack1_valid {e : E} (ack : Int) (h : VE e) : (ackE e ack).out.length ≤ 128 ∧ ((ackE e ack).done = true → (ackE e ack).closed = true ∧ (ackE e ack).out.length = 0) ∧ 0 ≤ (ackE e ack).base := by
  obtain ⟨h1, h2, h3, h4, h5, h6⟩ := h
  refine ⟨?_, ?_, ?_⟩
  · show (e.out.drop (ackN e ack)).length ≤ 128
    rw [List.length_drop]
    omega
  · intro hd
    have hd : (e.done || ackF e ack) = true := hd
    rw [Bool.or_eq_true] at hd
    show e.closed = true ∧ (e.out.drop (ackN e ack)).length = 0
    rcases hd with hd | hd
    · obtain ⟨h7, h8⟩ := h5 hd
      refine ⟨h7, ?_⟩
      rw [List.length_drop]
      omega
    · unfold ackF at hd
      simp only [Bool.and_eq_true, decide_eq_true_eq] at hd
      exact ⟨hd.1.1.1, hd.1.2⟩
  · show 0 ≤ e.base + ackN e ack
    omega
theorem take_valid {e : E} (p : Pk) (hi : e.inn.length ≤ 128) (hn : 0 ≤ e.next) (hc : e.closed = true → e.inn.length = 0) :
    (takeE e p).inn.length ≤ 128 ∧ 0 ≤ (takeE e p).next ∧ ((takeE e p).closed = true → (takeE e p).inn.length = 0) ∧ (takeE e p).closed = e.closed ∧ (takeE e p).done = e.done ∧ (takeE e p).base = e.base := by
  unfold takeE
  split
  · exact ⟨hi, hn, hc, rfl, rfl, rfl⟩
  · refine ⟨?_, ?_, ?_, rfl, rfl, rfl⟩
    · dsimp only
      unfold takeI takeN
      by_cases h : e.closed = true
      · rw [if_pos h]; exact hi
      · rw [if_neg h, if_neg h, List.length_append, List.length_take]
        omega
    · dsimp only
      split <;> omega
    · intro h
      have h : e.closed = true := h
      dsimp only
      unfold takeI
      rw [if_pos h]
      exact hc h

theorem recv_ok {e a : E} {p : Pk} (h : recvE e p = (a, 0)) : VE e ∧ VP p ∧ ¬ (1099511626776 < (recv1 e p).base ∨ 1099511626776 < (recv1 e p).next) ∧ a = { recv1 e p with due := (recv1 e p).due || decide (0 < p.data.length) || p.fin } := by
  unfold recvE at h
  split at h
  · injection h with _ h; cases h
  · rename_i hv
    split at h
    · injection h with _ h; cases h
    · rename_i hr
      injection h with h _
      have hv' : VE e ∧ VP p := Decidable.byContradiction hv
      exact ⟨hv'.1, hv'.2, hr, h.symm⟩
theorem recv_no {e a : E} {p : Pk} {n : Int} (h : recvE e p = (a, n)) (hn : n ≠ 0) : a = zE := by
  unfold recvE at h
  split at h
  · injection h with h _; exact h.symm
  · split at h
    · injection h with h _; exact h.symm
    · injection h with _ h; exact absurd h.symm hn
theorem recv_err {e a : E} {p : Pk} {n : Int} (h : recvE e p = (a, n)) : n = 0 ∨ n = 1 ∨ n = 2 := by
  unfold recvE at h
  split at h
  · injection h with _ h; exact .inr (.inl h.symm)
  · split at h
    · injection h with _ h; exact .inr (.inr h.symm)
    · injection h with _ h; exact .inl h.symm

theorem recv_valid {e a : E} {p : Pk} (h : recvE e p = (a, 0)) : VE a := by
  obtain ⟨hv, hp, hr, rfl⟩ := recv_ok h
  obtain ⟨a1, a2, a3⟩ := ack1_valid p.ack hv
  have hv' := hv
  obtain ⟨h1, h2, h3, h4, h5, h6⟩ := hv
  obtain ⟨b1, b2, b3, b4, b5, b6⟩ := take_valid (e := ackE e p.ack) p h2 h4.1 h6
  have ho := take_out (ackE e p.ack) p
  have e1 : recv1 e p = takeE (ackE e p.ack) p := rfl
  rw [e1] at hr ⊢
  refine ⟨?_, b1, ?_, ?_, ?_, b3⟩
  · show (takeE (ackE e p.ack) p).out.length ≤ 128
    rw [ho]; exact a1
  · show 0 ≤ (takeE (ackE e p.ack) p).base ∧ (takeE (ackE e p.ack) p).base ≤ 1099511626776
    rw [b6] at hr ⊢
    omega
  · show 0 ≤ (takeE (ackE e p.ack) p).next ∧ (takeE (ackE e p.ack) p).next ≤ 1099511626776
    omega
  · show (takeE (ackE e p.ack) p).done = true → (takeE (ackE e p.ack) p).closed = true ∧ (takeE (ackE e p.ack) p).out.length = 0
    rw [b4, b5, ho]
    exact a2

theorem ack_twice {e a : E} {ack : Int} (ho : a.out = (ackE e ack).out) (hb : a.base = (ackE e ack).base) (hc : a.closed = (ackE e ack).closed) (hd : a.done = (ackE e ack).done) : ackE a ack = a := by
  have ho : a.out = e.out.drop (ackN e ack) := ho
  have hb : a.base = e.base + ackN e ack := hb
  have hc : a.closed = e.closed := hc
  have hd : a.done = (e.done || ackF e ack) := hd
  have hl : a.out.length = e.out.length - ackN e ack := by rw [ho, List.length_drop]
  have hN : ackN a ack = 0 := by
    unfold ackN at hb hl ⊢
    by_cases h : e.base < ack
    · rw [if_pos h] at hb hl
      split <;> omega
    · rw [if_neg h] at hb
      rw [if_neg (by omega)]
  have h1 : ack1 a ack = a := by
    unfold ack1
    rw [hN]
    obtain ⟨out, base, closed, done, inn, next, ended, due⟩ := a
    simp
  have hF : ackF a ack = false := by
    have hFe : ackF e ack = (e.closed && !e.done && decide (a.out.length = 0) && decide (ack = a.base + 1)) := by
      unfold ackF
      have e1 : (ack1 e ack).out = a.out := ho.symm
      have e2 : (ack1 e ack).base = a.base := hb.symm
      rw [e1, e2]
    unfold ackF
    rw [h1, hc, hd, hFe]
    generalize decide (a.out.length = 0) = x
    generalize decide (ack = a.base + 1) = y
    cases e.closed <;> cases e.done <;> cases x <;> cases y <;> rfl
  have h2 : ack2 a ack = a := by
    unfold ack2
    rw [h1, hF]
    obtain ⟨out, base, closed, done, inn, next, ended, due⟩ := a
    simp
  unfold ackE ackC
  rw [h2, hN, hF]
  obtain ⟨out, base, closed, done, inn, next, ended, due⟩ := a
  simp

theorem take_twice {e a : E} {p : Pk} (hi : e.inn.length ≤ 128) (h1 : a.inn = (takeE e p).inn) (h2 : a.next = (takeE e p).next) (h3 : a.ended = (takeE e p).ended) (h4 : a.closed = e.closed) : takeE a p = a := by
  by_cases hno : takeNo e p
  · have he : takeE e p = e := by unfold takeE; rw [if_pos hno]
    rw [he] at h1 h2 h3
    have : takeNo a p := by unfold takeNo at hno ⊢; rw [h2, h3]; exact hno
    unfold takeE
    rw [if_pos this]
  · have he : takeE e p = { e with inn := takeI e p, next := if takeX e p = true then e.next + takeN e p + 1 else e.next + takeN e p, ended := takeX e p } := by unfold takeE; rw [if_neg hno]
    rw [he] at h1 h2 h3
    dsimp only at h1 h2 h3
    by_cases hx : takeX e p = true
    · have : takeNo a p := by unfold takeNo; exact .inr (.inr (by rw [h3, hx]))
      unfold takeE
      rw [if_pos this]
    · rw [if_neg hx] at h2
      have hx' : takeX e p = false := by simpa using hx
      rw [hx'] at h3
      have hno' := hno
      unfold takeNo at hno'
      have hfl : (fresh e p).length = p.data.length - (e.next - p.seq).toNat := by unfold fresh; rw [List.length_drop]
      have hNl : takeN e p ≤ (fresh e p).length := by unfold takeN; split <;> omega
      have hfa : (fresh a p).length = (fresh e p).length - takeN e p := by
        unfold fresh
        rw [List.length_drop, List.length_drop, h2]
        omega
      have hil : a.closed = false → a.inn.length = e.inn.length + takeN e p := by
        intro hc
        rw [h4] at hc
        rw [h1]
        unfold takeI
        rw [if_neg (by rw [hc]; simp), List.length_append, List.length_take]
        omega
      have hN : takeN a p = 0 := by
        by_cases hc : a.closed = true
        · unfold takeN
          rw [if_pos hc, hfa]
          have : takeN e p = (fresh e p).length := by unfold takeN; rw [if_pos (by rw [← h4]; exact hc)]
          omega
        · have hl := hil (by simpa using hc)
          have : takeN e p = min (fresh e p).length (128 - e.inn.length) := by unfold takeN; rw [if_neg (by rw [← h4]; exact hc)]
          unfold takeN
          rw [if_neg hc, hfa, hl]
          omega
      have hX : takeX a p = false := by
        unfold takeX at hx' ⊢
        rw [hN, hfa]
        cases hf : p.fin
        · simp
        · rw [hf] at hx'
          simp only [Bool.and_true, decide_eq_false_iff_not] at hx' ⊢
          omega
      have hI : takeI a p = a.inn := by
        unfold takeI
        rw [hN]
        split
        · rfl
        · simp
      unfold takeE
      split
      · rfl
      · rw [hI, hN, hX, if_neg (by simp)]
        obtain ⟨out, base, closed, done, inn, next, ended, due⟩ := a
        dsimp only at h3
        subst h3
        simp

theorem recv_twice {e a : E} {p : Pk} (h : recvE e p = (a, 0)) : recvE a p = (a, 0) := by
  have hva := recv_valid h
  obtain ⟨hv, hp, hr, ha⟩ := recv_ok h
  obtain ⟨b1, b2, b3, b4, b5, b6⟩ := take_valid (e := ackE e p.ack) p hv.2.1 hv.2.2.2.1.1 hv.2.2.2.2.2
  have ho := take_out (ackE e p.ack) p
  have hA : ackE a p.ack = a := ack_twice (e := e) (by rw [ha]; exact ho) (by rw [ha]; exact b6) (by rw [ha]; exact b4) (by rw [ha]; exact b5)
  have hT : takeE a p = a := take_twice (e := ackE e p.ack) hv.2.1 (by rw [ha]; rfl) (by rw [ha]; rfl) (by rw [ha]; rfl) (by rw [ha]; exact b4)
  have h1 : recv1 a p = a := by unfold recv1; rw [hA, hT]
  unfold recvE
  rw [if_neg (fun h => h ⟨hva, hp⟩), h1, if_neg (by have := hva.2.2.1; have := hva.2.2.2.1; omega)]
  have hd : (a.due || decide (0 < p.data.length) || p.fin) = a.due := by
    have : a.due = ((recv1 e p).due || decide (0 < p.data.length) || p.fin) := by rw [ha]
    rw [this]
    cases (recv1 e p).due <;> cases decide (0 < p.data.length) <;> cases p.fin <;> rfl
  rw [hd]

end Go.Proofs.Ytfichoekjjcjiaa
