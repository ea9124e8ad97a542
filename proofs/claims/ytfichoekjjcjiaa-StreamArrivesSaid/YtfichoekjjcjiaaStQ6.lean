/-
  Plain: the rounds of StreamArrives: what one end sends again and again arrives.
  No program here.
-/
import Derived.Test.YtfichoekjjcjiaaStQ5
namespace Go.Proofs.Ytfichoekjjcjiaa
open Go.RowKit

/-- The end of the stream rides on the next packet. -/
def finE (e : E) : Bool := e.closed && !e.done && decide (e.out.length ≤ 64)
/-- All that x would send next is there. -/
def Caught (x y : Sd) : Prop := x.e.base + (x.e.out.take 64).length + (if finE x.e = true then 1 else 0) ≤ y.e.next ∧ (pend x.e = true → y.e.due = true)
/-- Nothing is left to read. -/
def Dry (x : Sd) : Prop := x.e.closed = false → x.e.inn = []
/-- Nothing is left to send. -/
def Fin (x : Sd) : Prop := pend x.e = false

/-- x's turn, as far as x goes. -/
def turnX (i : Int) (x : Sd) : Sd :=
  if (againE x.e).due = true then { x with e := { againE x.e with due := false }, sent := x.sent ++ [⟨1, i, x.e.base, x.e.next, finE x.e, x.e.out.take 64⟩] } else { x with e := againE x.e }
/-- What y makes of it. -/
def turnR (i : Int) (x y : Sd) : Sd := if (againE x.e).due = true then { y with e := (recvE y.e ⟨1, i, x.e.base, x.e.next, finE x.e, x.e.out.take 64⟩).1 } else y
def turnY (i : Int) (x y : Sd) : Sd := (stepS 1 199 [] 0 (turnR i x y) x).1

theorem turnX_e (i : Int) (x : Sd) : (turnX i x).e.out = x.e.out ∧ (turnX i x).e.base = x.e.base ∧ (turnX i x).e.closed = x.e.closed ∧ (turnX i x).e.done = x.e.done ∧ (turnX i x).e.inn = x.e.inn ∧ (turnX i x).e.next = x.e.next ∧ (turnX i x).e.ended = x.e.ended ∧ (turnX i x).e.due = false := by
  unfold turnX
  split
  · exact ⟨rfl, rfl, rfl, rfl, rfl, rfl, rfl, rfl⟩
  · rename_i h
    exact ⟨rfl, rfl, rfl, rfl, rfl, rfl, rfl, by simpa using h⟩

/-- Reading 200 bytes leaves nothing. -/
theorem read_dry {x y : Sd} (hv : VE x.e) : Dry (stepS 1 199 [] 0 x y).1 := by
  unfold stepS
  rw [if_neg (by decide), if_pos rfl]
  have h128 := hv.2.1
  by_cases hf : (readE x.e (1 + ((199 : Nat) : Int))).2.2 = 0
  · rw [if_pos hf]
    obtain ⟨a1, a2, a3, a5, a4⟩ := read_ok hf
    rw [a4]
    intro _
    show x.e.inn.drop (min (1 + ((199 : Nat) : Int)).toNat x.e.inn.length) = []
    rw [List.drop_eq_nil_iff]
    omega
  · rw [if_neg hf]
    intro hc
    unfold readE at hf
    rw [if_neg (fun h => h.elim (fun h => h hv) (by omega)), if_neg (by rw [hc]; decide)] at hf
    split at hf
    · rename_i h0
      exact List.eq_nil_of_length_eq_zero h0.1
    · exact absurd rfl hf

/-- The packet that x sends is wholly there behind its receipt. -/
theorem caught_recv {i : Int} {s r : Sd} {ack : Int} (hf : Flow i s r) (hdry : Dry r) :
    s.e.base + (s.e.out.take 64).length + (if finE s.e = true then 1 else 0) ≤ (recv1 r.e ⟨1, i, s.e.base, ack, finE s.e, s.e.out.take 64⟩).next := by
  obtain ⟨m, b, h⟩ := hf
  have hb := h.fb
  have hbm := h.bm
  have hmW := h.mW
  have hn := h.fn
  have hl : s.e.out.length = s.wr.length - b := by rw [h.fo, List.length_drop]
  have ht : (s.e.out.take 64).length = min 64 s.e.out.length := List.length_take
  have hfin : finE s.e = true → s.e.out.length ≤ 64 := fun e => by
    unfold finE at e
    simp only [Bool.and_eq_true, decide_eq_true_eq] at e
    exact e.2
  obtain ⟨T, hT⟩ : ∃ T, s.e.out.take 64 = T := ⟨_, rfl⟩
  obtain ⟨F, hF⟩ : ∃ F, finE s.e = F := ⟨_, rfl⟩
  rw [hT] at ht ⊢
  rw [hF] at hfin ⊢
  obtain ⟨c, hc⟩ : ∃ c : Int, (if F = true then 1 else 0) = c := ⟨_, rfl⟩
  have hc1 : 0 ≤ c ∧ c ≤ 1 := by rw [← hc]; split <;> omega
  rw [hc]
  unfold recv1 takeE
  by_cases hno : takeNo (ackE r.e ack) ⟨1, i, s.e.base, ack, F, T⟩
  · rw [if_pos hno]
    show s.e.base + T.length + c ≤ r.e.next
    have hno' : r.e.next < s.e.base ∨ s.e.base + T.length < r.e.next ∨ r.e.ended = true := hno
    rcases hno' with h1 | h1 | h1
    · rw [hn, hb] at h1
      split at h1 <;> omega
    · omega
    · have he := (h.fe h1).2
      rw [hn, if_pos h1]
      omega
  · rw [if_neg hno]
    have hno' : ¬ (r.e.next < s.e.base ∨ s.e.base + T.length < r.e.next ∨ r.e.ended = true) := hno
    have hfl : (fresh (ackE r.e ack) ⟨1, i, s.e.base, ack, F, T⟩).length = T.length - (r.e.next - s.e.base).toNat := by
      show (T.drop (r.e.next - s.e.base).toNat).length = _
      rw [List.length_drop]
    have htk : takeN (ackE r.e ack) ⟨1, i, s.e.base, ack, F, T⟩ = T.length - (r.e.next - s.e.base).toNat := by
      unfold takeN
      split
      · exact hfl
      · rename_i hc
        have hi : (ackE r.e ack).inn = [] := hdry (by rw [← show (ackE r.e ack).closed = r.e.closed from rfl]; simpa using hc)
        rw [hfl, hi]
        show min _ (128 - 0) = _
        omega
    have hX : takeX (ackE r.e ack) ⟨1, i, s.e.base, ack, F, T⟩ = F := by
      unfold takeX
      rw [htk, hfl]
      simp
    show s.e.base + T.length + c ≤ (if takeX (ackE r.e ack) ⟨1, i, s.e.base, ack, F, T⟩ = true then r.e.next + takeN (ackE r.e ack) ⟨1, i, s.e.base, ack, F, T⟩ + 1 else r.e.next + takeN (ackE r.e ack) ⟨1, i, s.e.base, ack, F, T⟩)
    rw [hX, htk]
    cases F
    · rw [if_neg (by decide)] at hc ⊢
      omega
    · rw [if_pos rfl] at hc ⊢
      omega

/-- The acknowledgement of all that x would send: 64 bytes go, or all and the end with it. -/
theorem ack_progress {i : Int} {s r : Sd} (hf : Flow i s r) (hc : s.e.base + (s.e.out.take 64).length + (if finE s.e = true then 1 else 0) ≤ r.e.next) :
    (64 < s.e.out.length → (ackE s.e r.e.next).out.length + 64 ≤ s.e.out.length) ∧ (s.e.out.length ≤ 64 → pend (ackE s.e r.e.next) = false) := by
  obtain ⟨m, b, h⟩ := hf
  have hb := h.fb
  have hbm := h.bm
  have hmW := h.mW
  have hn := h.fn
  have hl : s.e.out.length = s.wr.length - b := by rw [h.fo, List.length_drop]
  have ht : (s.e.out.take 64).length = min 64 s.e.out.length := List.length_take
  have hnx : r.e.next ≤ m + 1 := by rw [hn]; split <;> omega
  rw [ht] at hc
  have ho : (ackE s.e r.e.next).out.length = s.e.out.length - ackN s.e r.e.next := by
    show (s.e.out.drop (ackN s.e r.e.next)).length = _
    rw [List.length_drop]
  have hN : ackN s.e r.e.next = if s.e.base < r.e.next then min (r.e.next - s.e.base).toNat s.e.out.length else 0 := rfl
  have hfin : 0 ≤ (if finE s.e = true then (1 : Int) else 0) := by split <;> omega
  constructor
  · intro h64
    rw [ho, hN, if_pos (by omega)]
    omega
  · intro h64
    have hN2 : ackN s.e r.e.next = s.e.out.length := by
      rw [hN]
      split <;> omega
    have ho2 : (ackE s.e r.e.next).out.length = 0 := by rw [ho, hN2]; omega
    have hcl : (ackE s.e r.e.next).closed = s.e.closed := rfl
    have hdn : (ackE s.e r.e.next).done = (s.e.done || ackF s.e r.e.next) := rfl
    unfold pend
    rw [ho2, hcl, hdn]
    cases hcd : s.e.closed
    · simp
    cases hdd : s.e.done
    · have hF : finE s.e = true := by unfold finE; rw [hcd, hdd]; simpa using h64
      rw [if_pos hF] at hc
      have hak : ackF s.e r.e.next = true := by
        unfold ackF
        have e1 : (ack1 s.e r.e.next).out.length = 0 := ho2
        have e2 : (ack1 s.e r.e.next).base = s.e.base + ackN s.e r.e.next := rfl
        rw [hcd, hdd, e1, e2, hN2]
        simp only [Bool.not_false, Bool.and_self, Bool.true_and, decide_true, decide_eq_true_eq]
        omega
      rw [hak]
      simp
    · simp

/-- Reading changes only what can be read, and 'due' upwards. -/
theorem read_same (n : Nat) (x y : Sd) : (stepS 1 n [] 0 x y).1.e.out = x.e.out ∧ (stepS 1 n [] 0 x y).1.e.base = x.e.base ∧ (stepS 1 n [] 0 x y).1.e.closed = x.e.closed ∧ (stepS 1 n [] 0 x y).1.e.done = x.e.done ∧ (stepS 1 n [] 0 x y).1.e.next = x.e.next ∧ (stepS 1 n [] 0 x y).1.e.ended = x.e.ended ∧ (x.e.due = true → (stepS 1 n [] 0 x y).1.e.due = true) ∧ (stepS 1 n [] 0 x y).1.sent = x.sent ∧ (x.e.inn = [] → (stepS 1 n [] 0 x y).1.e.due = x.e.due) := by
  unfold stepS
  rw [if_neg (by decide), if_pos rfl]
  by_cases hf : (readE x.e (1 + (n : Int))).2.2 = 0
  · rw [if_pos hf]
    obtain ⟨a1, a2, a3, a5, a4⟩ := read_ok hf
    rw [a4]
    refine ⟨rfl, rfl, rfl, rfl, rfl, rfl, fun h => ?_, rfl, fun h => ?_⟩
    · show (x.e.due || _) = true
      rw [h, Bool.true_or]
    · show (x.e.due || decide (x.e.inn.length = 128)) = x.e.due
      rw [h]
      simp
  · rw [if_neg hf]
    exact ⟨rfl, rfl, rfl, rfl, rfl, rfl, fun h => h, rfl, fun _ => rfl⟩

/-- The receiver behind the packet: what it has, and that it is due. -/
theorem turnR_caught {B : Nat} {i j : Int} {s r : Sd} (h : Inv2 B i j s r) (hdry : Dry r) (hrv : (againE s.e).due = true → (recvE r.e ⟨1, i, s.e.base, s.e.next, finE s.e, s.e.out.take 64⟩).2 = 0) :
    s.e.base + (s.e.out.take 64).length + (if finE s.e = true then 1 else 0) ≤ (turnR i s r).e.next ∧ (pend s.e = true → (turnR i s r).e.due = true) := by
  unfold turnR
  by_cases hd : (againE s.e).due = true
  · rw [if_pos hd]
    have hz := hrv hd
    obtain ⟨_, _, _, h4⟩ := recv_ok (a := (recvE r.e ⟨1, i, s.e.base, s.e.next, finE s.e, s.e.out.take 64⟩).1) (Prod.ext rfl hz)
    show _ ≤ (recvE r.e ⟨1, i, s.e.base, s.e.next, finE s.e, s.e.out.take 64⟩).1.next ∧ (_ → (recvE r.e ⟨1, i, s.e.base, s.e.next, finE s.e, s.e.out.take 64⟩).1.due = true)
    rw [h4]
    refine ⟨caught_recv h.xy hdry, fun hp => ?_⟩
    show (_ || decide (0 < (s.e.out.take 64).length) || finE s.e) = true
    unfold pend at hp
    rw [Bool.or_eq_true, decide_eq_true_eq] at hp
    by_cases h0 : 0 < s.e.out.length
    · rw [decide_eq_true (show 0 < (s.e.out.take 64).length by rw [List.length_take]; omega), Bool.or_true, Bool.true_or]
    · have h1 : (s.e.closed && !s.e.done) = true := hp.resolve_left h0
      have h2 : finE s.e = true := by
        unfold finE
        rw [h1, Bool.true_and, decide_eq_true_eq]
        omega
      rw [h2, Bool.or_true]
  · rw [if_neg hd]
    have hnp : pend s.e = false := by
      cases hp : pend s.e with
      | false => rfl
      | true => exact absurd (show (s.e.due || pend s.e) = true by rw [hp, Bool.or_true]) hd
    have ho : s.e.out.length = 0 := by
      unfold pend at hnp
      rw [Bool.or_eq_false_iff, decide_eq_false_iff_not] at hnp
      omega
    have hfn : finE s.e = false := by
      unfold pend at hnp
      rw [Bool.or_eq_false_iff] at hnp
      unfold finE
      rw [hnp.2, Bool.false_and]
    refine ⟨?_, fun hp => by rw [hnp] at hp; cases hp⟩
    obtain ⟨m, b, h1⟩ := h.xy
    have hb := h1.fb
    have hbm := h1.bm
    have hn := h1.fn
    rw [hfn, if_neg (by decide), List.length_take, ho, hn, hb]
    split <;> omega

/-- The receiver behind the packet: what of its own bytes is acknowledged. -/
theorem turnR_progress {B : Nat} {i j : Int} {s r : Sd} (h : Inv2 B i j s r) (hc : Caught r s) (hrv : (againE s.e).due = true → (recvE r.e ⟨1, i, s.e.base, s.e.next, finE s.e, s.e.out.take 64⟩).2 = 0) :
    (64 < r.e.out.length → (turnR i s r).e.out.length + 64 ≤ r.e.out.length) ∧ (r.e.out.length ≤ 64 → pend (turnR i s r).e = false) := by
  by_cases hd : (againE s.e).due = true
  · unfold turnR
    rw [if_pos hd]
    have hz := hrv hd
    obtain ⟨_, _, _, h4⟩ := recv_ok (a := (recvE r.e ⟨1, i, s.e.base, s.e.next, finE s.e, s.e.out.take 64⟩).1) (Prod.ext rfl hz)
    dsimp only
    rw [h4]
    obtain ⟨b1, b2, b3, b4, b5, b6⟩ := take_valid (e := ackE r.e s.e.next) ⟨1, i, s.e.base, s.e.next, finE s.e, s.e.out.take 64⟩ h.vy.2.1 h.vy.2.2.2.1.1 h.vy.2.2.2.2.2
    have ho := take_out (ackE r.e s.e.next) ⟨1, i, s.e.base, s.e.next, finE s.e, s.e.out.take 64⟩
    obtain ⟨p1, p2⟩ := ack_progress h.yx hc.1
    refine ⟨fun h64 => ?_, fun h64 => ?_⟩
    · show (takeE (ackE r.e s.e.next) ⟨1, i, s.e.base, s.e.next, finE s.e, s.e.out.take 64⟩).out.length + 64 ≤ _
      rw [ho]
      exact p1 h64
    · have h2 := p2 h64
      unfold pend at h2 ⊢
      show (decide (0 < (takeE (ackE r.e s.e.next) ⟨1, i, s.e.base, s.e.next, finE s.e, s.e.out.take 64⟩).out.length) || ((takeE (ackE r.e s.e.next) ⟨1, i, s.e.base, s.e.next, finE s.e, s.e.out.take 64⟩).closed && !(takeE (ackE r.e s.e.next) ⟨1, i, s.e.base, s.e.next, finE s.e, s.e.out.take 64⟩).done)) = false
      rw [ho, b4, b5]
      exact h2
  · have hnp : pend r.e = false := by
      cases hp : pend r.e with
      | false => rfl
      | true => exact absurd (show (s.e.due || pend s.e) = true by rw [hc.2 hp, Bool.true_or]) hd
    have hR : turnR i s r = r := by unfold turnR; rw [if_neg hd]
    rw [hR]
    refine ⟨fun h64 => ?_, fun _ => hnp⟩
    unfold pend at hnp
    rw [Bool.or_eq_false_iff, decide_eq_false_iff_not] at hnp
    omega

end Go.Proofs.Ytfichoekjjcjiaa
