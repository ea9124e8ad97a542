/-
  Plain: the rounds of StreamArrives, counted: behind five of them nothing is left to send, to read or to answer.
  No program here.
-/
import Derived.Test.YtfichoekjjcjiaaStQ6
namespace Go.Proofs.Ytfichoekjjcjiaa
open Go.RowKit

/-- The packet of a turn. -/
def pkT (i : Int) (s : Sd) : Pk := ⟨1, i, s.e.base, s.e.next, finE s.e, s.e.out.take 64⟩
theorem turnX_send {i : Int} (hi : i = 0 ∨ i = 1) {s : Sd} (r : Sd) (hv : VE s.e) (hd : (againE s.e).due = true) (n : Nat) (d : List UInt8) : (stepS 3 n d i { s with e := againE s.e } r).1 = turnX i s := by
  unfold turnX
  rw [if_pos hd]
  have hs : sendE (againE s.e) 1 i = ({ againE s.e with due := false }, pkT i s, 0) := by
    unfold sendE
    rw [if_neg (fun hh => hh ⟨hv, by unfold VP; dsimp only [List.length_nil]; exact ⟨by omega, hi, by omega, by omega, by omega⟩⟩)]
    rfl
  show ({ s with e := (sendE (againE s.e) 1 i).1, sent := s.sent ++ [(sendE (againE s.e) 1 i).2.1] } : Sd) = _
  rw [hs]
  rfl
theorem turnX_still {i : Int} {s : Sd} (hd : ¬ (againE s.e).due = true) : ({ s with e := againE s.e } : Sd) = turnX i s := by
  unfold turnX
  rw [if_neg hd]
theorem turnX_sent {i : Int} {s : Sd} (hd : (againE s.e).due = true) : (turnX i s).sent = s.sent ++ [pkT i s] := by
  unfold turnX
  rw [if_pos hd]
  rfl
theorem turnR_recv {i : Int} (j : Int) {s r : Sd} (hd : (againE s.e).due = true) (d : List UInt8) : (stepS 4 s.sent.length d j r (turnX i s)).1 = turnR i s r := by
  unfold stepS
  rw [if_neg (by decide), if_neg (by decide), if_neg (by decide), if_neg (by decide), if_pos rfl, turnX_sent hd]
  have h1 : (s.sent ++ [pkT i s])[s.sent.length % (s.sent ++ [pkT i s]).length]? = some (pkT i s) := by
    rw [List.length_append, List.length_singleton, Nat.mod_eq_of_lt (by omega), List.getElem?_append_right (Nat.le_refl _)]
    simp
  rw [h1]
  unfold turnR
  rw [if_pos hd]
  rfl
theorem turnR_still {i : Int} {s r : Sd} (hd : ¬ (againE s.e).due = true) : turnR i s r = r := by
  unfold turnR
  rw [if_neg hd]
theorem turnY_read (i j : Int) (s r y : Sd) (d : List UInt8) : (stepS 1 199 d j (turnR i s r) y).1 = turnY i s r := rfl

/-- A turn keeps what is known, and its packet is received. -/
theorem Inv2.turn {B : Nat} {i j : Int} {s r : Sd} (h : Inv2 B i j s r) (hB : B ≤ 1000000) (hi : i = 0 ∨ i = 1) (hj : j = 0 ∨ j = 1) :
    Inv2 B i j (turnX i s) (turnR i s r) ∧ Inv2 B i j (turnX i s) (turnY i s r) ∧ ((againE s.e).due = true → (recvE r.e (pkT i s)).2 = 0) := by
  have h1 : Inv2 B i j { s with e := againE s.e } r := (h.step hB hi hj 5 0 []).2
  have hR : Inv2 B i j (turnX i s) (turnR i s r) ∧ ((againE s.e).due = true → (recvE r.e (pkT i s)).2 = 0) := by
    by_cases hd : (againE s.e).due = true
    · have h2 : Inv2 B i j (turnX i s) r := by
        have := (h1.step hB hi hj 3 0 []).2
        rw [turnX_send hi r h.vx hd] at this
        exact this
      obtain ⟨h3, h4⟩ := h2.swap.recv (p := pkT i s) hB hi (by rw [turnX_sent hd]; simp)
      refine ⟨?_, fun _ => h3⟩
      have := h4.swap
      unfold turnR
      rw [if_pos hd]
      exact this
    · refine ⟨?_, fun h => absurd h hd⟩
      rw [turnR_still hd, ← turnX_still hd]
      exact h1
  refine ⟨hR.1, ?_, hR.2⟩
  have h5 := (hR.1.swap.step hB hj hi 1 199 []).2
  rw [turnY_read] at h5
  exact h5.swap

/-- How much is left to send: nothing, or at most a times 64 bytes. -/
def Lv (a : Nat) (x : Sd) : Prop := if a = 0 then pend x.e = false else x.e.out.length ≤ 64 * a
theorem pend_out {e : E} (h : pend e = false) : e.out = [] := by
  unfold pend at h
  rw [Bool.or_eq_false_iff, decide_eq_false_iff_not] at h
  exact List.eq_nil_of_length_eq_zero (by omega)
theorem pend_cd {e : E} (h : pend e = false) : (e.closed && !e.done) = false := by
  unfold pend at h
  rw [Bool.or_eq_false_iff] at h
  exact h.2
theorem Lv.of_nil {x : Sd} (h : pend x.e = false) (a : Nat) : Lv a x := by
  unfold Lv
  split
  · exact h
  · rw [pend_out h]; simp
theorem Lv.congr {a : Nat} {x y : Sd} (h : Lv a x) (h1 : y.e.out = x.e.out) (h2 : y.e.closed = x.e.closed) (h3 : y.e.done = x.e.done) : Lv a y := by
  unfold Lv pend at h ⊢
  rw [h1, h2, h3]
  exact h

theorem turnY_e (i : Int) (s r : Sd) : (turnY i s r).e.out = (turnR i s r).e.out ∧ (turnY i s r).e.base = (turnR i s r).e.base ∧ (turnY i s r).e.closed = (turnR i s r).e.closed ∧ (turnY i s r).e.done = (turnR i s r).e.done ∧ (turnY i s r).e.next = (turnR i s r).e.next ∧ (turnY i s r).e.ended = (turnR i s r).e.ended ∧
    ((turnR i s r).e.due = true → (turnY i s r).e.due = true) ∧ ((turnR i s r).e.inn = [] → (turnY i s r).e.due = (turnR i s r).e.due) := by
  obtain ⟨h1, h2, h3, h4, h5, h6, h7, h8, h9⟩ := read_same 199 (turnR i s r) r
  exact ⟨h1, h2, h3, h4, h5, h6, h7, h9⟩

theorem take_due (e : E) (p : Pk) : (takeE e p).due = e.due := by unfold takeE; split <;> rfl
theorem take_none {e : E} {p : Pk} (h : p.data = []) : (takeE e p).inn = e.inn := by
  unfold takeE
  split
  · rfl
  · show takeI e p = e.inn
    unfold takeI fresh
    rw [h]
    simp

/-- What a turn does. -/
structure Turn (B : Nat) (i j : Int) (s r s' r' : Sd) : Prop where
  inv : Inv2 B i j s' r'
  dryR : Dry r'
  dryS : Dry s → Dry s'
  caught : Dry r → Caught s' r'
  less : Caught r s → ∀ a, Lv (a + 1) r → Lv a r'
  stay : Caught r s → Lv 0 r → Lv 0 r'
  sent : ∀ a, Lv a s → Lv a s'
  due : s'.e.due = false
  still : Caught r s → Lv 0 s → Lv 0 r → Dry r → r'.e.due = r.e.due

theorem Inv2.turned {B : Nat} {i j : Int} {s r : Sd} (h : Inv2 B i j s r) (hB : B ≤ 1000000) (hi : i = 0 ∨ i = 1) (hj : j = 0 ∨ j = 1) : Turn B i j s r (turnX i s) (turnY i s r) := by
  obtain ⟨h1, h2, h3⟩ := h.turn hB hi hj
  obtain ⟨x1, x2, x3, x4, x5, x6, x7, x8⟩ := turnX_e i s
  obtain ⟨y1, y2, y3, y4, y5, y6, y7, y8⟩ := turnY_e i s r
  have hprog : Caught r s → ∀ a, Lv (a + 1) r → Lv a (turnY i s r) := fun hc a ha => by
    obtain ⟨p1, p2⟩ := turnR_progress h hc h3
    have ha : r.e.out.length ≤ 64 * (a + 1) := by unfold Lv at ha; rw [if_neg (by omega)] at ha; exact ha
    refine Lv.congr (x := turnR i s r) ?_ y1 y3 y4
    by_cases h64 : 64 < r.e.out.length
    · have := p1 h64
      unfold Lv
      rw [if_neg (by omega)]
      omega
    · exact Lv.of_nil (p2 (by omega)) a
  refine ⟨h2, read_dry h1.vy, fun hd hc => ?_, fun hd => ?_, hprog, fun hc h0 => hprog hc 0 ?_, fun a ha => ha.congr x1 x3 x4, x8, fun hc hs hr hd => ?_⟩
  · rw [x5]
    exact hd (by rw [← x3]; exact hc)
  · obtain ⟨c1, c2⟩ := turnR_caught h hd h3
    unfold Caught
    have hfin : finE (turnX i s).e = finE s.e := by unfold finE; rw [x1, x3, x4]
    have hpend : pend (turnX i s).e = pend s.e := by unfold pend; rw [x1, x3, x4]
    rw [hfin, hpend, x1, x2, y5]
    exact ⟨c1, fun hp => y7 (c2 hp)⟩
  · exact Lv.of_nil (by unfold Lv at h0; rw [if_pos rfl] at h0; exact h0) 1
  · have hs : pend s.e = false := by unfold Lv at hs; rw [if_pos rfl] at hs; exact hs
    have hr : pend r.e = false := by unfold Lv at hr; rw [if_pos rfl] at hr; exact hr
    have hin : r.e.inn = [] := by
      cases hcl : r.e.closed with
      | false => exact hd hcl
      | true => exact List.eq_nil_of_length_eq_zero (h.vy.2.2.2.2.2 hcl)
    by_cases hdue : (againE s.e).due = true
    · have hdat : (pkT i s).data = [] := by
        show s.e.out.take 64 = []
        rw [pend_out hs]
        rfl
      have hfn : (pkT i s).fin = false := by
        show finE s.e = false
        unfold finE
        rw [pend_cd hs, Bool.false_and]
      have hz := h3 hdue
      obtain ⟨_, _, _, h4⟩ := recv_ok (a := (recvE r.e (pkT i s)).1) (Prod.ext rfl hz)
      have hR : (turnR i s r).e = (recvE r.e (pkT i s)).1 := by unfold turnR; rw [if_pos hdue]; rfl
      have hin2 : (turnR i s r).e.inn = [] := by
        rw [hR, h4]
        show (takeE (ackE r.e _) (pkT i s)).inn = []
        rw [take_none hdat]
        exact hin
      rw [y8 hin2, hR, h4]
      show ((takeE (ackE r.e (pkT i s).ack) (pkT i s)).due || decide (0 < (pkT i s).data.length) || (pkT i s).fin) = r.e.due
      rw [take_due, hdat, hfn]
      have hp2 : pend (ack2 r.e (pkT i s).ack) = false := by
        have ho := pend_out hr
        have hcd := pend_cd hr
        have e1 : (ack2 r.e (pkT i s).ack).out = [] := by
          show r.e.out.drop _ = []
          rw [ho]; simp
        unfold pend
        rw [e1]
        show (decide (0 < ([] : List UInt8).length) || (r.e.closed && !(r.e.done || ackF r.e (pkT i s).ack))) = false
        cases hcl : r.e.closed <;> cases hdn : r.e.done <;> simp_all
      show (r.e.due || (ackC r.e (pkT i s).ack && pend (ack2 r.e (pkT i s).ack)) || decide (0 < ([] : List UInt8).length) || false) = r.e.due
      rw [hp2]
      simp
    · have hR := turnR_still (r := r) hdue (i := i)
      rw [y8 (by rw [hR]; exact hin), hR]

/-- What is known ahead of round n. -/
structure Rnd (B n : Nat) (x y : Sd) : Prop where
  inv : Inv2 B 0 1 x y
  dry : 1 ≤ n → Dry x ∧ Dry y
  caught : 2 ≤ n → Caught y x
  x1 : 2 ≤ n → Lv 1 x
  x0 : 3 ≤ n → Lv 0 x
  y1 : 3 ≤ n → Lv 1 y
  y0 : 4 ≤ n → Lv 0 y
  due : 5 ≤ n → x.e.due = false ∧ y.e.due = false
theorem VE.lv {x : Sd} (h : VE x.e) : Lv 2 x := by
  unfold Lv
  rw [if_neg (by decide)]
  exact h.1

/-- One round: x's turn, then y's. -/
theorem Rnd.next {B n : Nat} {x y : Sd} (h : Rnd B n x y) (hB : B ≤ 1000000) : Rnd B (n + 1) (turnY 1 (turnY 0 x y) (turnX 0 x)) (turnX 1 (turnY 0 x y)) := by
  have t1 := h.inv.turned hB (.inl rfl) (.inr rfl)
  have t2 := t1.inv.swap.turned hB (.inr rfl) (.inl rfl)
  have lx1 : 1 ≤ n → Lv 1 (turnY 1 (turnY 0 x y) (turnX 0 x)) := fun hn => t2.less (t1.caught (h.dry hn).2) 1 t1.inv.vx.lv
  refine ⟨t2.inv.swap, fun _ => ⟨t2.dryR, t2.dryS t1.dryR⟩, fun hn => t2.caught (t1.dryS (h.dry (by omega)).1), fun hn => lx1 (by omega), fun hn => ?_, fun hn => ?_, fun hn => ?_, fun hn => ?_⟩
  · exact t2.less (t1.caught (h.dry (by omega)).2) 0 (t1.sent 1 (h.x1 (by omega)))
  · exact t2.sent 1 (t1.less (h.caught (by omega)) 1 h.inv.vy.lv)
  · exact t2.sent 0 (t1.less (h.caught (by omega)) 0 (h.y1 (by omega)))
  · refine ⟨?_, t2.due⟩
    have hy0 : Lv 0 (turnY 0 x y) := t1.stay (h.caught (by omega)) (h.y0 (by omega))
    have hx0 : Lv 0 (turnX 0 x) := t1.sent 0 (h.x0 (by omega))
    rw [t2.still (t1.caught (h.dry (by omega)).2) hy0 hx0 (t1.dryS (h.dry (by omega)).1)]
    exact t1.due

theorem Flow.whole {i : Int} {x y : Sd} (h : Flow i x y) (hx : pend x.e = false) (hy : Dry y) (hc : y.e.closed = false) : y.rd = x.wr := by
  obtain ⟨m, b, h⟩ := h
  have h1 := h.fr hc
  rw [hy hc, List.append_nil] at h1
  have h2 := h.fo
  rw [pend_out hx] at h2
  have h3 := congrArg List.length h2
  rw [List.length_nil, List.length_drop] at h3
  have := h.bm
  rw [h1, List.take_of_length_le (by omega)]
theorem Flow.quiet {i j : Int} {x y : Sd} (h : Flow i x y) (hx : pend x.e = false) (hcx : x.e.closed = true) : x.e.done = true ∧ y.e.ended = true := by
  have h1 := pend_cd hx
  rw [hcx] at h1
  have h2 : x.e.done = true := by simpa using h1
  obtain ⟨m, b, h⟩ := h
  exact ⟨h2, h.fd h2⟩

/-- What the law asks for. -/
theorem Rnd.fin {B n : Nat} {x y : Sd} (h : Rnd B n x y) (hn : 5 ≤ n) :
    (x.e.closed = false → x.rd = y.wr) ∧ (y.e.closed = false → y.rd = x.wr) ∧ (x.e.closed = true → y.e.closed = true → quiet x.e = true ∧ quiet y.e = true) := by
  have px : pend x.e = false := by have := h.x0 (by omega); unfold Lv at this; rw [if_pos rfl] at this; exact this
  have py : pend y.e = false := by have := h.y0 (by omega); unfold Lv at this; rw [if_pos rfl] at this; exact this
  obtain ⟨dx, dy⟩ := h.dry (by omega)
  obtain ⟨ux, uy⟩ := h.due hn
  refine ⟨fun hc => h.inv.yx.whole py dx hc, fun hc => h.inv.xy.whole px dy hc, fun hcx hcy => ?_⟩
  obtain ⟨a1, a2⟩ := h.inv.xy.quiet (j := 0) px hcx
  obtain ⟨b1, b2⟩ := h.inv.yx.quiet (j := 0) py hcy
  unfold Go.Proofs.Ytfichoekjjcjiaa.quiet
  rw [hcx, hcy, a1, a2, b1, b2, ux, uy]
  exact ⟨rfl, rfl⟩

end Go.Proofs.Ytfichoekjjcjiaa
