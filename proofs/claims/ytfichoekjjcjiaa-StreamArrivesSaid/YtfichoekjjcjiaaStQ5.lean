/-
  Layer 43, plain: a run of acts at two ends.
  No conditions: plain lemmas.
-/
import Derived.Test.YtfichoekjjcjiaaStQ4
namespace Go.Proofs.Ytfichoekjjcjiaa

/-- One side of a link. -/
structure Sd where
  e : E
  sent : List Pk
  wr : List UInt8
  rd : List UInt8
  over : Bool
def zSd : Sd := ⟨zE, [], [], [], false⟩
/-- What an act does at its side; whether something went wrong. -/
def stepS (k n : Nat) (d : List UInt8) (i : Int) (x y : Sd) : Sd × Bool :=
  if k = 0 then (if (writeE x.e d).2 = 0 then ({ x with e := (writeE x.e d).1, wr := x.wr ++ d }, false) else (x, false))
  else if k = 1 then (if (readE x.e (1 + (n : Int))).2.2 = 0 then ({ x with e := (readE x.e (1 + (n : Int))).1, rd := x.rd ++ (readE x.e (1 + (n : Int))).2.1, over := x.over || decide ((readE x.e (1 + (n : Int))).2.1.length = 0) }, false) else (x, false))
  else if k = 2 then (if (closeE x.e).2 = 0 then ({ x with e := (closeE x.e).1 }, false) else (x, false))
  else if k = 3 then ({ x with e := (sendE x.e 1 i).1, sent := x.sent ++ [(sendE x.e 1 i).2.1] }, decide ((sendE x.e 1 i).2.2 ≠ 0))
  else if k = 4 then (match y.sent[n % y.sent.length]? with | some p => ({ x with e := (recvE x.e p).1 }, decide ((recvE x.e p).2 ≠ 0)) | none => (x, false))
  else ({ x with e := againE x.e }, false)

/-- The bytes of x on their way to y. -/
def Flow (i : Int) (x y : Sd) : Prop := ∃ m b, Dir x.wr x.e.out x.e.base x.e.closed x.e.done y.e.inn y.e.next y.e.ended y.e.closed y.rd y.over x.sent y.sent i m b
structure Inv2 (B : Nat) (i j : Int) (x y : Sd) : Prop where
  xy : Flow i x y
  yx : Flow j y x
  vx : VE x.e
  vy : VE y.e
  lx : x.wr.length ≤ B
  ly : y.wr.length ≤ B

theorem Inv2.swap {B : Nat} {i j : Int} {x y : Sd} (h : Inv2 B i j x y) : Inv2 B j i y x := ⟨h.yx, h.xy, h.vy, h.vx, h.ly, h.lx⟩
theorem Inv2.more {B B' : Nat} {i j : Int} {x y : Sd} (h : Inv2 B i j x y) (hB : B ≤ B') : Inv2 B' i j x y := ⟨h.xy, h.yx, h.vx, h.vy, Nat.le_trans h.lx hB, Nat.le_trans h.ly hB⟩
theorem Flow.zero (i : Int) : Flow i zSd zSd :=
  ⟨0, 0, rfl, Nat.le_refl _, Nat.zero_le _, rfl, rfl, (fun h => absurd h (by decide)), (fun h => absurd h (by decide)), (fun _ => rfl), List.prefix_refl _, (fun h => absurd h (by decide)), (fun p hp => absurd hp List.not_mem_nil), (fun p hp => absurd hp List.not_mem_nil)⟩
theorem VE.zero : VE zE := ⟨by decide, by decide, ⟨by decide, by decide⟩, ⟨by decide, by decide⟩, (fun h => absurd h (by decide)), (fun _ => rfl)⟩
theorem Inv2.zero (i j : Int) : Inv2 0 i j zSd zSd := ⟨Flow.zero i, Flow.zero j, VE.zero, VE.zero, Nat.le_refl _, Nat.le_refl _⟩

theorem write_ok {e : E} {d : List UInt8} (h : (writeE e d).2 = 0) : VE e ∧ e.closed = false ∧ e.out.length + d.length ≤ 128 ∧ (writeE e d).1 = { e with out := e.out ++ d, due := e.due || decide (0 < d.length) } := by
  unfold writeE at h ⊢
  split at h
  · cases h
  · rename_i hv
    split at h
    · cases h
    · rename_i hc
      split at h
      · cases h
      · rename_i hl
        rw [if_neg hv, if_neg hc, if_neg hl]
        exact ⟨Decidable.byContradiction hv, by simpa using hc, by omega, rfl⟩
theorem read_ok {e : E} {n : Int} (h : (readE e n).2.2 = 0) : VE e ∧ 1 ≤ n ∧ e.closed = false ∧ (e.inn.length = 0 → e.ended = true) ∧ readE e n = ({ e with due := e.due || decide (e.inn.length = 128), inn := e.inn.drop (min n.toNat e.inn.length) }, e.inn.take (min n.toNat e.inn.length), 0) := by
  unfold readE at h ⊢
  split at h
  · cases h
  · rename_i hv
    split at h
    · cases h
    · rename_i hc
      split at h
      · cases h
      · rename_i hl
        rw [if_neg hv, if_neg hc, if_neg hl]
        refine ⟨Decidable.byContradiction fun h1 => hv (.inl h1), by omega, by simpa using hc, fun h0 => ?_, rfl⟩
        cases he : e.ended with
        | true => rfl
        | false => exact absurd ⟨h0, he⟩ hl
theorem close_ok {e : E} (h : (closeE e).2 = 0) : (closeE e).1 = { e with closed := true, due := true, inn := [] } := by
  unfold closeE at h ⊢
  split at h
  · cases h
  · rename_i hv
    split at h
    · cases h
    · rename_i hc
      rw [if_neg hv, if_neg hc]

theorem Inv2.vp {B : Nat} {i j : Int} {x y : Sd} (h : Inv2 B i j x y) (hB : B ≤ 1000000) (hj : j = 0 ∨ j = 1) {p : Pk} (hp : p ∈ y.sent) : VP p := by
  obtain ⟨m1, b1, h1⟩ := h.xy
  obtain ⟨m2, b2, h2⟩ := h.yx
  obtain ⟨q, a1, a2, a3, a4, a5, a6, a7⟩ := h2.fx p hp
  obtain ⟨c1, c2⟩ := h1.fy p hp
  have := h.lx
  have := h.ly
  have := h1.mW
  have hn := h1.fn
  have : y.e.next ≤ m1 + 1 := by rw [hn]; split <;> omega
  exact ⟨by omega, by rw [a7]; exact hj, by omega, by omega, a4⟩

theorem Inv2.recv {B : Nat} {i j : Int} {x y : Sd} (h : Inv2 B i j x y) (hB : B ≤ 1000000) (hj : j = 0 ∨ j = 1) {p : Pk} (hp : p ∈ y.sent) :
    (recvE x.e p).2 = 0 ∧ Inv2 B i j { x with e := (recvE x.e p).1 } y := by
  have hvp := h.vp hB hj hp
  obtain ⟨m1, b1, h1⟩ := h.xy
  obtain ⟨m2, b2, h2⟩ := h.yx
  have h1' := h1.ack (e := x.e) hp rfl rfl rfl rfl
  obtain ⟨m2', h2'⟩ := h2.take (e := ackE x.e p.ack) hp rfl rfl rfl rfl
  obtain ⟨b1', b2', b3', b4', b5', b6'⟩ := take_valid (e := ackE x.e p.ack) p h.vx.2.1 h.vx.2.2.2.1.1 h.vx.2.2.2.2.2
  have ho := take_out (ackE x.e p.ack) p
  have hbs : (recv1 x.e p).base ≤ 1099511626776 := by
    show (takeE (ackE x.e p.ack) p).base ≤ _
    rw [b6', h1'.fb]
    have := h1'.bm
    have := h1'.mW
    have := h.lx
    omega
  have hns : (recv1 x.e p).next ≤ 1099511626776 := by
    show (takeE (ackE x.e p.ack) p).next ≤ _
    rw [h2'.fn]
    have := h2'.mW
    have := h.ly
    split <;> omega
  have hr : recvE x.e p = ({ recv1 x.e p with due := (recv1 x.e p).due || decide (0 < p.data.length) || p.fin }, 0) := by
    unfold recvE
    rw [if_neg (fun hh => hh ⟨h.vx, hvp⟩), if_neg (by omega)]
  rw [hr]
  have hv : VE { recv1 x.e p with due := (recv1 x.e p).due || decide (0 < p.data.length) || p.fin } := recv_valid hr
  refine ⟨rfl, ⟨m1, b1 + ackN x.e p.ack, ?_⟩, ⟨m2', b2, ?_⟩, hv, h.vy, h.lx, h.ly⟩
  · have hcl : (takeE (ackE x.e p.ack) p).closed = x.e.closed := b4'
    show Dir x.wr (takeE (ackE x.e p.ack) p).out (takeE (ackE x.e p.ack) p).base (takeE (ackE x.e p.ack) p).closed (takeE (ackE x.e p.ack) p).done y.e.inn y.e.next y.e.ended y.e.closed y.rd y.over x.sent y.sent i m1 _
    rw [ho, b6', hcl, b5']
    exact h1'
  · have hcl : (takeE (ackE x.e p.ack) p).closed = x.e.closed := b4'
    show Dir y.wr y.e.out y.e.base y.e.closed y.e.done (takeE (ackE x.e p.ack) p).inn (takeE (ackE x.e p.ack) p).next (takeE (ackE x.e p.ack) p).ended (takeE (ackE x.e p.ack) p).closed x.rd x.over y.sent x.sent j m2' b2
    rw [hcl]
    exact h2'

/-- Every act keeps what is known. -/
theorem Inv2.step {B : Nat} {i j : Int} {x y : Sd} (h : Inv2 B i j x y) (hB : B ≤ 1000000) (hi : i = 0 ∨ i = 1) (hj : j = 0 ∨ j = 1) (k n : Nat) (d : List UInt8) :
    (stepS k n d i x y).2 = false ∧ Inv2 (B + d.length) i j (stepS k n d i x y).1 y := by
  have hmore : Inv2 (B + d.length) i j x y := h.more (by omega)
  unfold stepS
  by_cases h0 : k = 0
  · rw [if_pos h0]
    by_cases hf : (writeE x.e d).2 = 0
    · rw [if_pos hf]
      obtain ⟨a1, a2, a3, a4⟩ := write_ok hf
      have hv : VE (writeE x.e d).1 := write_valid (d := d) (e := x.e) (by rw [← hf])
      rw [a4] at hv ⊢
      obtain ⟨m1, b1, h1⟩ := h.xy
      exact ⟨rfl, ⟨m1, b1, h1.write d a2⟩, h.yx, hv, h.vy, by rw [List.length_append]; have := h.lx; omega, Nat.le_trans h.ly (by omega)⟩
    · rw [if_neg hf]
      exact ⟨rfl, hmore⟩
  rw [if_neg h0]
  by_cases h1 : k = 1
  · rw [if_pos h1]
    by_cases hf : (readE x.e (1 + (n : Int))).2.2 = 0
    · rw [if_pos hf]
      obtain ⟨a1, a2, a3, a5, a4⟩ := read_ok hf
      have hv : VE (readE x.e (1 + (n : Int))).1 := read_valid (e := x.e) (n := 1 + (n : Int)) (d := (readE x.e (1 + (n : Int))).2.1) (by rw [← hf])
      rw [a4] at hv ⊢
      obtain ⟨m2, b2, h2⟩ := h.yx
      exact ⟨rfl, h.xy, ⟨m2, b2, h2.readR _ (by omega) a3 a5⟩, hv, h.vy, hmore.lx, hmore.ly⟩
    · rw [if_neg hf]
      exact ⟨rfl, hmore⟩
  rw [if_neg h1]
  by_cases h2 : k = 2
  · rw [if_pos h2]
    by_cases hf : (closeE x.e).2 = 0
    · rw [if_pos hf]
      have a4 := close_ok hf
      have hv : VE (closeE x.e).1 := close_valid (e := x.e) (by rw [← hf])
      rw [a4] at hv ⊢
      obtain ⟨m1, b1, h1'⟩ := h.xy
      obtain ⟨m2, b2, h2'⟩ := h.yx
      exact ⟨rfl, ⟨m1, b1, h1'.close⟩, ⟨m2, b2, h2'.closeR _⟩, hv, h.vy, hmore.lx, hmore.ly⟩
    · rw [if_neg hf]
      exact ⟨rfl, hmore⟩
  rw [if_neg h2]
  by_cases h3 : k = 3
  · rw [if_pos h3]
    have hs : sendE x.e 1 i = ({ x.e with due := false }, ⟨1, i, x.e.base, x.e.next, x.e.closed && !x.e.done && decide (x.e.out.length ≤ 64), x.e.out.take 64⟩, 0) := by
      unfold sendE
      rw [if_neg (fun hh => hh ⟨h.vx, by unfold VP; dsimp only [List.length_nil]; exact ⟨by omega, hi, by omega, by omega, by omega⟩⟩)]
    rw [hs]
    obtain ⟨m1, b1, h1'⟩ := h.xy
    obtain ⟨m2, b2, h2'⟩ := h.yx
    refine ⟨rfl, ⟨m1, b1, h1'.send x.e.next _ (fun hh => ?_)⟩, ⟨m2, b2, h2'.sendR _ rfl⟩, h.vx, h.vy, hmore.lx, hmore.ly⟩
    simp only [Bool.and_eq_true, decide_eq_true_eq] at hh
    exact ⟨hh.1.1, hh.2⟩
  rw [if_neg h3]
  by_cases h4 : k = 4
  · rw [if_pos h4]
    cases hp : y.sent[n % y.sent.length]? with
    | none => exact ⟨rfl, hmore⟩
    | some p =>
      obtain ⟨a1, a2⟩ := h.recv hB hj (List.mem_of_getElem? hp)
      exact ⟨by dsimp only; rw [a1]; rfl, a2.more (by omega)⟩
  rw [if_neg h4]
  obtain ⟨m1, b1, h1'⟩ := h.xy
  obtain ⟨m2, b2, h2'⟩ := h.yx
  exact ⟨rfl, ⟨m1, b1, h1'⟩, ⟨m2, b2, h2'⟩, again_valid h.vx, h.vy, hmore.lx, hmore.ly⟩

/-- What 'agree' looks at. -/
theorem Flow.agree {i : Int} {x y : Sd} (h : Flow i x y) : y.rd <+: x.wr ∧ (y.over = true → y.rd = x.wr) := by
  obtain ⟨m, b, h⟩ := h
  exact ⟨h.fp, fun e => (h.fv e).1⟩

end Go.Proofs.Ytfichoekjjcjiaa
