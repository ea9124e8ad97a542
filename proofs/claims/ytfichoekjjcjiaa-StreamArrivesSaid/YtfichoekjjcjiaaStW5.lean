/-
  Walks of layer 43: taken.
  Conditions: the end is valid but for its Base, its In is the caller's own; the packet is valid.
-/
import Derived.Test.YtfichoekjjcjiaaStW4
namespace Go.Proofs.Ytfichoekjjcjiaa
open Go.RowKit

def fresh (e : E) (p : Pk) : List UInt8 := p.data.drop (e.next - p.seq).toNat
def takeN (e : E) (p : Pk) : Nat := if e.closed = true then (fresh e p).length else min (fresh e p).length (128 - e.inn.length)
def takeX (e : E) (p : Pk) : Bool := decide (takeN e p = (fresh e p).length) && p.fin
def takeI (e : E) (p : Pk) : List UInt8 := if e.closed = true then e.inn else e.inn ++ (fresh e p).take (takeN e p)
def takeNo (e : E) (p : Pk) : Prop := e.next < p.seq ∨ p.seq + p.data.length < e.next ∨ e.ended = true
instance (e : E) (p : Pk) : Decidable (takeNo e p) := by unfold takeNo; infer_instance
def takeE (e : E) (p : Pk) : E :=
  if takeNo e p then e else { e with inn := takeI e p, next := if takeX e p = true then e.next + takeN e p + 1 else e.next + takeN e p, ended := takeX e p }

def TakenPost (l : Loc) (e : E) (p : Pk) (base : Nat) (w : World) (x : Ending) (w' : World) : Prop :=
  ∃ (Ai : Option Addr) (ci : Nat), x = .returned (.agg #[.slice l.Ao e.out.length l.co, .int .i64 (takeE e p).base, .bool (takeE e p).closed, .bool (takeE e p).done, .slice Ai (takeE e p).inn.length ci, .int .i64 (takeE e p).next, .bool (takeE e p).ended, .bool (takeE e p).due]) ∧
    (takeE e p).inn.length ≤ ci ∧ w'.ownsRow base 5 1 (.slice Ai (takeE e p).inn.length ci) (takeE e p).inn.length (bcells (takeE e p).inn) ∧
    (∀ q, (Value.slice Ai (takeE e p).inn.length ci).ownBlock = some q → (Value.slice l.Ai e.inn.length l.ci).ownBlock = some q ∨ w.heap.size ≤ q) ∧
    Only (fun x => (Value.slice l.Ai e.inn.length l.ci).ownBlock = some x) w w'

/-- The boxes of an end, a packet and the result. -/
structure Boxes3 (w w2 : World) (l : Loc) (e : E) (A : Option Addr) (c : Nat) (p : Pk) : Prop where
  only : Only Nil w w2
  size : w2.heap.size = w.heap.size + 3
  b0 : Blk w2 w.heap.size 29 #[Value.slice l.Ao e.out.length l.co, .int .i64 e.base, .bool e.closed, .bool e.done, .slice l.Ai e.inn.length l.ci, .int .i64 e.next, .bool e.ended, .bool e.due]
  bp : Blk w2 (w.heap.size + 1) 33 #[.int .i64 p.pair, .int .i64 p.side, .int .i64 p.seq, .int .i64 p.ack, .bool p.fin, .slice A p.data.length c]
  b1 : Blk w2 (w.heap.size + 1 + 1) 29 #[Value.slice none 0 0, .int .i64 0, .bool false, .bool false, .slice none 0 0, .int .i64 0, .bool false, .bool false]
theorem Boxes3.mk3 (w : World) (l : Loc) (e : E) (A : Option Addr) (c : Nat) (p : Pk) : Boxes3 w (((w.alloc (.cells (ecells l e).toArray 29)).alloc (.cells (pcells A c p).toArray 33)).alloc (.cells (ecells nowhere zE).toArray 29)) l e A c p :=
  ⟨(((Only.refl _ _).alloc _).alloc _).alloc _, by simp, ((Blk.new w _ _).alloc _).alloc _, by
    have := (Blk.new (w.alloc (.cells (ecells l e).toArray 29)) 33 (pcells A c p).toArray).alloc (.cells (ecells nowhere zE).toArray 29)
    rw [World.size_alloc] at this
    exact this, by
    have := Blk.new ((w.alloc (.cells (ecells l e).toArray 29)).alloc (.cells (pcells A c p).toArray 33)) 29 (ecells nowhere zE).toArray
    rw [World.size_alloc, World.size_alloc] at this
    exact this⟩

/-- Behind the append of taken. -/
def TMid (l : Loc) (e : E) (p : Pk) (A : Option Addr) (c base : Nat) (w wc : World) : Prop :=
  ∃ (Ai : Option Addr) (ci : Nat), Blk wc w.heap.size 29 #[Value.slice l.Ao e.out.length l.co, .int .i64 e.base, .bool e.closed, .bool e.done, .slice Ai (takeI e p).length ci, .int .i64 e.next, .bool e.ended, .bool e.due] ∧
    Blk wc (w.heap.size + 1) 33 #[.int .i64 p.pair, .int .i64 p.side, .int .i64 p.seq, .int .i64 p.ack, .bool p.fin, .slice A p.data.length c] ∧
    Blk wc (w.heap.size + 1 + 1) 29 #[Value.slice none 0 0, .int .i64 0, .bool false, .bool false, .slice none 0 0, .int .i64 0, .bool false, .bool false] ∧
    (takeI e p).length ≤ ci ∧ wc.ownsRow base 5 1 (.slice Ai (takeI e p).length ci) (takeI e p).length (bcells (takeI e p)) ∧
    (∀ q, (Value.slice Ai (takeI e p).length ci).ownBlock = some q → (Value.slice l.Ai e.inn.length l.ci).ownBlock = some q ∨ w.heap.size ≤ q) ∧
    Only (fun x => (Value.slice l.Ai e.inn.length l.ci).ownBlock = some x) w wc

set_option maxRecDepth 100000 in
set_option maxHeartbeats 1000000 in
theorem taken_any (l : Loc) (e : E) (A : Option Addr) (c : Nat) (p : Pk) (base0 : Nat) (w : World) (hb : base0 ≤ w.heap.size) (hown : w.ownsRow base0 5 1 (.slice l.Ai e.inn.length l.ci) e.inn.length (bcells e.inn))
    (hi : e.inn.length ≤ 128) (hn : 0 ≤ e.next ∧ e.next ≤ 1099511627776) (hs : 0 ≤ p.seq ∧ p.seq ≤ 1099511627776) (hp : PB w w.heap.size A c p) (hpl : p.data.length ≤ 64) :
    Calls Try.prog 33 #[.agg (ecells l e).toArray, .agg (pcells A c p).toArray] w (TakenPost l e p base0 w) := by
  obtain ⟨i0, hi0, hz0, hz1, hz2⟩ := info_parts byte_info
  obtain ⟨out, base, closed, done, inn, next, ended, due⟩ := e
  obtain ⟨pair, side, seq, ack, fin, data⟩ := p
  have hbx := Boxes3.mk3 w l ⟨out, base, closed, done, inn, next, ended, due⟩ A c ⟨pair, side, seq, ack, fin, data⟩
  obtain ⟨w2, hw2⟩ : ∃ w2, w2 = ((w.alloc (.cells (ecells l ⟨out, base, closed, done, inn, next, ended, due⟩).toArray 29)).alloc (.cells (pcells A c ⟨pair, side, seq, ack, fin, data⟩).toArray 33)).alloc (.cells (ecells nowhere zE).toArray 29) := ⟨_, rfl⟩
  rw [← hw2] at hbx
  have hc := hp.c
  dsimp only at hi hn hs hpl hc
  have HX := Lib.hid hbx
  have HW2 := Lib.hid hw2
  have HOW := Lib.hid hown
  have HP := Lib.hid hp
  clear hbx hown hp
  unfold ecells pcells at hw2 ⊢
  unfold nowhere zE at hw2
  dsimp only [List.length_nil] at hw2 ⊢
  by_cases hno : takeNo ⟨out, base, closed, done, inn, next, ended, due⟩ ⟨pair, side, seq, ack, fin, data⟩
  · have hE : ∀ w', Only Nil w w' → TakenPost l ⟨out, base, closed, done, inn, next, ended, due⟩ ⟨pair, side, seq, ack, fin, data⟩ base0 w (.returned (.agg #[.slice l.Ao out.length l.co, .int .i64 base, .bool closed, .bool done, .slice l.Ai inn.length l.ci, .int .i64 next, .bool ended, .bool due])) w' := by
      intro w' hO
      obtain ⟨A', c', e1, h1⟩ := own_form HOW.out
      injection e1 with _ _ e3
      have h1 : inn.length ≤ c' := h1
      unfold TakenPost takeE
      rw [if_pos hno]
      exact ⟨l.Ai, l.ci, rfl, by dsimp only; omega, own_onlyNil HOW.out hO, fun q hq => .inl hq, hO.any⟩
    subst hw2
    have HE := Lib.hid hE
    clear hE
    have hwr2 : IntKind.i64.wrap (seq + (data.length : Int)) = seq + data.length := IntWalk.i64_in _ (by omega)
    by_cases h1 : next < seq
    · have hd1 : decide (next < seq) = true := by simpa using h1
      go_enter Try.func33, Try.ntmps33
      go_wp2_with fail
      refine bodyPost_ret (v := .agg #[.slice l.Ao out.length l.co, .int .i64 base, .bool closed, .bool done, .slice l.Ai inn.length l.ci, .int .i64 next, .bool ended, .bool due]) (by simp [results, Try.results33, go_sem]) rfl ?_
      refine HE.out _ ?_
      (repeat' (first | with_reducible exact Only.refl _ _ | with_reducible refine Only.setCell ?_ (Or.inl ?_) _ | with_reducible refine Only.drewN ?_ _ | with_reducible refine Only.drew ?_ | with_reducible refine Only.alloc ?_ _ | (fail)))
    · have hd1 : decide (next < seq) = false := by simpa using h1
      by_cases h2 : seq + data.length < next
      · have hd2 : decide (seq + (data.length : Int) < next) = true := by simpa using h2
        go_enter Try.func33, Try.ntmps33
        go_wp2_with fail
        refine bodyPost_ret (v := .agg #[.slice l.Ao out.length l.co, .int .i64 base, .bool closed, .bool done, .slice l.Ai inn.length l.ci, .int .i64 next, .bool ended, .bool due]) (by simp [results, Try.results33, go_sem]) rfl ?_
        refine HE.out _ ?_
        (repeat' (first | with_reducible exact Only.refl _ _ | with_reducible refine Only.setCell ?_ (Or.inl ?_) _ | with_reducible refine Only.drewN ?_ _ | with_reducible refine Only.drew ?_ | with_reducible refine Only.alloc ?_ _ | (fail)))
      · have hd2 : decide (seq + (data.length : Int) < next) = false := by simpa using h2
        have h3 : ended = true := by
          rcases hno with h | h | h
          · exact absurd h h1
          · exact absurd h h2
          · exact h
        clear hno
        subst h3
        go_enter Try.func33, Try.ntmps33
        go_wp2_with fail
        refine bodyPost_ret (v := .agg #[.slice l.Ao out.length l.co, .int .i64 base, .bool closed, .bool done, .slice l.Ai inn.length l.ci, .int .i64 next, .bool true, .bool due]) (by simp [results, Try.results33, go_sem]) rfl ?_
        refine HE.out _ ?_
        (repeat' (first | with_reducible exact Only.refl _ _ | with_reducible refine Only.setCell ?_ (Or.inl ?_) _ | with_reducible refine Only.drewN ?_ _ | with_reducible refine Only.drew ?_ | with_reducible refine Only.alloc ?_ _ | (fail)))
  · have hnx : ¬ (next < seq) ∧ ¬ (seq + data.length < next) ∧ ended = false := by
      unfold takeNo at hno
      dsimp only at hno
      refine ⟨fun h => hno (.inl h), fun h => hno (.inr (.inl h)), ?_⟩
      cases ended
      · rfl
      · exact absurd (.inr (.inr rfl)) hno
    obtain ⟨hn1, hn2, rfl⟩ := hnx
    obtain ⟨D, rfl⟩ : ∃ D : Nat, next = seq + D := ⟨(next - seq).toNat, by omega⟩
    have hD : D ≤ data.length := by omega
    have hDi : (D : Int) ≤ data.length := by omega
    have hci : (data.length : Int) ≤ c := by omega
    have hd1 : decide (seq + (D : Int) < seq) = false := by rw [decide_eq_false_iff_not]; omega
    have hd2 : decide (seq + (data.length : Int) < seq + D) = false := by rw [decide_eq_false_iff_not]; omega
    have hwr : IntKind.i64.wrap (seq + (D : Int) - seq) = D := by rw [IntWalk.i64_in _ (by omega)]; omega
    have hwr2 : IntKind.i64.wrap (seq + (data.length : Int)) = seq + data.length := IntWalk.i64_in _ (by omega)
    obtain ⟨L, hL⟩ : ∃ L, data.length - D = L := ⟨_, rfl⟩
    obtain ⟨C, hC⟩ : ∃ C, c - D = C := ⟨_, rfl⟩
    obtain ⟨Ax, hAx⟩ : ∃ Ax, (if c = D then A else Option.map (fun x => x.add D) A) = Ax := ⟨_, rfl⟩
    obtain ⟨M, hM⟩ : ∃ M, M = 128 - inn.length := ⟨_, rfl⟩
    have hwr3 : IntKind.i64.wrap (128 - (inn.length : Int)) = M := by rw [IntWalk.i64_in _ (by omega)]; omega
    have HM := Lib.hid hM
    clear hM
    subst hw2
    go_enter Try.func33, Try.ntmps33
    go_upto_if 40 with fail
    go_cut [5, 6] (fun b v wc => b = .slice Ax L C ∧ v = .int .i64 (takeN ⟨out, base, closed, done, inn, seq + D, false, due⟩ ⟨pair, side, seq, ack, fin, data⟩ : Nat) ∧ TMid l ⟨out, base, closed, done, inn, seq + D, false, due⟩ ⟨pair, side, seq, ack, fin, data⟩ A c base0 w wc)
    case first =>
      cases closed
      rotate_left
      · go_wp2_with fail
        go_meet
        case rel =>
          have hf : (fresh ⟨out, base, true, done, inn, seq + D, false, due⟩ ⟨pair, side, seq, ack, fin, data⟩).length = L := by
            unfold fresh
            dsimp only
            rw [List.length_drop, ← hL]
            congr 1
            omega
          refine ⟨rfl, by unfold takeN; rw [if_pos rfl, hf], l.Ai, l.ci, ?_⟩
          have hI : takeI ⟨out, base, true, done, inn, seq + D, false, due⟩ ⟨pair, side, seq, ack, fin, data⟩ = inn := by unfold takeI; rw [if_pos rfl]
          rw [hI]
          obtain ⟨A', c', e1, h1⟩ := own_form HOW.out
          injection e1 with _ _ e3
          have h1 : inn.length ≤ c' := h1
          refine ⟨HX.out.b0, HX.out.bp, HX.out.b1, by omega, own_onlyNil HOW.out HX.out.only, fun q hq => .inl hq, HX.out.only.any⟩
      · obtain ⟨fr, hfr⟩ : ∃ fr, fresh ⟨out, base, false, done, inn, seq + D, false, due⟩ ⟨pair, side, seq, ack, fin, data⟩ = fr := ⟨_, rfl⟩
        have hf : (fresh ⟨out, base, false, done, inn, seq + D, false, due⟩ ⟨pair, side, seq, ack, fin, data⟩).length = L := by
          unfold fresh
          dsimp only
          rw [List.length_drop, ← hL]
          congr 1
          omega
        by_cases hLM : L ≤ M
        · have hNL : L ≤ L := by omega
          have hNLi : (L : Int) ≤ L := by omega
          have hMM := HM.out
          have hNC : (L : Int) ≤ C := by omega
          have hLMi : (L : Int) ≤ M := by omega
          have hN : takeN ⟨out, base, false, done, inn, seq + D, false, due⟩ ⟨pair, side, seq, ack, fin, data⟩ = L := by
            unfold takeN
            rw [if_neg (by simp), hf]
            dsimp only
            have := HM.out
            omega
          obtain ⟨in6, hin6⟩ : ∃ in6, in6 = takeI ⟨out, base, false, done, inn, seq + D, false, due⟩ ⟨pair, side, seq, ack, fin, data⟩ := ⟨_, rfl⟩
          have hI6 : in6 = inn ++ fr.take L := by
            rw [hin6]
            unfold takeI
            rw [if_neg (by simp), hN, hfr]
          have hrd : ∀ w', Only Nil (((w.alloc (.cells #[Value.slice l.Ao out.length l.co, .int .i64 base, .bool false, .bool done, .slice l.Ai inn.length l.ci, .int .i64 (seq + D), .bool false, .bool due] 29)).alloc (.cells #[.int .i64 pair, .int .i64 side, .int .i64 seq, .int .i64 ack, .bool fin, .slice A data.length c] 33)).alloc (.cells #[Value.slice none 0 0, .int .i64 0, .bool false, .bool false, .slice none 0 0, .int .i64 0, .bool false, .bool false] 29)) w' → Rd w' w.heap.size 1 Ax L (bcells (fr.take L)) := fun w' hO => by
            have h1 := ((HP.out.onlyNil (HX.out.only.thenNil hO) (Nat.le_refl _)).data.cut hD hc)
            dsimp only at h1
            rw [hAx] at h1
            have h2 : (data.drop D) = fr := by rw [← hfr]; unfold fresh; dsimp only; congr 1; omega
            rw [h2] at h1
            have h3 := Bs.take h1 L (by rw [← hfr, hf]; exact hNL)
            unfold Bs at h3
            have h4 : (fr.take L).length = L := by rw [List.length_take, ← hfr, hf]; omega
            rwa [h4] at h3
          have how : ∀ w', Only Nil (((w.alloc (.cells #[Value.slice l.Ao out.length l.co, .int .i64 base, .bool false, .bool done, .slice l.Ai inn.length l.ci, .int .i64 (seq + D), .bool false, .bool due] 29)).alloc (.cells #[.int .i64 pair, .int .i64 side, .int .i64 seq, .int .i64 ack, .bool fin, .slice A data.length c] 33)).alloc (.cells #[Value.slice none 0 0, .int .i64 0, .bool false, .bool false, .slice none 0 0, .int .i64 0, .bool false, .bool false] 29)) w' → w'.ownsRow base0 5 1 (.slice l.Ai inn.length l.ci) inn.length (bcells inn) := fun w' hO => own_onlyNil HOW.out (HX.out.only.thenNil hO)
          have hNN : inn.length + L = in6.length := by rw [hI6, List.length_append, List.length_take, ← hfr, hf]; omega
          have hy6 : bcells inn ++ bcells (fr.take L) = bcells in6 := by rw [hI6, bcells_append]
          have m63 : inn.length + L ≤ maxLen := by unfold maxLen; omega
          have mby : (inn.length + L) * 1 ≤ 140737488355328 := by omega
          have hs3 := HX.out.size
          have mba : ∀ w', Only Nil w w' → base0 ≤ w'.heap.size := fun w' hO => Nat.le_trans hb hO.size
          have HRD := Lib.hid hrd
          have HOS := Lib.hid how
          have HNN := Lib.hid hNN
          have HY6 := Lib.hid hy6
          have H6 := Lib.hid hin6
          have HN := Lib.hid hN
          have M63 := Lib.hid m63
          have MBY := Lib.hid mby
          have MBA := Lib.hid mba
          have HS3 := Lib.hid hs3
          clear hMM hrd how hNN hy6 hin6 hI6 hN m63 mby mba hs3 hf hfr
          go_wp2_with fail
          go_region_law (refine step_append_rd _ (by rfl) (.tmp 48) (.tmp 51) _ (by rfl) base0 5 i0 (.int .u8 0) 1 1 Try.underlying22 hi0 hz0 hz1 hz2 rfl (by decide) (.slice l.Ai inn.length l.ci) inn.length (bcells inn) (by simp [Act.eval]) (HOS.out _ ((Only.refl _ _).drew)) w.heap.size Ax L C (bcells (fr.take L)) (by simp [Act.eval]) (HRD.out _ ((Only.refl _ _).drew)) (bcells_one _) in6.length HNN.out (bcells in6) HY6.out M63.out MBY.out (MBA.out _ (HX.out.only.drew)) ?_; intro A5 c5 w5 hc5 hown5 hgr5 hat5; have hb5 := (HX.out.b0.drew).grown hgr5 (fun e => own_blk_ne (HOS.out _ (Only.refl _ _)) HX.out.b0 (by decide) e.symm); have k5 := fun i => hb5.cell i; have f5 := fun i => hb5.frozen i)
          have hnb : ∀ q, (Value.slice A5 in6.length c5).ownBlock = some q → q ≠ w.heap.size ∧ ((Value.slice l.Ai inn.length l.ci).ownBlock = some q ∨ w.heap.size ≤ q) := fun q hq => by
            rcases hat5 with h1 | h1
            · exact ⟨fun e => own_blk_ne (HOS.out _ (Only.refl _ _)) HX.out.b0 (by decide) (by rw [← h1, hq, e]), .inl (h1 ▸ hq)⟩
            · rw [h1] at hq
              injection hq with hq
              have h2 := HS3.out
              have h3 : q = w.heap.size + 3 := by rw [← h2, ← hq]; rfl
              exact ⟨by omega, .inr (by omega)⟩
          have hbp5 := (HX.out.bp.drew).grown hgr5 (fun e => own_blk_ne (HOS.out _ (Only.refl _ _)) HX.out.bp (by decide) e.symm)
          have hb15 := (HX.out.b1.drew).grown hgr5 (fun e => own_blk_ne (HOS.out _ (Only.refl _ _)) HX.out.b1 (by decide) e.symm)
          have hO5 : Only (fun x => (Value.slice l.Ai inn.length l.ci).ownBlock = some x) w w5 := (HX.out.only.drew).any.then_ (Only.of_grown hgr5)
          have HNB := Lib.hid hnb
          have HB5 := Lib.hid hb5
          have HP5 := Lib.hid hbp5
          have HL5 := Lib.hid hb15
          have HO5 := Lib.hid hO5
          have HW5 := Lib.hid hown5
          clear hnb hb5 hbp5 hb15 hO5 hown5 hgr5 hat5
          go_wp2_with fail
          go_meet
          case rel =>
            refine ⟨rfl, by rw [HN.out], A5, c5, ?_⟩
            rw [← H6.out]
            refine ⟨HB5.out.set_ 4 _, ?_, ?_, hc5, ?_, fun q hq => (HNB.out q hq).2, ?_⟩
            · refine Blk.only (S := One w.heap.size) HP5.out ?_ (by unfold One; omega)
              (repeat' (first | with_reducible exact Only.refl _ _ | with_reducible refine Only.setCell ?_ (Or.inl ?_) _ | with_reducible refine Only.drewN ?_ _ | with_reducible refine Only.drew ?_ | with_reducible refine Only.alloc ?_ _ | (exact rfl)))
            · refine Blk.only (S := One w.heap.size) HL5.out ?_ (by unfold One; omega)
              (repeat' (first | with_reducible exact Only.refl _ _ | with_reducible refine Only.setCell ?_ (Or.inl ?_) _ | with_reducible refine Only.drewN ?_ _ | with_reducible refine Only.drew ?_ | with_reducible refine Only.alloc ?_ _ | (exact rfl)))
            · refine own_only (S := One w.heap.size) HW5.out ?_ (fun q hq hx => (HNB.out q hq).1 hx)
              (repeat' (first | with_reducible exact Only.refl _ _ | with_reducible refine Only.setCell ?_ (Or.inl ?_) _ | with_reducible refine Only.drewN ?_ _ | with_reducible refine Only.drew ?_ | with_reducible refine Only.alloc ?_ _ | (exact rfl)))
            · refine HO5.out.trans (S' := One w.heap.size) ?_ (fun x hx => .inr (by unfold One at hx; omega))
              (repeat' (first | with_reducible exact Only.refl _ _ | with_reducible refine Only.setCell ?_ (Or.inl ?_) _ | with_reducible refine Only.drewN ?_ _ | with_reducible refine Only.drew ?_ | with_reducible refine Only.alloc ?_ _ | (exact rfl)))
        · have hNL : M ≤ L := by omega
          have hNLi : (M : Int) ≤ L := by omega
          have hMM := HM.out
          have hNC : (M : Int) ≤ C := by omega
          have hLMi : ¬ (L : Int) ≤ M := by omega
          have hN : takeN ⟨out, base, false, done, inn, seq + D, false, due⟩ ⟨pair, side, seq, ack, fin, data⟩ = M := by
            unfold takeN
            rw [if_neg (by simp), hf]
            dsimp only
            have := HM.out
            omega
          obtain ⟨in6, hin6⟩ : ∃ in6, in6 = takeI ⟨out, base, false, done, inn, seq + D, false, due⟩ ⟨pair, side, seq, ack, fin, data⟩ := ⟨_, rfl⟩
          have hI6 : in6 = inn ++ fr.take M := by
            rw [hin6]
            unfold takeI
            rw [if_neg (by simp), hN, hfr]
          have hrd : ∀ w', Only Nil (((w.alloc (.cells #[Value.slice l.Ao out.length l.co, .int .i64 base, .bool false, .bool done, .slice l.Ai inn.length l.ci, .int .i64 (seq + D), .bool false, .bool due] 29)).alloc (.cells #[.int .i64 pair, .int .i64 side, .int .i64 seq, .int .i64 ack, .bool fin, .slice A data.length c] 33)).alloc (.cells #[Value.slice none 0 0, .int .i64 0, .bool false, .bool false, .slice none 0 0, .int .i64 0, .bool false, .bool false] 29)) w' → Rd w' w.heap.size 1 Ax M (bcells (fr.take M)) := fun w' hO => by
            have h1 := ((HP.out.onlyNil (HX.out.only.thenNil hO) (Nat.le_refl _)).data.cut hD hc)
            dsimp only at h1
            rw [hAx] at h1
            have h2 : (data.drop D) = fr := by rw [← hfr]; unfold fresh; dsimp only; congr 1; omega
            rw [h2] at h1
            have h3 := Bs.take h1 M (by rw [← hfr, hf]; exact hNL)
            unfold Bs at h3
            have h4 : (fr.take M).length = M := by rw [List.length_take, ← hfr, hf]; omega
            rwa [h4] at h3
          have how : ∀ w', Only Nil (((w.alloc (.cells #[Value.slice l.Ao out.length l.co, .int .i64 base, .bool false, .bool done, .slice l.Ai inn.length l.ci, .int .i64 (seq + D), .bool false, .bool due] 29)).alloc (.cells #[.int .i64 pair, .int .i64 side, .int .i64 seq, .int .i64 ack, .bool fin, .slice A data.length c] 33)).alloc (.cells #[Value.slice none 0 0, .int .i64 0, .bool false, .bool false, .slice none 0 0, .int .i64 0, .bool false, .bool false] 29)) w' → w'.ownsRow base0 5 1 (.slice l.Ai inn.length l.ci) inn.length (bcells inn) := fun w' hO => own_onlyNil HOW.out (HX.out.only.thenNil hO)
          have hNN : inn.length + M = in6.length := by rw [hI6, List.length_append, List.length_take, ← hfr, hf]; omega
          have hy6 : bcells inn ++ bcells (fr.take M) = bcells in6 := by rw [hI6, bcells_append]
          have m63 : inn.length + M ≤ maxLen := by unfold maxLen; omega
          have mby : (inn.length + M) * 1 ≤ 140737488355328 := by omega
          have hs3 := HX.out.size
          have mba : ∀ w', Only Nil w w' → base0 ≤ w'.heap.size := fun w' hO => Nat.le_trans hb hO.size
          have HRD := Lib.hid hrd
          have HOS := Lib.hid how
          have HNN := Lib.hid hNN
          have HY6 := Lib.hid hy6
          have H6 := Lib.hid hin6
          have HN := Lib.hid hN
          have M63 := Lib.hid m63
          have MBY := Lib.hid mby
          have MBA := Lib.hid mba
          have HS3 := Lib.hid hs3
          clear hMM hrd how hNN hy6 hin6 hI6 hN m63 mby mba hs3 hf hfr
          go_wp2_with fail
          go_region_law (refine step_append_rd _ (by rfl) (.tmp 48) (.tmp 51) _ (by rfl) base0 5 i0 (.int .u8 0) 1 1 Try.underlying22 hi0 hz0 hz1 hz2 rfl (by decide) (.slice l.Ai inn.length l.ci) inn.length (bcells inn) (by simp [Act.eval]) (HOS.out _ ((Only.refl _ _).drew)) w.heap.size Ax M C (bcells (fr.take M)) (by simp [Act.eval]) (HRD.out _ ((Only.refl _ _).drew)) (bcells_one _) in6.length HNN.out (bcells in6) HY6.out M63.out MBY.out (MBA.out _ (HX.out.only.drew)) ?_; intro A5 c5 w5 hc5 hown5 hgr5 hat5; have hb5 := (HX.out.b0.drew).grown hgr5 (fun e => own_blk_ne (HOS.out _ (Only.refl _ _)) HX.out.b0 (by decide) e.symm); have k5 := fun i => hb5.cell i; have f5 := fun i => hb5.frozen i)
          have hnb : ∀ q, (Value.slice A5 in6.length c5).ownBlock = some q → q ≠ w.heap.size ∧ ((Value.slice l.Ai inn.length l.ci).ownBlock = some q ∨ w.heap.size ≤ q) := fun q hq => by
            rcases hat5 with h1 | h1
            · exact ⟨fun e => own_blk_ne (HOS.out _ (Only.refl _ _)) HX.out.b0 (by decide) (by rw [← h1, hq, e]), .inl (h1 ▸ hq)⟩
            · rw [h1] at hq
              injection hq with hq
              have h2 := HS3.out
              have h3 : q = w.heap.size + 3 := by rw [← h2, ← hq]; rfl
              exact ⟨by omega, .inr (by omega)⟩
          have hbp5 := (HX.out.bp.drew).grown hgr5 (fun e => own_blk_ne (HOS.out _ (Only.refl _ _)) HX.out.bp (by decide) e.symm)
          have hb15 := (HX.out.b1.drew).grown hgr5 (fun e => own_blk_ne (HOS.out _ (Only.refl _ _)) HX.out.b1 (by decide) e.symm)
          have hO5 : Only (fun x => (Value.slice l.Ai inn.length l.ci).ownBlock = some x) w w5 := (HX.out.only.drew).any.then_ (Only.of_grown hgr5)
          have HNB := Lib.hid hnb
          have HB5 := Lib.hid hb5
          have HP5 := Lib.hid hbp5
          have HL5 := Lib.hid hb15
          have HO5 := Lib.hid hO5
          have HW5 := Lib.hid hown5
          clear hnb hb5 hbp5 hb15 hO5 hown5 hgr5 hat5
          go_wp2_with fail
          go_meet
          case rel =>
            refine ⟨rfl, by rw [HN.out], A5, c5, ?_⟩
            rw [← H6.out]
            refine ⟨HB5.out.set_ 4 _, ?_, ?_, hc5, ?_, fun q hq => (HNB.out q hq).2, ?_⟩
            · refine Blk.only (S := One w.heap.size) HP5.out ?_ (by unfold One; omega)
              (repeat' (first | with_reducible exact Only.refl _ _ | with_reducible refine Only.setCell ?_ (Or.inl ?_) _ | with_reducible refine Only.drewN ?_ _ | with_reducible refine Only.drew ?_ | with_reducible refine Only.alloc ?_ _ | (exact rfl)))
            · refine Blk.only (S := One w.heap.size) HL5.out ?_ (by unfold One; omega)
              (repeat' (first | with_reducible exact Only.refl _ _ | with_reducible refine Only.setCell ?_ (Or.inl ?_) _ | with_reducible refine Only.drewN ?_ _ | with_reducible refine Only.drew ?_ | with_reducible refine Only.alloc ?_ _ | (exact rfl)))
            · refine own_only (S := One w.heap.size) HW5.out ?_ (fun q hq hx => (HNB.out q hq).1 hx)
              (repeat' (first | with_reducible exact Only.refl _ _ | with_reducible refine Only.setCell ?_ (Or.inl ?_) _ | with_reducible refine Only.drewN ?_ _ | with_reducible refine Only.drew ?_ | with_reducible refine Only.alloc ?_ _ | (exact rfl)))
            · refine HO5.out.trans (S' := One w.heap.size) ?_ (fun x hx => .inr (by unfold One at hx; omega))
              (repeat' (first | with_reducible exact Only.refl _ _ | with_reducible refine Only.setCell ?_ (Or.inl ?_) _ | with_reducible refine Only.drewN ?_ _ | with_reducible refine Only.drew ?_ | with_reducible refine Only.alloc ?_ _ | (exact rfl)))
    case rest =>
      obtain ⟨rfl, rfl, Ai, ci, hb0, hbp, hb1, hci6, hown6, hsep, hO⟩ := hcut
      obtain ⟨in6, hin6⟩ : ∃ in6, takeI ⟨out, base, closed, done, inn, seq + D, false, due⟩ ⟨pair, side, seq, ack, fin, data⟩ = in6 := ⟨_, rfl⟩
      obtain ⟨N, hN⟩ : ∃ N, takeN ⟨out, base, closed, done, inn, seq + D, false, due⟩ ⟨pair, side, seq, ack, fin, data⟩ = N := ⟨_, rfl⟩
      have hf : (fresh ⟨out, base, closed, done, inn, seq + D, false, due⟩ ⟨pair, side, seq, ack, fin, data⟩).length = L := by
        unfold fresh
        dsimp only
        rw [List.length_drop, ← hL]
        congr 1
        omega
      have hNL : N ≤ L := by
        rw [← hN, ← hf]
        unfold takeN
        split <;> omega
      rw [hin6] at hb0 hci6 hown6 hsep
      rw [hN]
      have hX : takeX ⟨out, base, closed, done, inn, seq + D, false, due⟩ ⟨pair, side, seq, ack, fin, data⟩ = (decide (N = L) && fin) := by unfold takeX; rw [hN, hf]
      have hT : ∀ X, X = (decide (N = L) && fin) → takeE ⟨out, base, closed, done, inn, seq + D, false, due⟩ ⟨pair, side, seq, ack, fin, data⟩ = ⟨out, base, closed, done, in6, if X = true then seq + D + N + 1 else seq + D + N, X, due⟩ := fun X hXX => by
        unfold takeE
        rw [if_neg (by simpa using hno), hX, hN, hin6, ← hXX]
      have hend : ∀ (w' : World) (nx : Int) (X : Bool), X = (decide (N = L) && fin) → nx = (if X = true then seq + D + N + 1 else seq + D + N) → (∀ S : Nat → Prop, (∀ x, w.heap.size ≤ x → x < w.heap.size + 3 → S x) → Only S wc w') →
          TakenPost l ⟨out, base, closed, done, inn, seq + D, false, due⟩ ⟨pair, side, seq, ack, fin, data⟩ base0 w (.returned (.agg #[.slice l.Ao out.length l.co, .int .i64 base, .bool closed, .bool done, .slice Ai in6.length ci, .int .i64 nx, .bool X, .bool due])) w' := by
        intro w' nx X hXX hnx hS
        have hOS := hS (fun x => x = w.heap.size ∨ x = w.heap.size + 1 ∨ x = w.heap.size + 1 + 1) (fun x h1 h2 => by omega)
        unfold TakenPost
        rw [hT X hXX, hnx]
        refine ⟨Ai, ci, rfl, hci6, own_only hown6 hOS (fun q hq hx => ?_), hsep, hO.trans hOS (fun x hx => .inr (by omega))⟩
        rcases hx with hx | hx | hx
        · exact own_blk_ne hown6 hb0 (by decide) (by rw [hq, hx])
        · exact own_blk_ne hown6 hbp (by decide) (by rw [hq, hx])
        · exact own_blk_ne hown6 hb1 (by decide) (by rw [hq, hx])
      have k0 : ∀ i, wc.cell? ⟨w.heap.size, i, none⟩ = #[Value.slice l.Ao out.length l.co, .int .i64 base, .bool closed, .bool done, .slice Ai in6.length ci, .int .i64 (seq + D), .bool false, .bool due][i]? := fun i => hb0.cell i
      have f0 : ∀ i, wc.frozen? ⟨w.heap.size, i, none⟩ = false := fun i => hb0.frozen i
      have kp : ∀ i, wc.cell? ⟨w.heap.size + 1, i, none⟩ = #[.int .i64 pair, .int .i64 side, .int .i64 seq, .int .i64 ack, .bool fin, .slice A data.length c][i]? := fun i => hbp.cell i
      have k1 : ∀ i, wc.cell? ⟨w.heap.size + 1 + 1, i, none⟩ = #[Value.slice none 0 0, .int .i64 0, .bool false, .bool false, .slice none 0 0, .int .i64 0, .bool false, .bool false][i]? := fun i => hb1.cell i
      have f1 : ∀ i, wc.frozen? ⟨w.heap.size + 1 + 1, i, none⟩ = false := fun i => hb1.frozen i
      have hwr4 : IntKind.i64.wrap (seq + D + (N : Int)) = seq + D + N := IntWalk.i64_in _ (by omega)
      have hwr5 : IntKind.i64.wrap (seq + D + (N : Int) + 1) = seq + D + N + 1 := IntWalk.i64_in _ (by omega)
      have HE := Lib.hid hend
      clear hend hT hX hb0 hbp hb1 hown6 hsep hO hin6 hN hf
      by_cases hNe : N = L
      · have hq : ((N : Int) == L) = true := by rw [beq_iff_eq]; omega
        cases fin
        · have HXX := Lib.hid (show false = (decide (N = L) && false) by simp)
          clear hNe
          go_wp2_with fail
          refine bodyPost_ret (v := .agg #[.slice l.Ao out.length l.co, .int .i64 base, .bool closed, .bool done, .slice Ai in6.length ci, .int .i64 (seq + D + N), .bool false, .bool due]) (by simp [results, Try.results33, go_sem, k1]) rfl ?_
          refine HE.out _ _ _ HXX.out rfl fun S s0 => ?_
          (repeat' (first | with_reducible exact Only.refl _ _ | with_reducible refine Only.setCell ?_ (Or.inl ?_) _ | with_reducible refine Only.drewN ?_ _ | with_reducible refine Only.drew ?_ | with_reducible refine Only.alloc ?_ _ | (exact s0 _ (by dsimp only; omega) (by dsimp only; omega))))
        · have HXX := Lib.hid (show true = (decide (N = L) && true) by simp [hNe])
          clear hNe
          go_wp2_with fail
          refine bodyPost_ret (v := .agg #[.slice l.Ao out.length l.co, .int .i64 base, .bool closed, .bool done, .slice Ai in6.length ci, .int .i64 (seq + D + N + 1), .bool true, .bool due]) (by simp [results, Try.results33, go_sem, k1]) rfl ?_
          refine HE.out _ _ _ HXX.out rfl fun S s0 => ?_
          (repeat' (first | with_reducible exact Only.refl _ _ | with_reducible refine Only.setCell ?_ (Or.inl ?_) _ | with_reducible refine Only.drewN ?_ _ | with_reducible refine Only.drew ?_ | with_reducible refine Only.alloc ?_ _ | (exact s0 _ (by dsimp only; omega) (by dsimp only; omega))))
      · have hq : ((N : Int) == L) = false := by rw [beq_eq_false_iff_ne]; omega
        have HXX := Lib.hid (show false = (decide (N = L) && fin) by simp [hNe])
        clear hNe
        go_wp2_with fail
        refine bodyPost_ret (v := .agg #[.slice l.Ao out.length l.co, .int .i64 base, .bool closed, .bool done, .slice Ai in6.length ci, .int .i64 (seq + D + N), .bool false, .bool due]) (by simp [results, Try.results33, go_sem, k1]) rfl ?_
        refine HE.out _ _ _ HXX.out rfl fun S s0 => ?_
        (repeat' (first | with_reducible exact Only.refl _ _ | with_reducible refine Only.setCell ?_ (Or.inl ?_) _ | with_reducible refine Only.drewN ?_ _ | with_reducible refine Only.drew ?_ | with_reducible refine Only.alloc ?_ _ | (exact s0 _ (by dsimp only; omega) (by dsimp only; omega))))

end Go.Proofs.Ytfichoekjjcjiaa
