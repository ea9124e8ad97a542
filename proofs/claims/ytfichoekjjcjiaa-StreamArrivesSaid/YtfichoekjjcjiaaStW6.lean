/-
  Walks of layer 43: Receive.
  Conditions: the slices of the end and of the packet can be read.
-/
import Derived.Test.YtfichoekjjcjiaaStW5
import Derived.Deep.Cut
import Derived.Deep.DeepCutAuto
namespace Go.Proofs.Ytfichoekjjcjiaa
open Go.RowKit

def recv1 (e : E) (p : Pk) : E := takeE (ackE e p.ack) p
def recvE (e : E) (p : Pk) : E × Int :=
  if ¬ (VE e ∧ VP p) then (zE, 1) else if 1099511626776 < (recv1 e p).base ∨ 1099511626776 < (recv1 e p).next then (zE, 2) else ({ recv1 e p with due := (recv1 e p).due || decide (0 < p.data.length) || p.fin }, 0)

theorem ack_inn (e : E) (ack : Int) : (ackE e ack).inn = e.inn := rfl
theorem ack_next (e : E) (ack : Int) : (ackE e ack).next = e.next := rfl
theorem take_out (e : E) (p : Pk) : (takeE e p).out = e.out := by unfold takeE; split <;> rfl

set_option maxRecDepth 100000 in
set_option maxHeartbeats 1000000 in
theorem receive_any (l : Loc) (e : E) (A : Option Addr) (c : Nat) (p : Pk) (w : World) (h : EB w w.heap.size l e) (hp : PB w w.heap.size A c p) :
    Calls Try.prog 12 #[.agg (ecells l e).toArray, .agg (pcells A c p).toArray] w (EPost (recvE e p) w) := by
  obtain ⟨out, base, closed, done, inn, next, ended, due⟩ := e
  obtain ⟨pair, side, seq, ack, fin, data⟩ := p
  have hbx := Boxes3.mk3 w l ⟨out, base, closed, done, inn, next, ended, due⟩ A c ⟨pair, side, seq, ack, fin, data⟩
  obtain ⟨w2, hw2⟩ : ∃ w2, w2 = ((w.alloc (.cells (ecells l ⟨out, base, closed, done, inn, next, ended, due⟩).toArray 29)).alloc (.cells (pcells A c ⟨pair, side, seq, ack, fin, data⟩).toArray 33)).alloc (.cells (ecells nowhere zE).toArray 29) := ⟨_, rfl⟩
  rw [← hw2] at hbx
  have HX := Lib.hid hbx
  have HW2 := Lib.hid hw2
  have HB := Lib.hid h
  have HP := Lib.hid hp
  clear hbx h hp
  have hV := valid_any l ⟨out, base, closed, done, inn, next, ended, due⟩
  have hPV := pvalid_any A c ⟨pair, side, seq, ack, fin, data⟩
  have hC := copied_any l ⟨out, base, closed, done, inn, next, ended, due⟩
  unfold ecells pcells at hw2 ⊢
  unfold ecells at hV hC
  unfold pcells at hPV
  unfold nowhere zE at hw2
  dsimp only [List.length_nil] at hw2 ⊢
  dsimp only at hV hC hPV
  by_cases hv : VE ⟨out, base, closed, done, inn, next, ended, due⟩
  rotate_left
  · have hr : recvE ⟨out, base, closed, done, inn, next, ended, due⟩ ⟨pair, side, seq, ack, fin, data⟩ = (zE, 1) := by unfold recvE; rw [if_pos (fun h => hv h.1)]
    rw [hr]
    rw [decide_eq_false hv] at hV
    have HV := Lib.hid hV
    clear hV hC hPV hr
    go_enter Try.func12, Try.ntmps12
    go_wp2_with fail
    refine (HV.out _).mono ?_
    rintro x w1 ⟨rfl, hO1⟩
    have hO2 : Only Nil w2 w1 := by rw [hw2]; exact hO1
    have k1 : ∀ i, w1.cell? ⟨w.heap.size + 1 + 1, i, none⟩ = #[Value.slice none 0 0, .int .i64 0, .bool false, .bool false, .slice none 0 0, .int .i64 0, .bool false, .bool false][i]? := fun i => (HX.out.b1.onlyNil hO2).cell i
    have f1 : ∀ i, w1.frozen? ⟨w.heap.size + 1 + 1, i, none⟩ = false := fun i => (HX.out.b1.onlyNil hO2).frozen i
    go_wp2_with fail
    refine bodyPost_ret (v := .tuple #[.agg #[.slice none 0 0, .int .i64 0, .bool false, .bool false, .slice none 0 0, .int .i64 0, .bool false, .bool false], .int .i64 1]) (by simp [results, Try.results12, go_sem, k1]) rfl ?_
    refine ⟨nowhere, rfl, EB.zero _ _, (HX.out.only.thenNil hO2).trans (S' := fun x => w.heap.size ≤ x) ?_ (fun x hx => .inr hx)⟩
    (repeat' (first | with_reducible exact Only.refl _ _ | with_reducible refine Only.setCell ?_ (Or.inl ?_) _ | with_reducible refine Only.drewN ?_ _ | with_reducible refine Only.drew ?_ | with_reducible refine Only.alloc ?_ _ | (show w.heap.size ≤ _; dsimp only; omega)))
  rw [decide_eq_true hv] at hV
  have HV := Lib.hid hV
  clear hV
  by_cases hvp : VP ⟨pair, side, seq, ack, fin, data⟩
  rotate_left
  · have hr : recvE ⟨out, base, closed, done, inn, next, ended, due⟩ ⟨pair, side, seq, ack, fin, data⟩ = (zE, 1) := by unfold recvE; rw [if_pos (fun h => hvp h.2)]
    rw [hr]
    rw [decide_eq_false hvp] at hPV
    have HPV := Lib.hid hPV
    clear hC hPV hr
    go_enter Try.func12, Try.ntmps12
    go_wp2_with fail
    refine (HV.out _).mono ?_
    rintro x w1 ⟨rfl, hO1⟩
    have hO2 : Only Nil w2 w1 := by rw [hw2]; exact hO1
    have kp : ∀ i, w1.cell? ⟨w.heap.size + 1, i, none⟩ = #[Value.int .i64 pair, .int .i64 side, .int .i64 seq, .int .i64 ack, .bool fin, .slice A data.length c][i]? := fun i => (HX.out.bp.onlyNil hO2).cell i
    go_wp2_with fail
    refine (HPV.out _).mono ?_
    rintro x w3 ⟨rfl, hO3⟩
    have hO23 := hO2.thenNil hO3
    have k1 : ∀ i, w3.cell? ⟨w.heap.size + 1 + 1, i, none⟩ = #[Value.slice none 0 0, .int .i64 0, .bool false, .bool false, .slice none 0 0, .int .i64 0, .bool false, .bool false][i]? := fun i => (HX.out.b1.onlyNil hO23).cell i
    have f1 : ∀ i, w3.frozen? ⟨w.heap.size + 1 + 1, i, none⟩ = false := fun i => (HX.out.b1.onlyNil hO23).frozen i
    go_wp2_with fail
    refine bodyPost_ret (v := .tuple #[.agg #[.slice none 0 0, .int .i64 0, .bool false, .bool false, .slice none 0 0, .int .i64 0, .bool false, .bool false], .int .i64 1]) (by simp [results, Try.results12, go_sem, k1]) rfl ?_
    refine ⟨nowhere, rfl, EB.zero _ _, (HX.out.only.thenNil hO23).trans (S' := fun x => w.heap.size ≤ x) ?_ (fun x hx => .inr hx)⟩
    (repeat' (first | with_reducible exact Only.refl _ _ | with_reducible refine Only.setCell ?_ (Or.inl ?_) _ | with_reducible refine Only.drewN ?_ _ | with_reducible refine Only.drew ?_ | with_reducible refine Only.alloc ?_ _ | (show w.heap.size ≤ _; dsimp only; omega)))
  rw [decide_eq_true hvp] at hPV
  have HPV := Lib.hid hPV
  clear hPV
  obtain ⟨e1, he1⟩ : ∃ e1, ackE ⟨out, base, closed, done, inn, next, ended, due⟩ ack = e1 := ⟨_, rfl⟩
  obtain ⟨e2, he2⟩ : ∃ e2, takeE e1 ⟨pair, side, seq, ack, fin, data⟩ = e2 := ⟨_, rfl⟩
  have hin1 : e1.inn = inn := by rw [← he1]; rfl
  have hnx1 : e1.next = next := by rw [← he1]; rfl
  have ho2 : e2.out = e1.out := by rw [← he2]; exact take_out _ _
  have b1 := hv.1
  have b2 := hv.2.1
  have b3 := hv.2.2.2.1
  have b4 := hvp.2.2.1
  have b5 := hvp.2.2.2.1
  have b6 := hvp.2.2.2.2
  dsimp only at b1 b2 b3 b4 b5 b6
  have hC1 : ∀ w', Only Nil w w' → Calls Try.prog 35 #[.agg #[.slice l.Ao out.length l.co, .int .i64 base, .bool closed, .bool done, .slice l.Ai inn.length l.ci, .int .i64 next, .bool ended, .bool due]] w' (CopyPost ⟨out, base, closed, done, inn, next, ended, due⟩ w') :=
    fun w' hO => hC w' (HB.out.next hO) (by omega) (by omega)
  have hA1 : ∀ (l3 : Loc) (w3 : World) (b0 : Nat), b0 ≤ w3.heap.size → w3.ownsRow b0 5 1 (.slice l3.Ao out.length l3.co) out.length (bcells out) →
      Calls Try.prog 34 #[.agg #[.slice l3.Ao out.length l3.co, .int .i64 base, .bool closed, .bool done, .slice l3.Ai inn.length l3.ci, .int .i64 next, .bool ended, .bool due], .int .i64 ack] w3
        (fun x w' => ∃ (Ao : Option Addr) (co : Nat), x = .returned (.agg #[.slice Ao e1.out.length co, .int .i64 e1.base, .bool e1.closed, .bool e1.done, .slice l3.Ai inn.length l3.ci, .int .i64 e1.next, .bool e1.ended, .bool e1.due]) ∧
          e1.out.length ≤ co ∧ w'.ownsRow b0 5 1 (.slice Ao e1.out.length co) e1.out.length (bcells e1.out) ∧
          (∀ q, (Value.slice Ao e1.out.length co).ownBlock = some q → (Value.slice l3.Ao out.length l3.co).ownBlock = some q ∨ w3.heap.size ≤ q) ∧ Only Nil w3 w') := fun l3 w3 b0 hb hown => by
    have := ack_any l3 ⟨out, base, closed, done, inn, next, ended, due⟩ b0 ack w3 hb hown hv b5
    unfold AckPost at this
    rw [he1] at this
    exact this
  have hT1 : ∀ (Ao : Option Addr) (co : Nat) (l3 : Loc) (w4 : World) (b0 : Nat), b0 ≤ w4.heap.size → w4.ownsRow b0 5 1 (.slice l3.Ai inn.length l3.ci) inn.length (bcells inn) → Only Nil w w4 →
      Calls Try.prog 33 #[.agg #[.slice Ao e1.out.length co, .int .i64 e1.base, .bool e1.closed, .bool e1.done, .slice l3.Ai inn.length l3.ci, .int .i64 e1.next, .bool e1.ended, .bool e1.due], .agg #[.int .i64 pair, .int .i64 side, .int .i64 seq, .int .i64 ack, .bool fin, .slice A data.length c]] w4
        (fun x w' => ∃ (Ai : Option Addr) (ci : Nat), x = .returned (.agg #[.slice Ao e1.out.length co, .int .i64 e2.base, .bool e2.closed, .bool e2.done, .slice Ai e2.inn.length ci, .int .i64 e2.next, .bool e2.ended, .bool e2.due]) ∧
          e2.inn.length ≤ ci ∧ w'.ownsRow b0 5 1 (.slice Ai e2.inn.length ci) e2.inn.length (bcells e2.inn) ∧
          (∀ q, (Value.slice Ai e2.inn.length ci).ownBlock = some q → (Value.slice l3.Ai inn.length l3.ci).ownBlock = some q ∨ w4.heap.size ≤ q) ∧
          Only (fun x => (Value.slice l3.Ai inn.length l3.ci).ownBlock = some x) w4 w') := fun Ao co l3 w4 b0 hb hown hO => by
    have := taken_any ⟨Ao, co, l3.Ai, l3.ci⟩ e1 A c ⟨pair, side, seq, ack, fin, data⟩ b0 w4 hb (by dsimp only; rw [hin1]; exact hown) (by rw [hin1]; exact b2) (by rw [hnx1]; omega) b4 (HP.out.next hO) b6
    unfold TakenPost at this
    rw [he2] at this
    unfold ecells pcells at this
    dsimp only at this
    rw [hin1] at this
    exact this
  have HC := Lib.hid hC1
  have HA := Lib.hid hA1
  have HT := Lib.hid hT1
  have HE1 := Lib.hid he1
  have HE2 := Lib.hid he2
  clear hC hC1 hA1 hT1 he1 he2 hin1 hnx1
  go_enter Try.func12, Try.ntmps12
  go_wp2_with fail
  refine (HV.out _).mono ?_
  rintro x w1 ⟨rfl, hO1⟩
  have hO2 : Only Nil w2 w1 := by rw [hw2]; exact hO1
  have kp : ∀ i, w1.cell? ⟨w.heap.size + 1, i, none⟩ = #[Value.int .i64 pair, .int .i64 side, .int .i64 seq, .int .i64 ack, .bool fin, .slice A data.length c][i]? := fun i => (HX.out.bp.onlyNil hO2).cell i
  go_wp2_with fail
  refine (HPV.out _).mono ?_
  rintro x w3 ⟨rfl, hO3⟩
  have HO23 := Lib.hid (hO2.thenNil hO3)
  have k03 : ∀ i, w3.cell? ⟨w.heap.size, i, none⟩ = #[Value.slice l.Ao out.length l.co, .int .i64 base, .bool closed, .bool done, .slice l.Ai inn.length l.ci, .int .i64 next, .bool ended, .bool due][i]? := fun i => (HX.out.b0.onlyNil HO23.out).cell i
  have kp3 : ∀ i, w3.cell? ⟨w.heap.size + 1, i, none⟩ = #[Value.int .i64 pair, .int .i64 side, .int .i64 seq, .int .i64 ack, .bool fin, .slice A data.length c][i]? := fun i => (HX.out.bp.onlyNil HO23.out).cell i
  have HB3 := Lib.hid (HX.out.b0.onlyNil HO23.out)
  have HP3 := Lib.hid (HX.out.bp.onlyNil HO23.out)
  have HR3 := Lib.hid (HX.out.b1.onlyNil HO23.out)
  have HOw := Lib.hid (HX.out.only.thenNil HO23.out)
  clear kp hO1 hO2 hO3
  go_upto_region 3 with fail
  go_cut [] (fun wc => ∃ (Ao : Option Addr) (co : Nat) (Ai : Option Addr) (ci : Nat),
    Blk wc w.heap.size 29 #[.slice Ao e1.out.length co, .int .i64 e2.base, .bool e2.closed, .bool e2.done, .slice Ai e2.inn.length ci, .int .i64 e2.next, .bool e2.ended, .bool e2.due] ∧
    Blk wc (w.heap.size + 1) 33 (pcells A c ⟨pair, side, seq, ack, fin, data⟩).toArray ∧
    Blk wc (w.heap.size + 1 + 1) 29 (ecells nowhere zE).toArray ∧
    wc.ownsRow w.heap.size 5 1 (.slice Ao e1.out.length co) e1.out.length (bcells e1.out) ∧ wc.ownsRow w.heap.size 5 1 (.slice Ai e2.inn.length ci) e2.inn.length (bcells e2.inn) ∧
    e1.out.length ≤ co ∧ e2.inn.length ≤ ci ∧ Only Nil w wc)
  case first =>
    go_region_law (first
      | (go_simp; go_at_call 35; refine (HC.out _ (HOw.out.drew)).mono ?_; rintro x w4 ⟨l3, rfl, hco3, hci3, ho3, hi3, hne3, hO4⟩; have kp4 := fun i => ((HP3.out.drew).onlyNil hO4).cell i)
      | (go_simp; go_at_call 34; refine (HA.out l3 _ _ hO4.size ho3).mono ?_; rintro x w5 ⟨Ao, co, rfl, hco5, ho5, hs5, hO5⟩; have kp5 := fun i => (((HP3.out.drew).onlyNil hO4).onlyNil hO5).cell i)
      | (go_simp; go_at_call 33; refine (HT.out Ao co l3 _ _ (Nat.le_trans hO4.size hO5.size) (own_onlyNil hi3 hO5) (((HOw.out.drew).thenNil hO4).thenNil hO5)).mono ?_; rintro x w6 ⟨Ai, ci, rfl, hci6, hi6, hs6, hO6⟩; have hb6 := Blk.only (((HB3.out.drew).onlyNil hO4).onlyNil hO5) hO6 (own_blk_ne (own_onlyNil hi3 hO5) (((HB3.out.drew).onlyNil hO4).onlyNil hO5) (by decide)); have k06 := fun i => hb6.cell i; have f06 := fun i => hb6.frozen i))
    all_goals
      have hpk := (((HP3.out.drew).onlyNil hO4).onlyNil hO5)
      have hrs := (((HR3.out.drew).onlyNil hO4).onlyNil hO5)
      have hp6 := Blk.only hpk hO6 (own_blk_ne (own_onlyNil hi3 hO5) hpk (by decide))
      have hr6 := Blk.only hrs hO6 (own_blk_ne (own_onlyNil hi3 hO5) hrs (by decide))
      have hsz : w.heap.size < w5.heap.size := ((((HB3.out.drew).onlyNil hO4).onlyNil hO5)).lt
      have ho6 := own_only (own_base ho5 (base' := w.heap.size) (Nat.le_trans HOw.out.size (Nat.le_refl _))) hO6 (fun q hq hx => by
        rcases hs5 q hq with h1 | h1
        · exact hne3 q h1 hx
        · have := own_lt hi3 hx; omega)
      have hi6' := own_base hi6 (base' := w.heap.size) (Nat.le_trans HOw.out.size (Nat.le_refl _))
      have hO06 : Only Nil w w6 := (((HOw.out.drew).thenNil hO4).thenNil hO5).trans hO6 (fun x hx => .inr (Nat.le_trans HOw.out.size (ownBlock_ge hi3 hx)))
      go_wp2_with fail
      go_meet
      case rel =>
        refine ⟨Ao, co, Ai, ci, Blk.all8 hb6 rfl _ _ _ _ _ _ _ _, ?_, ?_, ?_, ?_, hco5, hci6, ?_⟩
        · exact Blk.only (S := One w.heap.size) hp6 (by (repeat' (first | with_reducible exact Only.refl _ _ | with_reducible refine Only.setCell ?_ (Or.inl ?_) _ | with_reducible refine Only.drewN ?_ _ | with_reducible refine Only.drew ?_ | with_reducible refine Only.alloc ?_ _ | (exact rfl)))) (by unfold One; omega)
        · exact Blk.only (S := One w.heap.size) hr6 (by (repeat' (first | with_reducible exact Only.refl _ _ | with_reducible refine Only.setCell ?_ (Or.inl ?_) _ | with_reducible refine Only.drewN ?_ _ | with_reducible refine Only.drew ?_ | with_reducible refine Only.alloc ?_ _ | (exact rfl)))) (by unfold One; omega)
        · exact own_only (S := One w.heap.size) ho6 (by (repeat' (first | with_reducible exact Only.refl _ _ | with_reducible refine Only.setCell ?_ (Or.inl ?_) _ | with_reducible refine Only.drewN ?_ _ | with_reducible refine Only.drew ?_ | with_reducible refine Only.alloc ?_ _ | (exact rfl)))) (fun q hq hx => own_blk_ne ho6 hb6 (by decide) (by rw [hq, hx]))
        · exact own_only (S := One w.heap.size) hi6' (by (repeat' (first | with_reducible exact Only.refl _ _ | with_reducible refine Only.setCell ?_ (Or.inl ?_) _ | with_reducible refine Only.drewN ?_ _ | with_reducible refine Only.drew ?_ | with_reducible refine Only.alloc ?_ _ | (exact rfl)))) (fun q hq hx => own_blk_ne hi6' hb6 (by decide) (by rw [hq, hx]))
        · exact hO06.trans (S' := One w.heap.size) (by (repeat' (first | with_reducible exact Only.refl _ _ | with_reducible refine Only.setCell ?_ (Or.inl ?_) _ | with_reducible refine Only.drewN ?_ _ | with_reducible refine Only.drew ?_ | with_reducible refine Only.alloc ?_ _ | (exact rfl)))) (fun x hx => .inr (Nat.le_of_eq hx.symm))
  case rest =>
    obtain ⟨Ao, co, Ai, ci, hb0, hbp, hb1, hwo, hwi, hco, hci, hO⟩ := hcut
    obtain ⟨o2, ba2, cl2, do2, in2, nx2, en2, du2⟩ := e2
    dsimp only at ho2
    subst ho2
    dsimp only at hb0 hwi hci
    have k0 : ∀ i, wc.cell? ⟨w.heap.size, i, none⟩ = #[Value.slice Ao e1.out.length co, .int .i64 ba2, .bool cl2, .bool do2, .slice Ai in2.length ci, .int .i64 nx2, .bool en2, .bool du2][i]? := fun i => hb0.cell i
    have kp : ∀ i, wc.cell? ⟨w.heap.size + 1, i, none⟩ = #[Value.int .i64 pair, .int .i64 side, .int .i64 seq, .int .i64 ack, .bool fin, .slice A data.length c][i]? := fun i => hbp.cell i
    have k1 : ∀ i, wc.cell? ⟨w.heap.size + 1 + 1, i, none⟩ = #[Value.slice none 0 0, .int .i64 0, .bool false, .bool false, .slice none 0 0, .int .i64 0, .bool false, .bool false][i]? := fun i => hb1.cell i
    have f0 : ∀ i, wc.frozen? ⟨w.heap.size, i, none⟩ = false := fun i => hb0.frozen i
    have f1 : ∀ i, wc.frozen? ⟨w.heap.size + 1 + 1, i, none⟩ = false := fun i => hb1.frozen i
    have hr1 : recv1 ⟨out, base, closed, done, inn, next, ended, due⟩ ⟨pair, side, seq, ack, fin, data⟩ = ⟨e1.out, ba2, cl2, do2, in2, nx2, en2, du2⟩ := by
      unfold recv1
      rw [HE1.out, HE2.out]
    have HO := Lib.hid hO
    by_cases hg : (1099511626776 : Int) < ba2 ∨ (1099511626776 : Int) < nx2
    · have hr : recvE ⟨out, base, closed, done, inn, next, ended, due⟩ ⟨pair, side, seq, ack, fin, data⟩ = (zE, 2) := by
        unfold recvE
        rw [if_neg (fun h => h ⟨hv, hvp⟩), hr1, if_pos hg]
      have HR := Lib.hid hr
      clear hb0 hbp hb1 hwo hwi hr hr1 hO
      by_cases hg1 : (1099511626776 : Int) < ba2
      · have hd1 : decide ((1099511626776 : Int) < ba2) = true := decide_eq_true hg1
        go_wp2_with fail
        refine bodyPost_ret (v := .tuple #[.agg #[.slice none 0 0, .int .i64 0, .bool false, .bool false, .slice none 0 0, .int .i64 0, .bool false, .bool false], .int .i64 2]) (by simp [results, Try.results12, go_sem, k1]) rfl ?_
        rw [HR.out]
        refine ⟨nowhere, rfl, EB.zero _ _, HO.out.trans (S' := fun x => w.heap.size ≤ x) ?_ (fun x hx => .inr hx)⟩
        (repeat' (first | with_reducible exact Only.refl _ _ | with_reducible refine Only.setCell ?_ (Or.inl ?_) _ | with_reducible refine Only.drewN ?_ _ | with_reducible refine Only.drew ?_ | with_reducible refine Only.alloc ?_ _ | (first | exact Nat.le_refl _ | (show w.heap.size ≤ _; dsimp only; omega))))
      · have hd1 : decide ((1099511626776 : Int) < ba2) = false := decide_eq_false hg1
        have hd2 : decide ((1099511626776 : Int) < nx2) = true := decide_eq_true (by omega)
        go_wp2_with fail
        refine bodyPost_ret (v := .tuple #[.agg #[.slice none 0 0, .int .i64 0, .bool false, .bool false, .slice none 0 0, .int .i64 0, .bool false, .bool false], .int .i64 2]) (by simp [results, Try.results12, go_sem, k1]) rfl ?_
        rw [HR.out]
        refine ⟨nowhere, rfl, EB.zero _ _, HO.out.trans (S' := fun x => w.heap.size ≤ x) ?_ (fun x hx => .inr hx)⟩
        (repeat' (first | with_reducible exact Only.refl _ _ | with_reducible refine Only.setCell ?_ (Or.inl ?_) _ | with_reducible refine Only.drewN ?_ _ | with_reducible refine Only.drew ?_ | with_reducible refine Only.alloc ?_ _ | (first | exact Nat.le_refl _ | (show w.heap.size ≤ _; dsimp only; omega))))
    · have hd1 : decide ((1099511626776 : Int) < ba2) = false := decide_eq_false (by omega)
      have hd2 : decide ((1099511626776 : Int) < nx2) = false := decide_eq_false (by omega)
      have hE : ∀ (due' : Bool) (w' : World), due' = (du2 || decide (0 < data.length) || fin) → Only (fun x => x = w.heap.size ∨ x = w.heap.size + 1 + 1) wc w' →
          EPost (recvE ⟨out, base, closed, done, inn, next, ended, due⟩ ⟨pair, side, seq, ack, fin, data⟩) w (.returned (.tuple #[.agg #[.slice Ao e1.out.length co, .int .i64 ba2, .bool cl2, .bool do2, .slice Ai in2.length ci, .int .i64 nx2, .bool en2, .bool due'], .int .i64 0])) w' := by
        intro due' w' hdue hOx
        have hr : recvE ⟨out, base, closed, done, inn, next, ended, due⟩ ⟨pair, side, seq, ack, fin, data⟩ = (⟨e1.out, ba2, cl2, do2, in2, nx2, en2, due'⟩, 0) := by
          unfold recvE
          rw [if_neg (fun h => h ⟨hv, hvp⟩), hr1, if_neg hg, hdue]
        rw [hr]
        have ho' := own_only hwo hOx (fun q hq hx => by
          rcases hx with hx | hx
          · exact own_blk_ne hwo hb0 (by decide) (by rw [hq, hx])
          · exact own_blk_ne hwo hb1 (by decide) (by rw [hq, hx]))
        have hi' := own_only hwi hOx (fun q hq hx => by
          rcases hx with hx | hx
          · exact own_blk_ne hwi hb0 (by decide) (by rw [hq, hx])
          · exact own_blk_ne hwi hb1 (by decide) (by rw [hq, hx]))
        exact ⟨⟨Ao, co, Ai, ci⟩, rfl, ⟨(Bs.of_own ho').1, (Bs.of_own hi').1, hco, hci⟩, HO.out.trans hOx (fun x hx => by rcases hx with hx | hx <;> exact .inr (by omega))⟩
      have HE := Lib.hid hE
      clear hb0 hbp hb1 hwo hwi hr1 hO hE
      cases du2
      rotate_left
      · go_wp2_with fail
        refine bodyPost_ret (v := .tuple #[.agg #[.slice Ao e1.out.length co, .int .i64 ba2, .bool cl2, .bool do2, .slice Ai in2.length ci, .int .i64 nx2, .bool en2, .bool true], .int .i64 0]) (by simp [results, Try.results12, go_sem, k1]) rfl ?_
        refine HE.out _ _ (by simp) ?_
        (repeat' (first | with_reducible exact Only.refl _ _ | with_reducible refine Only.setCell ?_ (Or.inl ?_) _ | with_reducible refine Only.drewN ?_ _ | with_reducible refine Only.drew ?_ | with_reducible refine Only.alloc ?_ _ | (first | exact .inl rfl | exact .inr rfl)))
      by_cases hl : (0 : Int) < data.length
      · have hd3 : decide ((0 : Int) < data.length) = true := decide_eq_true hl
        have hl0 : 0 < data.length := by omega
        go_wp2_with fail
        refine bodyPost_ret (v := .tuple #[.agg #[.slice Ao e1.out.length co, .int .i64 ba2, .bool cl2, .bool do2, .slice Ai in2.length ci, .int .i64 nx2, .bool en2, .bool true], .int .i64 0]) (by simp [results, Try.results12, go_sem, k1]) rfl ?_
        refine HE.out _ _ (by simp; omega) ?_
        (repeat' (first | with_reducible exact Only.refl _ _ | with_reducible refine Only.setCell ?_ (Or.inl ?_) _ | with_reducible refine Only.drewN ?_ _ | with_reducible refine Only.drew ?_ | with_reducible refine Only.alloc ?_ _ | (first | exact .inl rfl | exact .inr rfl)))
      · have hd3 : decide ((0 : Int) < data.length) = false := decide_eq_false hl
        have hl0 : ¬ 0 < data.length := by omega
        go_wp2_with fail
        refine bodyPost_ret (v := .tuple #[.agg #[.slice Ao e1.out.length co, .int .i64 ba2, .bool cl2, .bool do2, .slice Ai in2.length ci, .int .i64 nx2, .bool en2, .bool fin], .int .i64 0]) (by simp [results, Try.results12, go_sem, k1]) rfl ?_
        refine HE.out _ _ (by simp; omega) ?_
        (repeat' (first | with_reducible exact Only.refl _ _ | with_reducible refine Only.setCell ?_ (Or.inl ?_) _ | with_reducible refine Only.drewN ?_ _ | with_reducible refine Only.drew ?_ | with_reducible refine Only.alloc ?_ _ | (first | exact .inl rfl | exact .inr rfl)))

end Go.Proofs.Ytfichoekjjcjiaa
