/-
  Walks of ref43: Receive.
  Conditions: the slices of the end and of the packet can be read, each has at most 2 to the power 40 bytes.
-/
import Derived.Test.YtfichoekjjcjiaaStR7
import Derived.Deep.Cut
import Derived.Deep.DeepCutAuto
namespace Go.Proofs.Ytfichoekjjcjiaa
open Go.RowKit
namespace Ref

/-- The boxes of an end, a packet and the result. -/
structure Boxes3 (w w2 : World) (l : Loc) (e : E) (A : Option Addr) (c : Nat) (p : Pk) : Prop where
  only : Only Nil w w2
  size : w2.heap.size = w.heap.size + 3
  b0 : Blk w2 w.heap.size 24 #[Value.slice l.Ao e.out.length l.co, .int .i64 e.base, .bool e.closed, .bool e.done, .slice l.Ai e.inn.length l.ci, .int .i64 e.next, .bool e.ended, .bool e.due]
  bp : Blk w2 (w.heap.size + 1) 26 #[.int .i64 p.pair, .int .i64 p.side, .int .i64 p.seq, .int .i64 p.ack, .bool p.fin, .slice A p.data.length c]
  b1 : Blk w2 (w.heap.size + 1 + 1) 24 #[Value.slice none 0 0, .int .i64 0, .bool false, .bool false, .slice none 0 0, .int .i64 0, .bool false, .bool false]
theorem Boxes3.mk3 (w : World) (l : Loc) (e : E) (A : Option Addr) (c : Nat) (p : Pk) : Boxes3 w (((w.alloc (.cells (ecells l e).toArray 24)).alloc (.cells (pcells A c p).toArray 26)).alloc (.cells (ecells nowhere zE).toArray 24)) l e A c p :=
  ⟨(((Only.refl _ _).alloc _).alloc _).alloc _, by simp, ((Blk.new w _ _).alloc _).alloc _, by
    have := (Blk.new (w.alloc (.cells (ecells l e).toArray 24)) 26 (pcells A c p).toArray).alloc (.cells (ecells nowhere zE).toArray 24)
    rw [World.size_alloc] at this
    exact this, by
    have := Blk.new ((w.alloc (.cells (ecells l e).toArray 24)).alloc (.cells (pcells A c p).toArray 26)) 24 (ecells nowhere zE).toArray
    rw [World.size_alloc, World.size_alloc] at this
    exact this⟩

/-- What is known while Receive runs: the end's box with In in the call's own row; Out is read by way of a row of the call's own. -/
structure RMid (w wc : World) (e : E) (A : Option Addr) (c : Nat) (p : Pk) (Ax : Option Addr) (cx : Nat) (Ai : Option Addr) (ci : Nat) : Prop where
  b0 : Blk wc w.heap.size 24 #[Value.slice Ax e.out.length cx, .int .i64 e.base, .bool e.closed, .bool e.done, .slice Ai e.inn.length ci, .int .i64 e.next, .bool e.ended, .bool e.due]
  bp : Blk wc (w.heap.size + 1) 26 #[.int .i64 p.pair, .int .i64 p.side, .int .i64 p.seq, .int .i64 p.ack, .bool p.fin, .slice A p.data.length c]
  b1 : Blk wc (w.heap.size + 1 + 1) 24 #[Value.slice none 0 0, .int .i64 0, .bool false, .bool false, .slice none 0 0, .int .i64 0, .bool false, .bool false]
  lx : e.out.length ≤ cx
  li : e.inn.length ≤ ci
  inn : wc.ownsRow w.heap.size 5 1 (.slice Ai e.inn.length ci) e.inn.length (bcells e.inn)
  out : ∃ (A0 : Option Addr) (n0 c0 : Nat) (l0 : List UInt8), wc.ownsRow w.heap.size 5 1 (.slice A0 n0 c0) n0 (bcells l0) ∧ n0 = l0.length ∧ (∀ (u : World) (B : Nat), Bs u B A0 l0 → Bs u B Ax e.out) ∧ (∀ q, (Value.slice A0 n0 c0).ownBlock = some q → (Value.slice Ai e.inn.length ci).ownBlock ≠ some q)
  only : Only Nil w wc
theorem RMid.box {w wc w' : World} {e e' : E} {A : Option Addr} {c : Nat} {p : Pk} {Ax : Option Addr} {cx : Nat} {Ai : Option Addr} {ci : Nat} (h : RMid w wc e A c p Ax cx Ai ci) (hO : Only (One w.heap.size) wc w')
    (hb : Blk w' w.heap.size 24 #[Value.slice Ax e'.out.length cx, .int .i64 e'.base, .bool e'.closed, .bool e'.done, .slice Ai e'.inn.length ci, .int .i64 e'.next, .bool e'.ended, .bool e'.due]) (ho : e'.out = e.out) (hi : e'.inn = e.inn) : RMid w w' e' A c p Ax cx Ai ci := by
  obtain ⟨A0, n0, c0, l0, h1, h2, h3, h4⟩ := h.out
  refine ⟨hb, h.bp.only hO (by unfold One; omega), h.b1.only hO (by unfold One; omega), by rw [ho]; exact h.lx, by rw [hi]; exact h.li, ?_, ⟨A0, n0, c0, l0, ?_, h2, ?_, ?_⟩, h.only.trans hO (fun x hx => .inr (Nat.le_of_eq hx.symm))⟩
  · rw [hi]; exact own_only h.inn hO (fun q hq hx => own_blk_ne h.inn h.b0 (by decide) (by rw [hq, hx]))
  · exact own_only h1 hO (fun q hq hx => own_blk_ne h1 h.b0 (by decide) (by rw [hq, hx]))
  · rw [ho]; exact h3
  · rw [hi]; exact h4
theorem RMid.fin {w wc w' : World} {e : E} {A : Option Addr} {c : Nat} {p : Pk} {Ax : Option Addr} {cx : Nat} {Ai : Option Addr} {ci : Nat} (h : RMid w wc e A c p Ax cx Ai ci) (hO : Only (One (w.heap.size + 1 + 1)) wc w') (n : Int) :
    EPost (e, n) w (.returned (.tuple #[.agg #[Value.slice Ax e.out.length cx, .int .i64 e.base, .bool e.closed, .bool e.done, .slice Ai e.inn.length ci, .int .i64 e.next, .bool e.ended, .bool e.due], .int .i64 n])) w' := by
  obtain ⟨A0, n0, c0, l0, h1, rfl, h3, h4⟩ := h.out
  have ho := own_only h1 hO (fun q hq hx => own_blk_ne h1 h.b1 (by decide) (by rw [hq, hx]))
  have hi := own_only h.inn hO (fun q hq hx => own_blk_ne h.inn h.b1 (by decide) (by rw [hq, hx]))
  exact ⟨⟨Ax, cx, Ai, ci⟩, rfl, ⟨h3 _ _ (Bs.of_own ho).1, (Bs.of_own hi).1, h.lx, h.li⟩, h.only.trans hO (fun x hx => .inr (by unfold One at hx; omega))⟩

set_option maxRecDepth 100000 in
set_option maxHeartbeats 4000000 in
theorem receive_any (l : Loc) (e : E) (A : Option Addr) (c : Nat) (p : Pk) (w : World) (h : EB w w.heap.size l e) (hp : PB w w.heap.size A c p) (ho : e.out.length ≤ 1099511627776) (hi : e.inn.length ≤ 1099511627776) :
    Calls Try.prog 17 #[.agg (ecells l e).toArray, .agg (pcells A c p).toArray] w (EPost (recvE e p) w) := by
  obtain ⟨i0, hi0, hz0, hz1, hz2⟩ := info_parts byte_info
  obtain ⟨out, base, closed, done, inn, next, ended, due⟩ := e
  obtain ⟨pair, side, seq, ack, fin, data⟩ := p
  have hbx := Boxes3.mk3 w l ⟨out, base, closed, done, inn, next, ended, due⟩ A c ⟨pair, side, seq, ack, fin, data⟩
  obtain ⟨w2, hw2⟩ : ∃ w2, w2 = ((w.alloc (.cells (ecells l ⟨out, base, closed, done, inn, next, ended, due⟩).toArray 24)).alloc (.cells (pcells A c ⟨pair, side, seq, ack, fin, data⟩).toArray 26)).alloc (.cells (ecells nowhere zE).toArray 24) := ⟨_, rfl⟩
  rw [← hw2] at hbx
  have hV := valid_any l ⟨out, base, closed, done, inn, next, ended, due⟩
  have hPV := pvalid_any A c ⟨pair, side, seq, ack, fin, data⟩
  have hC := copied_any l ⟨out, base, closed, done, inn, next, ended, due⟩
  unfold ecells pcells at hw2 ⊢
  unfold ecells at hV hC
  unfold pcells at hPV
  unfold nowhere zE at hw2
  dsimp only [List.length_nil] at hw2 hV hC hPV ho hi ⊢
  have hErr : ∀ (n : Int) w1 w', Only Nil w w1 → Only (fun x => w.heap.size ≤ x) w1 w' → EPost (zE, n) w (.returned (.tuple #[.agg #[.slice none 0 0, .int .i64 0, .bool false, .bool false, .slice none 0 0, .int .i64 0, .bool false, .bool false], .int .i64 n])) w' := fun n w1 w' hO1 hO =>
    ⟨nowhere, rfl, EB.zero _ _, hO1.trans hO (fun x hx => .inr hx)⟩
  have HErr := Lib.hid hErr
  have HX := Lib.hid hbx
  have HB := Lib.hid h
  have HP := Lib.hid hp
  have HC := Lib.hid (fun w' hE => hC w' hE ho hi)
  have HV := Lib.hid hV
  have HPV := Lib.hid hPV
  clear hbx h hp hV hPV hC hErr ho hi
  go_enter Try.func17, Try.ntmps17
  go_upto_region 1 with fail
  rw [← hw2]
  clear hw2
  have k0 : ∀ i, w2.cell? ⟨w.heap.size, i, none⟩ = #[Value.slice l.Ao out.length l.co, .int .i64 base, .bool closed, .bool done, .slice l.Ai inn.length l.ci, .int .i64 next, .bool ended, .bool due][i]? := fun i => HX.out.b0.cell i
  by_cases hv : VE ⟨out, base, closed, done, inn, next, ended, due⟩
  rotate_left
  · have hr : recvE ⟨out, base, closed, done, inn, next, ended, due⟩ ⟨pair, side, seq, ack, fin, data⟩ = (zE, 1) := by unfold recvE; rw [if_pos (fun h => hv h.1)]
    have HR := Lib.hid hr
    have hV := HV.out
    rw [decide_eq_false hv] at hV
    have HV' := Lib.hid hV
    clear hV hr
    go_wp2_with fail
    refine (HV'.out _).mono ?_
    rintro x w1 ⟨rfl, hO2⟩
    have k1 : ∀ i, w1.cell? ⟨w.heap.size + 1 + 1, i, none⟩ = #[Value.slice none 0 0, .int .i64 0, .bool false, .bool false, .slice none 0 0, .int .i64 0, .bool false, .bool false][i]? := fun i => (HX.out.b1.onlyNil hO2).cell i
    have f1 : ∀ i, w1.frozen? ⟨w.heap.size + 1 + 1, i, none⟩ = false := fun i => (HX.out.b1.onlyNil hO2).frozen i
    have HO2 := Lib.hid (HX.out.only.thenNil hO2)
    clear hO2 k0
    go_wp2_with fail
    refine bodyPost_ret (v := .tuple #[.agg #[.slice none 0 0, .int .i64 0, .bool false, .bool false, .slice none 0 0, .int .i64 0, .bool false, .bool false], .int .i64 1]) (by simp [results, Try.results17, go_sem, k1]) rfl ?_
    rw [HR.out]
    refine HErr.out _ _ _ HO2.out ?_
    (repeat' (first | with_reducible exact Only.refl _ _ | with_reducible refine Only.setCell ?_ (Or.inl ?_) _ | with_reducible refine Only.drewN ?_ _ | with_reducible refine Only.drew ?_ | with_reducible refine Only.alloc ?_ _ | (show w.heap.size ≤ _; dsimp only; omega)))
  have hV := HV.out
  rw [decide_eq_true hv] at hV
  have HV' := Lib.hid hV
  clear hV
  go_wp2_with fail
  refine (HV'.out _).mono ?_
  rintro x w1 ⟨rfl, hO2⟩
  have kp : ∀ i, w1.cell? ⟨w.heap.size + 1, i, none⟩ = #[Value.int .i64 pair, .int .i64 side, .int .i64 seq, .int .i64 ack, .bool fin, .slice A data.length c][i]? := fun i => (HX.out.bp.onlyNil hO2).cell i
  have HO2 := Lib.hid hO2
  clear hO2 k0
  go_wp2_with fail
  refine (HPV.out _).mono ?_
  rintro x w3 ⟨rfl, hO3⟩
  have hO23 := HO2.out.thenNil hO3
  have HO23 := Lib.hid hO23
  clear kp hO3
  by_cases hvp : VP ⟨pair, side, seq, ack, fin, data⟩
  rotate_left
  · have hr : recvE ⟨out, base, closed, done, inn, next, ended, due⟩ ⟨pair, side, seq, ack, fin, data⟩ = (zE, 1) := by unfold recvE; rw [if_pos (fun h => hvp h.2)]
    have HR := Lib.hid hr
    rw [decide_eq_false hvp]
    have k1 : ∀ i, w3.cell? ⟨w.heap.size + 1 + 1, i, none⟩ = #[Value.slice none 0 0, .int .i64 0, .bool false, .bool false, .slice none 0 0, .int .i64 0, .bool false, .bool false][i]? := fun i => (HX.out.b1.onlyNil hO23).cell i
    have f1 : ∀ i, w3.frozen? ⟨w.heap.size + 1 + 1, i, none⟩ = false := fun i => (HX.out.b1.onlyNil hO23).frozen i
    clear hr hO23 hv hvp
    go_wp2_with fail
    refine bodyPost_ret (v := .tuple #[.agg #[.slice none 0 0, .int .i64 0, .bool false, .bool false, .slice none 0 0, .int .i64 0, .bool false, .bool false], .int .i64 1]) (by simp [results, Try.results17, go_sem, k1]) rfl ?_
    rw [HR.out]
    refine HErr.out _ _ _ (HX.out.only.thenNil HO23.out) ?_
    (repeat' (first | with_reducible exact Only.refl _ _ | with_reducible refine Only.setCell ?_ (Or.inl ?_) _ | with_reducible refine Only.drewN ?_ _ | with_reducible refine Only.drew ?_ | with_reducible refine Only.alloc ?_ _ | (show w.heap.size ≤ _; dsimp only; omega)))
  rw [decide_eq_true hvp]
  obtain ⟨e1, he1⟩ : ∃ e1, ackE ⟨out, base, closed, done, inn, next, ended, due⟩ ack = e1 := ⟨_, rfl⟩
  have hin1 : e1.inn = inn := by rw [← he1]; rfl
  have hnx1 : e1.next = next := by rw [← he1]; rfl
  have hen1 : e1.ended = ended := by rw [← he1]; rfl
  have hcl1 : e1.closed = closed := by rw [← he1]; rfl
  have b2 := hv.2.1
  have b3 := hv.2.2.2.1
  have b4 := hvp.2.2.1
  have b5 := hvp.2.2.2.1
  have b6 := hvp.2.2.2.2
  dsimp only at b2 b3 b4 b5 b6
  have hdc : data.length ≤ c := HP.out.c
  have hA1 : ∀ (l3 : Loc) (w3 : World), out.length ≤ l3.co →
      Calls Try.prog 39 #[.agg #[.slice l3.Ao out.length l3.co, .int .i64 base, .bool closed, .bool done, .slice l3.Ai inn.length l3.ci, .int .i64 next, .bool ended, .bool due], .int .i64 ack] w3
        (fun x w' => ∃ (Ax : Option Addr) (cx : Nat), x = .returned (.agg #[.slice Ax e1.out.length cx, .int .i64 e1.base, .bool e1.closed, .bool e1.done, .slice l3.Ai inn.length l3.ci, .int .i64 e1.next, .bool e1.ended, .bool e1.due]) ∧
          e1.out.length ≤ cx ∧ (∀ (u : World) (B : Nat), Bs u B l3.Ao out → Bs u B Ax e1.out) ∧ Only Nil w3 w') := fun l3 w3 hco => by
    have := ack_any l3 ⟨out, base, closed, done, inn, next, ended, due⟩ ack w3 hco hv b5
    unfold AckPost at this
    rw [he1] at this
    exact this
  have HA := Lib.hid hA1
  have HE1 := Lib.hid he1
  have HVV := Lib.hid hv
  have HVP := Lib.hid hvp
  have HE4 := Lib.hid (And.intro hin1 (And.intro hnx1 (And.intro hen1 hcl1)))
  clear hA1 he1 hv hvp hO23 hin1 hnx1 hen1 hcl1
  have k03 : ∀ i, w3.cell? ⟨w.heap.size, i, none⟩ = #[Value.slice l.Ao out.length l.co, .int .i64 base, .bool closed, .bool done, .slice l.Ai inn.length l.ci, .int .i64 next, .bool ended, .bool due][i]? := fun i => (HX.out.b0.onlyNil HO23.out).cell i
  have kp3 : ∀ i, w3.cell? ⟨w.heap.size + 1, i, none⟩ = #[Value.int .i64 pair, .int .i64 side, .int .i64 seq, .int .i64 ack, .bool fin, .slice A data.length c][i]? := fun i => (HX.out.bp.onlyNil HO23.out).cell i
  have HB3 := Lib.hid (HX.out.b0.onlyNil HO23.out)
  have HP3 := Lib.hid (HX.out.bp.onlyNil HO23.out)
  have HR3 := Lib.hid (HX.out.b1.onlyNil HO23.out)
  have HOw := Lib.hid (HX.out.only.thenNil HO23.out)
  go_upto_region 3 with fail
  go_cut [] (fun wc => ∃ (Ax : Option Addr) (cx : Nat) (Ai : Option Addr) (ci : Nat), RMid w wc e1 A c ⟨pair, side, seq, ack, fin, data⟩ Ax cx Ai ci)
  case first =>
    go_region_law (first
      | (go_simp; go_at_call 38; refine (HC.out _ (HB.out.next (HOw.out.drew))).mono ?_; rintro x w4 ⟨l3, rfl, hco3, hci3, ho3, hi3, hne3, hO4⟩; have kp4 := fun i => ((HP3.out.drew).onlyNil hO4).cell i)
      | (go_simp; go_at_call 39; refine (HA.out l3 _ hco3).mono ?_; rintro x w5 ⟨Ax, cx, rfl, hcx5, hrd5, hO5⟩; have hb5 := ((HB3.out.drew).onlyNil hO4).onlyNil hO5; have k05 := fun i => hb5.cell i; have f05 := fun i => hb5.frozen i))
    all_goals
      have hp5 := (((HP3.out.drew).onlyNil hO4).onlyNil hO5)
      have hr5 := (((HR3.out.drew).onlyNil hO4).onlyNil hO5)
      have ho5 := own_base (own_onlyNil ho3 hO5) (base' := w.heap.size) (Nat.le_trans HOw.out.size (Nat.le_refl _))
      have hi5 := own_base (own_onlyNil hi3 hO5) (base' := w.heap.size) (Nat.le_trans HOw.out.size (Nat.le_refl _))
      have hO05 : Only Nil w w5 := ((HOw.out.drew).thenNil hO4).thenNil hO5
      have hm : ∀ u', Only (One w.heap.size) w5 u' → Blk u' w.heap.size 24 #[.slice Ax e1.out.length cx, .int .i64 e1.base, .bool e1.closed, .bool e1.done, .slice l3.Ai inn.length l3.ci, .int .i64 e1.next, .bool e1.ended, .bool e1.due] → RMid w u' e1 A c ⟨pair, side, seq, ack, fin, data⟩ Ax cx l3.Ai l3.ci := fun u' hS hb => by
        have hin1 := HE4.out.1
        have hio := own_only hi5 hS (fun q hq hx => own_blk_ne hi5 hb5 (by decide) (by rw [hq, hx]))
        rw [← hin1] at hb hio
        exact ⟨hb, hp5.only hS (by unfold One; omega), hr5.only hS (by unfold One; omega), hcx5, by rw [hin1]; exact hci3, hio, ⟨l3.Ao, out.length, l3.co, out, own_only ho5 hS (fun q hq hx => own_blk_ne ho5 hb5 (by decide) (by rw [hq, hx])), rfl, hrd5, fun q hq => by rw [hin1]; exact hne3 q hq⟩,
          hO05.trans hS (fun x hx => .inr (Nat.le_of_eq hx.symm))⟩
      have HM := Lib.hid hm
      have HB5 := Lib.hid hb5
      clear hm hb5 hp5 hr5 ho5 hi5 hO05 ho3 hi3 hne3 hO4 hO5 hrd5
      go_wp2_with fail
      go_meet
      case rel =>
        refine ⟨Ax, cx, l3.Ai, l3.ci, HM.out _ ?_ ?_⟩
        · (repeat' (first | with_reducible exact Only.refl _ _ | with_reducible refine Only.setCell ?_ (Or.inl ?_) _ | with_reducible refine Only.drewN ?_ _ | with_reducible refine Only.drew ?_ | with_reducible refine Only.alloc ?_ _ | (exact rfl)))
        · exact Blk.all8 HB5.out rfl _ _ _ _ _ _ _ _
  case rest =>
    obtain ⟨Ax, cx, Ai, ci, hM⟩ := hcut
    clear k03 kp3
    have HM := Lib.hid hM
    clear hM
    have HPD : Hid (∀ u, Only Nil w u → Bs u w.heap.size A data) := Lib.hid (fun u hO => HP.out.data.onlyNil hO (Nat.le_refl _))
    obtain ⟨out1, base1, closed1, done1, inn1, next1, ended1, due1⟩ := e1
    have hin1 := HE4.out.1
    have hnx1 := HE4.out.2.1
    have hen1 := HE4.out.2.2.1
    have hcl1 := HE4.out.2.2.2
    clear HE4
    dsimp only at hin1 hnx1 hen1 hcl1
    subst hin1 hnx1 hen1 hcl1
    have HMM : Hid (RMid w wc ⟨out1, base1, closed1, done1, inn1, next1, ended1, due1⟩ A c ⟨pair, side, seq, ack, fin, data⟩ Ax cx Ai ci) := HM
    obtain ⟨e2, he2⟩ : ∃ e2, takeE ⟨out1, base1, closed1, done1, inn1, next1, ended1, due1⟩ ⟨pair, side, seq, ack, fin, data⟩ = e2 := ⟨_, rfl⟩
    have HE2 := Lib.hid he2
    have k4 : ∀ i, wc.cell? ⟨w.heap.size, i, none⟩ = #[Value.slice Ax out1.length cx, .int .i64 base1, .bool closed1, .bool done1, .slice Ai inn1.length ci, .int .i64 next1, .bool ended1, .bool due1][i]? := fun i => HMM.out.b0.cell i
    have f4 : ∀ i, wc.frozen? ⟨w.heap.size, i, none⟩ = false := fun i => HMM.out.b0.frozen i
    have p4 : ∀ i, wc.cell? ⟨w.heap.size + 1, i, none⟩ = #[Value.int .i64 pair, .int .i64 side, .int .i64 seq, .int .i64 ack, .bool fin, .slice A data.length c][i]? := fun i => HMM.out.bp.cell i
    clear he2
    obtain ⟨T, hT⟩ : ∃ T, decide (¬ takeNo ⟨out1, base1, closed1, done1, inn1, next1, ended1, due1⟩ ⟨pair, side, seq, ack, fin, data⟩) = T := ⟨_, rfl⟩
    have HTT := Lib.hid hT
    clear hT
    go_upto_region 4 with fail
    go_cut [42] (fun v wd => v = .bool T ∧ wd = wc)
    case first =>
      have hwr2 : IntKind.i64.wrap (seq + (data.length : Int)) = seq + data.length := IntWalk.i64_in _ (by omega)
      by_cases h1 : next1 < seq
      · have hd1 : ¬ seq ≤ next1 := by omega
        have hT : T = false := by rw [← HTT.out, decide_eq_false_iff_not]; exact fun h => h (.inl h1)
        have HTF := Lib.hid hT
        clear hT
        go_wp2_with fail
        go_meet
        case rel => exact ⟨by rw [HTF.out], rfl⟩
      · have hd1 : seq ≤ next1 := by omega
        by_cases h2 : seq + data.length < next1
        · have hd2 : ¬ next1 ≤ seq + (data.length : Int) := by omega
          have hT : T = false := by rw [← HTT.out, decide_eq_false_iff_not]; exact fun h => h (.inr (.inl h2))
          have HTF := Lib.hid hT
          clear hT
          go_wp2_with fail
          go_meet
          case rel => exact ⟨by rw [HTF.out], rfl⟩
        · have hd2 : next1 ≤ seq + (data.length : Int) := by omega
          have hT : T = !ended1 := by
            rw [← HTT.out]
            cases ended1
            · exact decide_eq_true (fun h => by rcases h with h | h | h; exact h1 h; exact h2 h; cases h)
            · exact decide_eq_false (fun h => h (.inr (.inr rfl)))
          have HTF := Lib.hid hT
          clear hT
          go_wp2_with fail
          go_meet
          case rel => exact ⟨by rw [HTF.out], rfl⟩
    case rest =>
    obtain ⟨rfl, rfl⟩ := hcut
    go_upto_if 42 with fail
    go_cut [] (fun wd => ∃ (Ai : Option Addr) (ci : Nat), RMid w wd e2 A c ⟨pair, side, seq, ack, fin, data⟩ Ax cx Ai ci)
    case first =>
      by_cases hno : takeNo ⟨out1, base1, closed1, done1, inn1, next1, ended1, due1⟩ ⟨pair, side, seq, ack, fin, data⟩
      · have hE : e2 = ⟨out1, base1, closed1, done1, inn1, next1, ended1, due1⟩ := by rw [← HE2.out]; unfold takeE; rw [if_pos hno]
        have HE := Lib.hid hE
        obtain rfl : T = false := by rw [← HTT.out, decide_eq_false_iff_not]; exact fun h => h hno
        clear hE hno
        go_wp2_with fail
        go_meet
        case rel => exact ⟨Ai, ci, by rw [HE.out]; exact HMM.out⟩
      · obtain rfl : T = true := by rw [← HTT.out]; exact decide_eq_true hno
        have hnx : ¬ (next1 < seq) ∧ ¬ (seq + data.length < next1) ∧ ended1 = false := by
          unfold takeNo at hno
          dsimp only at hno
          refine ⟨fun h => hno (.inl h), fun h => hno (.inr (.inl h)), ?_⟩
          cases ended1
          · rfl
          · exact absurd (.inr (.inr rfl)) hno
        obtain ⟨hn1, hn2, rfl⟩ := hnx
        obtain ⟨D, rfl⟩ : ∃ D : Nat, next1 = seq + D := ⟨(next1 - seq).toNat, by omega⟩
        have hD : D ≤ data.length := by omega
        have hDi : (D : Int) ≤ data.length := by omega
        have hcc : (data.length : Int) ≤ c := by omega
        have hd1 : seq ≤ seq + (D : Int) := by omega
        have hd2 : seq + (D : Int) ≤ seq + (data.length : Int) := by omega
        have hwr : IntKind.i64.wrap (seq + (D : Int) - seq) = D := by rw [IntWalk.i64_in _ (by omega)]; omega
        have hwr2 : IntKind.i64.wrap (seq + (data.length : Int)) = seq + data.length := IntWalk.i64_in _ (by omega)
        obtain ⟨L, hL⟩ : ∃ L, data.length - D = L := ⟨_, rfl⟩
        obtain ⟨C, hC⟩ : ∃ C, c - D = C := ⟨_, rfl⟩
        obtain ⟨Bx, hBx⟩ : ∃ Bx, (if c = D then A else Option.map (fun x => x.add D) A) = Bx := ⟨_, rfl⟩
        obtain ⟨M, hM⟩ : ∃ M, M = 128 - inn1.length := ⟨_, rfl⟩
        have hwr3 : IntKind.i64.wrap (128 - (inn1.length : Int)) = M := by rw [IntWalk.i64_in _ (by omega)]; omega
        obtain ⟨fr, hfr⟩ : ∃ fr, fresh ⟨out1, base1, closed1, done1, inn1, seq + D, false, due1⟩ ⟨pair, side, seq, ack, fin, data⟩ = fr := ⟨_, rfl⟩
        have hfd : data.drop D = fr := by rw [← hfr]; unfold fresh; dsimp only; congr 1; omega
        have hfl : fr.length = L := by rw [← hfd, List.length_drop, hL]
        obtain ⟨N, hN⟩ : ∃ N, takeN ⟨out1, base1, closed1, done1, inn1, seq + D, false, due1⟩ ⟨pair, side, seq, ack, fin, data⟩ = N := ⟨_, rfl⟩
        have hNd : N = if closed1 = true then L else min L M := by rw [← hN]; unfold takeN; rw [hfr, hfl, hM]
        have hNL : N ≤ L := by rw [hNd]; split <;> omega
        have hNLi : (N : Int) ≤ L := by omega
        have hNC : (N : Int) ≤ C := by omega
        obtain ⟨in2, hin2⟩ : ∃ in2, takeI ⟨out1, base1, closed1, done1, inn1, seq + D, false, due1⟩ ⟨pair, side, seq, ack, fin, data⟩ = in2 := ⟨_, rfl⟩
        have hi2 : in2 = if closed1 = true then inn1 else inn1 ++ fr.take N := by rw [← hin2]; unfold takeI; rw [hfr, hN]
        obtain ⟨X, hX⟩ : ∃ X, X = (decide (N = L) && fin) := ⟨_, rfl⟩
        have hE : e2 = ⟨out1, base1, closed1, done1, in2, if X = true then seq + D + N + 1 else seq + D + N, X, due1⟩ := by
          rw [← HE2.out]
          unfold takeE
          rw [if_neg hno, hin2, hN]
          have : takeX ⟨out1, base1, closed1, done1, inn1, seq + D, false, due1⟩ ⟨pair, side, seq, ack, fin, data⟩ = X := by unfold takeX; rw [hN, hfr, hfl, hX]
          rw [this]
        have hrd : ∀ u, Only Nil w u → Rd u w.heap.size 1 Bx N (bcells (fr.take N)) := fun u hO => by
          have h1 := (HPD.out u hO).cut hD hdc
          rw [hBx, hfd] at h1
          have h3 := Bs.take h1 N (by rw [hfl]; exact hNL)
          unfold Bs at h3
          have h4 : (fr.take N).length = N := by rw [List.length_take, hfl]; omega
          rwa [h4] at h3
        have HRD := Lib.hid hrd
        have HE := Lib.hid hE
        have HND := Lib.hid hNd
        have HI2 := Lib.hid hi2
        have HXX := Lib.hid hX
        have HFL := Lib.hid hfl
        have HMN := Lib.hid hM
        clear hrd hE hNd hi2 hX hfl hM hin2 hN hfr hfd hno hn1 hn2
        go_upto_if 55 with fail
        go_cut [7] (fun v wd => v = .int .i64 N ∧ ∃ (Ai : Option Addr) (ci : Nat), RMid w wd ⟨out1, base1, closed1, done1, in2, seq + D, false, due1⟩ A c ⟨pair, side, seq, ack, fin, data⟩ Ax cx Ai ci)
        case first =>
          cases closed1
          rotate_left
          · have hNN : N = L := by rw [HND.out, if_pos rfl]
            have hII : in2 = inn1 := by rw [HI2.out, if_pos rfl]
            have HNN := Lib.hid hNN
            have HII := Lib.hid hII
            clear hNN hII
            go_wp2_with fail
            go_meet
            case rel => exact ⟨by rw [HNN.out], Ai, ci, by rw [HII.out]; exact HMM.out⟩
          · have hII : in2 = inn1 ++ fr.take N := by rw [HI2.out, if_neg (by simp)]
            have HII := Lib.hid hII
            clear hII
            go_upto_region 8 with fail
            go_cut [7] (fun v wd => v = .int .i64 N ∧ wd = wc)
            case first =>
              by_cases hLM : L ≤ M
              · have hLMi : (L : Int) ≤ M := by omega
                have hNN : N = L := by rw [HND.out, if_neg (by simp)]; omega
                have HNN := Lib.hid hNN
                clear hNN
                go_wp2_with fail
                go_meet
                case rel => exact ⟨by rw [HNN.out], rfl⟩
              · have hLMi : ¬ (L : Int) ≤ M := by omega
                have hNN : N = M := by rw [HND.out, if_neg (by simp)]; omega
                have HNN := Lib.hid hNN
                clear hNN
                go_wp2_with fail
                go_meet
                case rel => exact ⟨by rw [HNN.out], rfl⟩
            case rest =>
              obtain ⟨rfl, rfl⟩ := hcut
              have hl2 : inn1.length + N = in2.length := by rw [HII.out, List.length_append, List.length_take, HFL.out]; omega
              have hy2 : bcells inn1 ++ bcells (fr.take N) = bcells in2 := by rw [HII.out, bcells_append]
              have m63 : inn1.length + N ≤ maxLen := by unfold maxLen; omega
              have mby : (inn1.length + N) * 1 ≤ 140737488355328 := by omega
              have HL2 := Lib.hid hl2
              have HY2 := Lib.hid hy2
              have M63 := Lib.hid m63
              have MBY := Lib.hid mby
              clear hl2 hy2 m63 mby
              go_upto_region 9 with fail
              go_region_law (refine step_append_rd _ (by rfl) (.tmp 63) (.tmp 66) _ (by rfl) w.heap.size 5 i0 (.int .u8 0) 1 1 Try.underlying22 hi0 hz0 hz1 hz2 rfl (by decide) (.slice Ai inn1.length ci) inn1.length (bcells inn1) (by simp [Act.eval]) (own_onlyNil HMM.out.inn ((Only.refl _ _).drew)) w.heap.size Bx N C (bcells (fr.take N)) (by simp [Act.eval]) (HRD.out _ (HMM.out.only.drew)) (bcells_one _) in2.length HL2.out (bcells in2) HY2.out M63.out MBY.out (HMM.out.only.drew).size ?_; intro A5 c5 w5 hc5 hown5 hgr5 hat5; have hb5 := (HMM.out.b0.drew).grown hgr5 (fun e => own_blk_ne HMM.out.inn HMM.out.b0 (by decide) e.symm); have k5 := fun i => hb5.cell i; have f5 := fun i => hb5.frozen i)
              have hp5 := (HMM.out.bp.drew).grown hgr5 (fun e => own_blk_ne HMM.out.inn HMM.out.bp (by decide) e.symm)
              have hr5 := (HMM.out.b1.drew).grown hgr5 (fun e => own_blk_ne HMM.out.inn HMM.out.b1 (by decide) e.symm)
              have hO5 : Only Nil w w5 := (HMM.out.only.drew).trans (Only.of_grown hgr5) (fun x hx => .inr (ownBlock_ge HMM.out.inn hx))
              have hou5 : ∃ (A0 : Option Addr) (n0 c0 : Nat) (l0 : List UInt8), w5.ownsRow w.heap.size 5 1 (.slice A0 n0 c0) n0 (bcells l0) ∧ n0 = l0.length ∧ (∀ (u : World) (B : Nat), Bs u B A0 l0 → Bs u B Ax out1) ∧ (∀ q, (Value.slice A0 n0 c0).ownBlock = some q → (Value.slice A5 in2.length c5).ownBlock ≠ some q) := by
                obtain ⟨A0, n0, c0, l0, h1, h2, h3, h4⟩ := HMM.out.out
                refine ⟨A0, n0, c0, l0, own_only (own_onlyNil h1 ((Only.refl _ _).drew)) (Only.of_grown hgr5) (fun q hq hx => h4 q hq hx), h2, h3, fun q hq => ?_⟩
                rcases hat5 with h5 | h5
                · rw [h5]; exact h4 q hq
                · rw [h5]
                  intro h6
                  injection h6 with h6
                  have h7 := own_lt h1 hq
                  have h8 : wc.heap.size = q := h6
                  omega
              have hm : ∀ u', Only (One w.heap.size) w5 u' → Blk u' w.heap.size 24 #[.slice Ax out1.length cx, .int .i64 base1, .bool false, .bool done1, .slice A5 in2.length c5, .int .i64 (seq + D), .bool false, .bool due1] → RMid w u' ⟨out1, base1, false, done1, in2, seq + D, false, due1⟩ A c ⟨pair, side, seq, ack, fin, data⟩ Ax cx A5 c5 := fun u' hS hb => by
                obtain ⟨A0, n0, c0, l0, h1, h2, h3, h4⟩ := hou5
                exact ⟨hb, hp5.only hS (by unfold One; omega), hr5.only hS (by unfold One; omega), HMM.out.lx, hc5, own_only hown5 hS (fun q hq hx => own_blk_ne hown5 hb5 (by decide) (by rw [hq, hx])),
                  ⟨A0, n0, c0, l0, own_only h1 hS (fun q hq hx => own_blk_ne h1 hb5 (by decide) (by rw [hq, hx])), h2, h3, h4⟩, hO5.trans hS (fun x hx => .inr (Nat.le_of_eq hx.symm))⟩
              have HMX := Lib.hid hm
              have HB5 := Lib.hid hb5
              clear hm hb5 hp5 hr5 hO5 hou5 hown5 hgr5 hat5
              go_wp2_with fail
              go_meet
              case rel =>
                refine ⟨rfl, A5, c5, HMX.out _ ?_ ?_⟩
                · (repeat' (first | with_reducible exact Only.refl _ _ | with_reducible refine Only.setCell ?_ (Or.inl ?_) _ | with_reducible refine Only.drewN ?_ _ | with_reducible refine Only.drew ?_ | with_reducible refine Only.alloc ?_ _ | (exact rfl)))
                · exact HB5.out.set_ 4 _
        case rest =>
          obtain ⟨rfl, Aj, cj, hM2⟩ := hcut
          have HM2 := Lib.hid hM2
          clear k4 f4 p4
          have k4 : ∀ i, wc.cell? ⟨w.heap.size, i, none⟩ = #[Value.slice Ax out1.length cx, .int .i64 base1, .bool closed1, .bool done1, .slice Aj in2.length cj, .int .i64 (seq + D), .bool false, .bool due1][i]? := fun i => hM2.b0.cell i
          have f4 : ∀ i, wc.frozen? ⟨w.heap.size, i, none⟩ = false := fun i => hM2.b0.frozen i
          have p4 : ∀ i, wc.cell? ⟨w.heap.size + 1, i, none⟩ = #[Value.int .i64 pair, .int .i64 side, .int .i64 seq, .int .i64 ack, .bool fin, .slice A data.length c][i]? := fun i => hM2.bp.cell i
          clear hM2
          have hwr4 : IntKind.i64.wrap (seq + D + (N : Int)) = seq + D + N := IntWalk.i64_in _ (by omega)
          have hwr5 : IntKind.i64.wrap (seq + D + (N : Int) + 1) = seq + D + N + 1 := IntWalk.i64_in _ (by omega)
          by_cases hNe : N = L
          · have hq : ((N : Int) == L) = true := by rw [beq_iff_eq]; omega
            cases fin
            · have hXf : X = false := by rw [HXX.out]; simp
              have HXF := Lib.hid hXf
              clear hNe hXf
              go_wp2_with fail
              go_meet
              case rel =>
                refine ⟨Aj, cj, ?_⟩
                rw [HE.out, HXF.out, if_neg (by simp)]
                refine HM2.out.box ?_ ?_ rfl rfl
                · (repeat' (first | with_reducible exact Only.refl _ _ | with_reducible refine Only.setCell ?_ (Or.inl ?_) _ | with_reducible refine Only.drewN ?_ _ | with_reducible refine Only.drew ?_ | with_reducible refine Only.alloc ?_ _ | (exact rfl)))
                · exact HM2.out.b0.set_ 5 _
            · have hXf : X = true := by rw [HXX.out]; simp [hNe]
              have HXF := Lib.hid hXf
              clear hNe hXf
              go_wp2_with fail
              go_meet
              case rel =>
                refine ⟨Aj, cj, ?_⟩
                rw [HE.out, HXF.out, if_pos rfl]
                refine HM2.out.box ?_ ?_ rfl rfl
                · (repeat' (first | with_reducible exact Only.refl _ _ | with_reducible refine Only.setCell ?_ (Or.inl ?_) _ | with_reducible refine Only.drewN ?_ _ | with_reducible refine Only.drew ?_ | with_reducible refine Only.alloc ?_ _ | (exact rfl)))
                · first | exact ((HM2.out.b0.set_ 5 _).set_ 6 _).set_ 5 _ | exact (HM2.out.b0.set_ 6 _).set_ 5 _ | exact (HM2.out.b0.set_ 5 _).set_ 6 _
          · have hq : ((N : Int) == L) = false := by rw [beq_eq_false_iff_ne]; omega
            have hXf : X = false := by rw [HXX.out]; simp [hNe]
            have HXF := Lib.hid hXf
            clear hNe hXf
            go_wp2_with fail
            go_meet
            case rel =>
              refine ⟨Aj, cj, ?_⟩
              rw [HE.out, HXF.out, if_neg (by simp)]
              refine HM2.out.box ?_ ?_ rfl rfl
              · (repeat' (first | with_reducible exact Only.refl _ _ | with_reducible refine Only.setCell ?_ (Or.inl ?_) _ | with_reducible refine Only.drewN ?_ _ | with_reducible refine Only.drew ?_ | with_reducible refine Only.alloc ?_ _ | (exact rfl)))
              · exact HM2.out.b0.set_ 5 _
    case rest =>
      obtain ⟨Aj, cj, hM5⟩ := hcut
      have ho2 : e2.out = out1 := by rw [← HE2.out]; exact take_out _ _
      have hr1 : recv1 ⟨out, base, closed1, done, inn1, next1, ended1, due⟩ ⟨pair, side, seq, ack, fin, data⟩ = e2 := by
        unfold recv1
        rw [HE1.out, HE2.out]
      obtain ⟨o2, ba2, cl2, do2, in2, nx2, en2, du2⟩ := e2
      have HM5 := Lib.hid hM5
      have HR1 := Lib.hid hr1
      have k5 : ∀ i, wc.cell? ⟨w.heap.size, i, none⟩ = #[Value.slice Ax o2.length cx, .int .i64 ba2, .bool cl2, .bool do2, .slice Aj in2.length cj, .int .i64 nx2, .bool en2, .bool du2][i]? := fun i => hM5.b0.cell i
      have f5 : ∀ i, wc.frozen? ⟨w.heap.size, i, none⟩ = false := fun i => hM5.b0.frozen i
      have p5 : ∀ i, wc.cell? ⟨w.heap.size + 1, i, none⟩ = #[Value.int .i64 pair, .int .i64 side, .int .i64 seq, .int .i64 ack, .bool fin, .slice A data.length c][i]? := fun i => hM5.bp.cell i
      clear hM5 hr1 ho2 k4 f4 p4
      obtain ⟨du3, hdu3⟩ : ∃ d, d = (du2 || decide (0 < data.length) || fin) := ⟨_, rfl⟩
      have HD3 := Lib.hid hdu3
      clear hdu3
      obtain ⟨T2, hT2⟩ : ∃ T2, (decide (0 < data.length) || fin) = T2 := ⟨_, rfl⟩
      have HT2 := Lib.hid hT2
      clear hT2
      go_upto_region 14 with fail
      go_cut [94] (fun v wd => v = .bool T2 ∧ wd = wc)
      case first =>
        by_cases hl : (0 : Int) < data.length
        · have hl0 : 0 < data.length := by omega
          have hd3 : decide ((0 : Int) < data.length) = true := decide_eq_true hl
          have hd4 : decide (0 < data.length) = true := decide_eq_true hl0
          have hT : T2 = true := by rw [← HT2.out, hd4]; rfl
          have HTF := Lib.hid hT
          clear hT
          go_wp2_with fail
          go_meet
          case rel => exact ⟨by rw [HTF.out], rfl⟩
        · have hl0 : ¬ 0 < data.length := by omega
          have hd3 : decide ((0 : Int) < data.length) = false := decide_eq_false hl
          have hd4 : decide (0 < data.length) = false := decide_eq_false hl0
          have hT : T2 = fin := by rw [← HT2.out, hd4]; rfl
          have HTF := Lib.hid hT
          clear hT
          go_wp2_with fail
          go_meet
          case rel => exact ⟨by rw [HTF.out], rfl⟩
      case rest =>
      obtain ⟨rfl, rfl⟩ := hcut
      have HD4 : Hid (du3 = (du2 || T2)) := Lib.hid (by rw [HD3.out, ← HT2.out, Bool.or_assoc])
      go_upto_if 94 with fail
      go_cut [] (fun wd => RMid w wd ⟨o2, ba2, cl2, do2, in2, nx2, en2, du3⟩ A c ⟨pair, side, seq, ack, fin, data⟩ Ax cx Aj cj)
      case first =>
        cases T2
        · have hd : du3 = du2 := by rw [HD4.out, Bool.or_false]
          have HD := Lib.hid hd
          clear hd
          go_wp2_with fail
          go_meet
          case rel => rw [HD.out]; exact HM5.out
        · have hd : du3 = true := by rw [HD4.out, Bool.or_true]
          have HD := Lib.hid hd
          clear hd
          go_wp2_with fail
          go_meet
          case rel =>
            rw [HD.out]
            refine HM5.out.box ?_ ?_ rfl rfl
            · (repeat' (first | with_reducible exact Only.refl _ _ | with_reducible refine Only.setCell ?_ (Or.inl ?_) _ | with_reducible refine Only.drewN ?_ _ | with_reducible refine Only.drew ?_ | with_reducible refine Only.alloc ?_ _ | (exact rfl)))
            · exact HM5.out.b0.set_ 7 _
      case rest =>
        have HM6 := Lib.hid hcut
        have k6 : ∀ i, wc.cell? ⟨w.heap.size, i, none⟩ = #[Value.slice Ax o2.length cx, .int .i64 ba2, .bool cl2, .bool do2, .slice Aj in2.length cj, .int .i64 nx2, .bool en2, .bool du3][i]? := fun i => hcut.b0.cell i
        have k7 : ∀ i, wc.cell? ⟨w.heap.size + 1 + 1, i, none⟩ = #[Value.slice none 0 0, .int .i64 0, .bool false, .bool false, .slice none 0 0, .int .i64 0, .bool false, .bool false][i]? := fun i => hcut.b1.cell i
        have f7 : ∀ i, wc.frozen? ⟨w.heap.size + 1 + 1, i, none⟩ = false := fun i => hcut.b1.frozen i
        clear hcut k5 f5 p5
        by_cases hg : (1099511626776 : Int) < ba2 ∨ (1099511626776 : Int) < nx2
        · have hr : recvE ⟨out, base, closed1, done, inn1, next1, ended1, due⟩ ⟨pair, side, seq, ack, fin, data⟩ = (zE, 2) := by
            unfold recvE
            rw [if_neg (fun h => h ⟨HVV.out, HVP.out⟩), HR1.out, if_pos hg]
          have HRR := Lib.hid hr
          clear hr
          by_cases hg1 : (1099511626776 : Int) < ba2
          · have hd1 : decide ((1099511626776 : Int) < ba2) = true := decide_eq_true hg1
            clear hg
            go_wp2_with fail
            refine bodyPost_ret (v := .tuple #[.agg #[.slice none 0 0, .int .i64 0, .bool false, .bool false, .slice none 0 0, .int .i64 0, .bool false, .bool false], .int .i64 2]) (by simp [results, Try.results17, go_sem, k7]) rfl ?_
            rw [HRR.out]
            refine HErr.out _ _ _ HM6.out.only ?_
            (repeat' (first | with_reducible exact Only.refl _ _ | with_reducible refine Only.setCell ?_ (Or.inl ?_) _ | with_reducible refine Only.drewN ?_ _ | with_reducible refine Only.drew ?_ | with_reducible refine Only.alloc ?_ _ | (show w.heap.size ≤ _; dsimp only; omega)))
          · have hd1 : decide ((1099511626776 : Int) < ba2) = false := decide_eq_false hg1
            have hd2 : decide ((1099511626776 : Int) < nx2) = true := decide_eq_true (by omega)
            clear hg
            go_wp2_with fail
            refine bodyPost_ret (v := .tuple #[.agg #[.slice none 0 0, .int .i64 0, .bool false, .bool false, .slice none 0 0, .int .i64 0, .bool false, .bool false], .int .i64 2]) (by simp [results, Try.results17, go_sem, k7]) rfl ?_
            rw [HRR.out]
            refine HErr.out _ _ _ HM6.out.only ?_
            (repeat' (first | with_reducible exact Only.refl _ _ | with_reducible refine Only.setCell ?_ (Or.inl ?_) _ | with_reducible refine Only.drewN ?_ _ | with_reducible refine Only.drew ?_ | with_reducible refine Only.alloc ?_ _ | (show w.heap.size ≤ _; dsimp only; omega)))
        · have hr : recvE ⟨out, base, closed1, done, inn1, next1, ended1, due⟩ ⟨pair, side, seq, ack, fin, data⟩ = (⟨o2, ba2, cl2, do2, in2, nx2, en2, du3⟩, 0) := by
            unfold recvE
            rw [if_neg (fun h => h ⟨HVV.out, HVP.out⟩), HR1.out, if_neg hg, HD3.out]
          have HRR := Lib.hid hr
          have hd1 : decide ((1099511626776 : Int) < ba2) = false := decide_eq_false (by omega)
          have hd2 : decide ((1099511626776 : Int) < nx2) = false := decide_eq_false (by omega)
          clear hr hg
          go_wp2_with fail
          refine bodyPost_ret (v := .tuple #[.agg #[.slice Ax o2.length cx, .int .i64 ba2, .bool cl2, .bool do2, .slice Aj in2.length cj, .int .i64 nx2, .bool en2, .bool du3], .int .i64 0]) (by simp [results, Try.results17, go_sem, k7]) rfl ?_
          rw [HRR.out]
          refine HM6.out.fin ?_ 0
          (repeat' (first | with_reducible exact Only.refl _ _ | with_reducible refine Only.setCell ?_ (Or.inl ?_) _ | with_reducible refine Only.drewN ?_ _ | with_reducible refine Only.drew ?_ | with_reducible refine Only.alloc ?_ _ | (exact rfl)))

end Ref
end Go.Proofs.Ytfichoekjjcjiaa
