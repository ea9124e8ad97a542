/-
  Walks of layer 43: Send.
  Conditions: the slices of the end can be read.
-/
import Derived.Test.YtfichoekjjcjiaaStW7
namespace Go.Proofs.Ytfichoekjjcjiaa
open Go.RowKit

def sendE (e : E) (pair side : Int) : E × Pk × Int :=
  if ¬ (VE e ∧ VP ⟨pair, side, 0, 0, false, []⟩) then (zE, zP, 1)
  else ({ e with due := false }, ⟨pair, side, e.base, e.next, e.closed && !e.done && decide (e.out.length ≤ 64), e.out.take 64⟩, 0)
/-- What Send answers. -/
def SPost (r : E × Pk × Int) (w : World) (x : Ending) (w' : World) : Prop :=
  ∃ (l : Loc) (A : Option Addr) (c : Nat), x = .returned (.tuple #[.agg #[.slice l.Ao r.1.out.length l.co, .int .i64 r.1.base, .bool r.1.closed, .bool r.1.done, .slice l.Ai r.1.inn.length l.ci, .int .i64 r.1.next, .bool r.1.ended, .bool r.1.due],
      .agg #[.int .i64 r.2.1.pair, .int .i64 r.2.1.side, .int .i64 r.2.1.seq, .int .i64 r.2.1.ack, .bool r.2.1.fin, .slice A r.2.1.data.length c], .int .i64 r.2.2]) ∧
    EB w' w'.heap.size l r.1 ∧ PB w' w'.heap.size A c r.2.1 ∧ Only Nil w w'

/-- The boxes of Send. -/
structure BoxesS (w w2 : World) (l : Loc) (e : E) : Prop where
  only : Only Nil w w2
  b0 : Blk w2 w.heap.size 29 #[Value.slice l.Ao e.out.length l.co, .int .i64 e.base, .bool e.closed, .bool e.done, .slice l.Ai e.inn.length l.ci, .int .i64 e.next, .bool e.ended, .bool e.due]
  b1 : Blk w2 (w.heap.size + 1) 29 #[Value.slice none 0 0, .int .i64 0, .bool false, .bool false, .slice none 0 0, .int .i64 0, .bool false, .bool false]
  bp : Blk w2 (w.heap.size + 1 + 1) 33 #[.int .i64 0, .int .i64 0, .int .i64 0, .int .i64 0, .bool false, .slice none 0 0]
theorem BoxesS.mk3 (w : World) (l : Loc) (e : E) : BoxesS w (((w.alloc (.cells (ecells l e).toArray 29)).alloc (.cells (ecells nowhere zE).toArray 29)).alloc (.cells (pcells none 0 zP).toArray 33)) l e :=
  ⟨(((Only.refl _ _).alloc _).alloc _).alloc _, ((Blk.new w _ _).alloc _).alloc _, by
    have := (Blk.new (w.alloc (.cells (ecells l e).toArray 29)) 29 (ecells nowhere zE).toArray).alloc (.cells (pcells none 0 zP).toArray 33)
    rw [World.size_alloc] at this
    exact this, by
    have := Blk.new ((w.alloc (.cells (ecells l e).toArray 29)).alloc (.cells (ecells nowhere zE).toArray 29)) 33 (pcells none 0 zP).toArray
    rw [World.size_alloc, World.size_alloc] at this
    exact this⟩

theorem PB.zero (w : World) (B : Nat) : PB w B none 0 zP := ⟨Bs.nil _ _ _, Nat.le_refl _⟩

set_option maxRecDepth 100000 in
set_option maxHeartbeats 1000000 in
theorem send_any (l : Loc) (e : E) (pair side : Int) (w : World) (h : EB w w.heap.size l e) :
    Calls Try.prog 14 #[.agg (ecells l e).toArray, .int .i64 pair, .int .i64 side] w (SPost (sendE e pair side) w) := by
  obtain ⟨out, base, closed, done, inn, next, ended, due⟩ := e
  have hbx := BoxesS.mk3 w l ⟨out, base, closed, done, inn, next, ended, due⟩
  obtain ⟨w2, hw2⟩ : ∃ w2, w2 = ((w.alloc (.cells (ecells l ⟨out, base, closed, done, inn, next, ended, due⟩).toArray 29)).alloc (.cells (ecells nowhere zE).toArray 29)).alloc (.cells (pcells none 0 zP).toArray 33) := ⟨_, rfl⟩
  rw [← hw2] at hbx
  have HX := Lib.hid hbx
  have HB := Lib.hid h
  clear hbx h
  have hV := valid_any l ⟨out, base, closed, done, inn, next, ended, due⟩
  have hPV := pvalid_any none 0 ⟨pair, side, 0, 0, false, []⟩
  have hC := copied_any l ⟨out, base, closed, done, inn, next, ended, due⟩
  unfold ecells pcells at hw2
  unfold ecells at hV hC ⊢
  unfold pcells at hPV
  unfold nowhere zE zP at hw2
  dsimp only [List.length_nil] at hw2 hV hC hPV ⊢
  have HW2 := Lib.hid hw2
  have hErr : ∀ w1 w', Only Nil w2 w1 → Only (fun x => w.heap.size ≤ x) w1 w' → SPost (zE, zP, 1) w (.returned (.tuple #[.agg #[.slice none 0 0, .int .i64 0, .bool false, .bool false, .slice none 0 0, .int .i64 0, .bool false, .bool false],
      .agg #[.int .i64 0, .int .i64 0, .int .i64 0, .int .i64 0, .bool false, .slice none 0 0], .int .i64 1])) w' := fun w1 w' hO1 hO =>
    ⟨nowhere, none, 0, rfl, EB.zero _ _, PB.zero _ _, (HX.out.only.thenNil hO1).trans hO (fun x hx => .inr hx)⟩
  have HErr := Lib.hid hErr
  clear hErr
  by_cases hv : VE ⟨out, base, closed, done, inn, next, ended, due⟩
  rotate_left
  · have hr : sendE ⟨out, base, closed, done, inn, next, ended, due⟩ pair side = (zE, zP, 1) := by unfold sendE; rw [if_pos (fun h => hv h.1)]
    rw [hr]
    rw [decide_eq_false hv] at hV
    have HV := Lib.hid hV
    clear hV hC hPV hr
    go_enter Try.func14, Try.ntmps14
    go_wp2_with fail
    refine (HV.out _).mono ?_
    rintro x w1 ⟨rfl, hO1⟩
    have hO2 : Only Nil w2 w1 := by rw [hw2]; exact hO1
    have k1 : ∀ i, w1.cell? ⟨w.heap.size + 1, i, none⟩ = #[Value.slice none 0 0, .int .i64 0, .bool false, .bool false, .slice none 0 0, .int .i64 0, .bool false, .bool false][i]? := fun i => (HX.out.b1.onlyNil hO2).cell i
    have f1 : ∀ i, w1.frozen? ⟨w.heap.size + 1, i, none⟩ = false := fun i => (HX.out.b1.onlyNil hO2).frozen i
    have kp : ∀ i, w1.cell? ⟨w.heap.size + 1 + 1, i, none⟩ = #[Value.int .i64 0, .int .i64 0, .int .i64 0, .int .i64 0, .bool false, .slice none 0 0][i]? := fun i => (HX.out.bp.onlyNil hO2).cell i
    have fp : ∀ i, w1.frozen? ⟨w.heap.size + 1 + 1, i, none⟩ = false := fun i => (HX.out.bp.onlyNil hO2).frozen i
    go_wp2_with fail
    refine bodyPost_ret (v := .tuple #[.agg #[.slice none 0 0, .int .i64 0, .bool false, .bool false, .slice none 0 0, .int .i64 0, .bool false, .bool false], .agg #[.int .i64 0, .int .i64 0, .int .i64 0, .int .i64 0, .bool false, .slice none 0 0], .int .i64 1]) (by simp [results, Try.results14, go_sem, k1, kp]) rfl ?_
    refine HErr.out _ _ hO2 ?_
    (repeat' (first | with_reducible exact Only.refl _ _ | with_reducible refine Only.setCell ?_ (Or.inl ?_) _ | with_reducible refine Only.drewN ?_ _ | with_reducible refine Only.drew ?_ | with_reducible refine Only.alloc ?_ _ | (show w.heap.size ≤ _; dsimp only; omega)))
  rw [decide_eq_true hv] at hV
  have HV := Lib.hid hV
  clear hV
  by_cases hvp : VP ⟨pair, side, 0, 0, false, []⟩
  rotate_left
  · have hr : sendE ⟨out, base, closed, done, inn, next, ended, due⟩ pair side = (zE, zP, 1) := by unfold sendE; rw [if_pos (fun h => hvp h.2)]
    rw [hr]
    rw [decide_eq_false hvp] at hPV
    have HPV := Lib.hid hPV
    clear hC hPV hr
    go_enter Try.func14, Try.ntmps14
    go_wp2_with fail
    refine (HV.out _).mono ?_
    rintro x w1 ⟨rfl, hO1⟩
    have hO2 : Only Nil w2 w1 := by rw [hw2]; exact hO1
    go_wp2_with fail
    refine (HPV.out _).mono ?_
    rintro x w3 ⟨rfl, hO3⟩
    have hO23 := hO2.thenNil hO3
    have k1 : ∀ i, w3.cell? ⟨w.heap.size + 1, i, none⟩ = #[Value.slice none 0 0, .int .i64 0, .bool false, .bool false, .slice none 0 0, .int .i64 0, .bool false, .bool false][i]? := fun i => (HX.out.b1.onlyNil hO23).cell i
    have f1 : ∀ i, w3.frozen? ⟨w.heap.size + 1, i, none⟩ = false := fun i => (HX.out.b1.onlyNil hO23).frozen i
    have kp : ∀ i, w3.cell? ⟨w.heap.size + 1 + 1, i, none⟩ = #[Value.int .i64 0, .int .i64 0, .int .i64 0, .int .i64 0, .bool false, .slice none 0 0][i]? := fun i => (HX.out.bp.onlyNil hO23).cell i
    have fp : ∀ i, w3.frozen? ⟨w.heap.size + 1 + 1, i, none⟩ = false := fun i => (HX.out.bp.onlyNil hO23).frozen i
    go_wp2_with fail
    refine bodyPost_ret (v := .tuple #[.agg #[.slice none 0 0, .int .i64 0, .bool false, .bool false, .slice none 0 0, .int .i64 0, .bool false, .bool false], .agg #[.int .i64 0, .int .i64 0, .int .i64 0, .int .i64 0, .bool false, .slice none 0 0], .int .i64 1]) (by simp [results, Try.results14, go_sem, k1, kp]) rfl ?_
    refine HErr.out _ _ hO23 ?_
    (repeat' (first | with_reducible exact Only.refl _ _ | with_reducible refine Only.setCell ?_ (Or.inl ?_) _ | with_reducible refine Only.drewN ?_ _ | with_reducible refine Only.drew ?_ | with_reducible refine Only.alloc ?_ _ | (show w.heap.size ≤ _; dsimp only; omega)))
  rw [decide_eq_true hvp] at hPV
  have HPV := Lib.hid hPV
  clear hPV
  have b1 := hv.1
  have b2 := hv.2.1
  dsimp only at b1 b2
  have hC1 := fun w' hE => hC w' hE (by omega) (by omega)
  have HC := Lib.hid hC1
  clear hC hC1
  go_enter Try.func14, Try.ntmps14
  go_wp2_with fail
  refine (HV.out _).mono ?_
  rintro x w1 ⟨rfl, hO1⟩
  have hO2 : Only Nil w2 w1 := by rw [hw2]; exact hO1
  go_wp2_with fail
  refine (HPV.out _).mono ?_
  rintro x w3 ⟨rfl, hO3⟩
  have HO23 := Lib.hid (hO2.thenNil hO3)
  have k03 : ∀ i, w3.cell? ⟨w.heap.size, i, none⟩ = #[Value.slice l.Ao out.length l.co, .int .i64 base, .bool closed, .bool done, .slice l.Ai inn.length l.ci, .int .i64 next, .bool ended, .bool due][i]? := fun i => (HX.out.b0.onlyNil HO23.out).cell i
  clear hO2 hO3 hO1
  go_upto_region 3 with fail
  go_cut [] (fun wc => ∃ l3 : Loc, CMid l3 ⟨out, base, closed, done, inn, next, ended, due⟩ w wc ∧ Blk wc (w.heap.size + 1) 29 (ecells nowhere zE).toArray ∧ Blk wc (w.heap.size + 1 + 1) 33 (pcells none 0 zP).toArray)
  case first =>
    go_wp2_with fail
    refine (HC.out _ (HB.out.next (HX.out.only.thenNil HO23.out))).mono ?_
    rintro x w4 ⟨l3, rfl, hco3, hci3, ho3, hi3, hne3, hO4⟩
    have j0 : ∀ i, w4.cell? ⟨w.heap.size, i, none⟩ = #[Value.slice l.Ao out.length l.co, .int .i64 base, .bool closed, .bool done, .slice l.Ai inn.length l.ci, .int .i64 next, .bool ended, .bool due][i]? := fun i => ((HX.out.b0.onlyNil HO23.out).onlyNil hO4).cell i
    have g0 : ∀ i, w4.frozen? ⟨w.heap.size, i, none⟩ = false := fun i => ((HX.out.b0.onlyNil HO23.out).onlyNil hO4).frozen i
    go_wp2_with fail
    go_meet
    case rel =>
      exact ⟨l3, CMid.of_store (HX.out.only.thenNil HO23.out) (HX.out.b0.onlyNil HO23.out) rfl hco3 hci3 ho3 hi3 hO4, CMid.far ((HX.out.b1.onlyNil HO23.out).onlyNil hO4) (by omega) _ _ _ _ _ _ _ _, CMid.far ((HX.out.bp.onlyNil HO23.out).onlyNil hO4) (by omega) _ _ _ _ _ _ _ _⟩
  case rest =>
    obtain ⟨l3, hM, hb1, hbp⟩ := hcut
    have HM := Lib.hid hM
    have HB1 := Lib.hid hb1
    have HBP := Lib.hid hbp
    have k0 : ∀ i, wc.cell? ⟨w.heap.size, i, none⟩ = #[Value.slice l3.Ao out.length l3.co, .int .i64 base, .bool closed, .bool done, .slice l3.Ai inn.length l3.ci, .int .i64 next, .bool ended, .bool due][i]? := fun i => hM.b0.cell i
    have f0 : ∀ i, wc.frozen? ⟨w.heap.size, i, none⟩ = false := fun i => hM.b0.frozen i
    have hM' := hM
    clear hM hb1 hbp
    obtain ⟨m, hm⟩ : ∃ m, m = min out.length 64 := ⟨_, rfl⟩
    obtain ⟨d, hd⟩ : ∃ d, d = out.take 64 := ⟨_, rfl⟩
    have hdl : d.length = m := by rw [hd, hm, List.length_take]; omega
    have hmc : (m : Int) ≤ l3.co := by have := hM'.co; dsimp only at this; omega
    have hde : ((m : Int) == (out.length : Int)) = decide (out.length ≤ 64) := by
      show decide ((m : Int) = (out.length : Int)) = _
      rw [decide_eq_decide]
      omega
    have HMM := Lib.hid hm
    have HD := Lib.hid hd
    have HDL := Lib.hid hdl
    have HMC := Lib.hid hmc
    have HDE := Lib.hid hde
    clear hd hdl hm hM' hmc hde
    have hB7 : Blk (wc.setCell ⟨w.heap.size, 7, none⟩ (.bool false)) w.heap.size 29 #[Value.slice l3.Ao out.length l3.co, .int .i64 base, .bool closed, .bool done, .slice l3.Ai inn.length l3.ci, .int .i64 next, .bool ended, .bool false] := HM.out.b0.set_ 7 _
    have hO7 : Only (One w.heap.size) wc (wc.setCell ⟨w.heap.size, 7, none⟩ (.bool false)) := by (repeat' (first | with_reducible exact Only.refl _ _ | with_reducible refine Only.setCell ?_ (Or.inl ?_) _ | with_reducible refine Only.drewN ?_ _ | with_reducible refine Only.drew ?_ | with_reducible refine Only.alloc ?_ _ | (exact rfl)))
    have hR : CMid l3 ⟨out, base, closed, done, inn, next, ended, false⟩ w (wc.setCell ⟨w.heap.size, 7, none⟩ (.bool false)) ∧ Blk (wc.setCell ⟨w.heap.size, 7, none⟩ (.bool false)) (w.heap.size + 1) 29 (ecells nowhere zE).toArray ∧ Blk (wc.setCell ⟨w.heap.size, 7, none⟩ (.bool false)) (w.heap.size + 1 + 1) 33 (pcells none 0 zP).toArray :=
      ⟨⟨hB7, HM.out.co, HM.out.ci, own_only HM.out.out hO7 (fun q hq hx => own_blk_ne HM.out.out HM.out.b0 (by decide) (by rw [hq, hx])), own_only HM.out.inn hO7 (fun q hq hx => own_blk_ne HM.out.inn HM.out.b0 (by decide) (by rw [hq, hx])), HM.out.only.trans hO7 (fun x hx => .inr (Nat.le_of_eq hx.symm))⟩,
        HB1.out.far (p := ⟨w.heap.size, 7, none⟩) (show w.heap.size + 1 ≠ w.heap.size by omega) (.bool false), HBP.out.far (p := ⟨w.heap.size, 7, none⟩) (show w.heap.size + 1 + 1 ≠ w.heap.size by omega) (.bool false)⟩
    have HR := Lib.hid hR
    clear hB7 hO7 hR
    go_upto_region 5 with fail
    go_cut [9] (fun v wd => v = .int .i64 m ∧ CMid l3 ⟨out, base, closed, done, inn, next, ended, false⟩ w wd ∧ Blk wd (w.heap.size + 1) 29 (ecells nowhere zE).toArray ∧ Blk wd (w.heap.size + 1 + 1) 33 (pcells none 0 zP).toArray)
    case first =>
      by_cases h64 : out.length ≤ 64
      · have hLi : (out.length : Int) ≤ 64 := by omega
        obtain rfl : m = out.length := by have := HMM.out; omega
        go_wp2_with fail
        go_meet
        case rel => exact ⟨rfl, HR.out⟩
      · have hLi : ¬ (out.length : Int) ≤ 64 := by omega
        obtain rfl : m = 64 := by have := HMM.out; omega
        go_wp2_with fail
        go_meet
        case rel => exact ⟨rfl, HR.out⟩
    case rest =>
      obtain ⟨rfl, hM7, hL7, hP7⟩ := hcut
      have HM7 := Lib.hid hM7
      have HL7 := Lib.hid hL7
      have HP7 := Lib.hid hP7
      have k7 : ∀ i, wc.cell? ⟨w.heap.size, i, none⟩ = #[Value.slice l3.Ao out.length l3.co, .int .i64 base, .bool closed, .bool done, .slice l3.Ai inn.length l3.ci, .int .i64 next, .bool ended, .bool false][i]? := fun i => hM7.b0.cell i
      have p7 : ∀ i, wc.cell? ⟨w.heap.size + 1 + 1, i, none⟩ = #[Value.int .i64 0, .int .i64 0, .int .i64 0, .int .i64 0, .bool false, .slice none 0 0][i]? := fun i => hP7.cell i
      have fp7 : ∀ i, wc.frozen? ⟨w.heap.size + 1 + 1, i, none⟩ = false := fun i => hP7.frozen i
      clear hM7 hL7 hP7
      have hLc := HMC.out
      have hK : ∀ w', Only Nil wc w' → Calls Try.prog 36 #[.slice l3.Ao m l3.co] w' (BytesPost Nil d w') := by
        intro w' hO
        have h1 := own_onlyNil HM7.out.out hO
        have h2 := (Bs.of_own h1).1.take m (by have := HMM.out; dsimp only; omega)
        have h3 : out.take m = d := by have := HMM.out; rw [HD.out, List.take_eq_take_iff]; omega
        dsimp only at h2
        rw [h3] at h2
        have := clone_any l3.Ao l3.co d w' h2 (by have := HMM.out; have := HDL.out; omega)
        rw [HDL.out] at this
        exact this
      have HK := Lib.hid hK
      clear hK
      go_upto_region 6 with fail
      go_cut [] (fun wd => ∃ (A : Option Addr) (c : Nat), CMid l3 ⟨out, base, closed, done, inn, next, ended, false⟩ w wd ∧ Blk wd (w.heap.size + 1) 29 (ecells nowhere zE).toArray ∧
        Blk wd (w.heap.size + 1 + 1) 33 #[.int .i64 pair, .int .i64 side, .int .i64 base, .int .i64 next, .bool false, .slice A d.length c] ∧ d.length ≤ c ∧ wd.ownsRow w.heap.size 5 1 (.slice A d.length c) d.length (bcells d))
      case first =>
        go_region_law (go_simp; go_at_call 36; refine (HK.out _ ((Only.refl _ _).drew)).mono ?_; rintro x w6 ⟨A, c, rfl, hc6, ho6, hO6⟩; have k06 : ∀ i, w6.cell? ⟨w.heap.size, i, none⟩ = #[Value.slice l3.Ao out.length l3.co, .int .i64 base, .bool closed, .bool done, .slice l3.Ai inn.length l3.ci, .int .i64 next, .bool ended, .bool false][i]? := fun i => ((HM7.out.b0.drew).onlyNil hO6).cell i; have kp6 : ∀ i, w6.cell? ⟨w.heap.size + 1 + 1, i, none⟩ = #[Value.int .i64 0, .int .i64 0, .int .i64 0, .int .i64 0, .bool false, .slice none 0 0][i]? := fun i => ((HP7.out.drew).onlyNil hO6).cell i; have fp6 : ∀ i, w6.frozen? ⟨w.heap.size + 1 + 1, i, none⟩ = false := fun i => ((HP7.out.drew).onlyNil hO6).frozen i)
        all_goals
          have hO76 : Only Nil wc w6 := ((Only.refl _ _).drew).thenNil hO6
          have hb6 := HM7.out.b0.onlyNil hO76
          have hp6 := HP7.out.onlyNil hO76
          have h16 := HL7.out.onlyNil hO76
          have hu6 := own_onlyNil HM7.out.out hO76
          have hi6 := own_onlyNil HM7.out.inn hO76
          have hoo6 := own_base ho6 (base' := w.heap.size) HM7.out.only.size
          go_wp2_with fail
          go_meet
          case rel =>
            refine ⟨A, c, ⟨?_, HM7.out.co, HM7.out.ci, ?_, ?_, ?_⟩, ?_, ?_, hc6, ?_⟩
            · exact Blk.only (S := One (w.heap.size + 1 + 1)) hb6 (by (repeat' (first | with_reducible exact Only.refl _ _ | with_reducible refine Only.setCell ?_ (Or.inl ?_) _ | with_reducible refine Only.drewN ?_ _ | with_reducible refine Only.drew ?_ | with_reducible refine Only.alloc ?_ _ | (exact rfl)))) (by unfold One; omega)
            · exact own_only (S := One (w.heap.size + 1 + 1)) hu6 (by (repeat' (first | with_reducible exact Only.refl _ _ | with_reducible refine Only.setCell ?_ (Or.inl ?_) _ | with_reducible refine Only.drewN ?_ _ | with_reducible refine Only.drew ?_ | with_reducible refine Only.alloc ?_ _ | (exact rfl)))) (fun q hq hx => own_blk_ne hu6 hp6 (by decide) (by rw [hq, hx]))
            · exact own_only (S := One (w.heap.size + 1 + 1)) hi6 (by (repeat' (first | with_reducible exact Only.refl _ _ | with_reducible refine Only.setCell ?_ (Or.inl ?_) _ | with_reducible refine Only.drewN ?_ _ | with_reducible refine Only.drew ?_ | with_reducible refine Only.alloc ?_ _ | (exact rfl)))) (fun q hq hx => own_blk_ne hi6 hp6 (by decide) (by rw [hq, hx]))
            · exact (HM7.out.only.thenNil hO76).trans (S' := One (w.heap.size + 1 + 1)) (by (repeat' (first | with_reducible exact Only.refl _ _ | with_reducible refine Only.setCell ?_ (Or.inl ?_) _ | with_reducible refine Only.drewN ?_ _ | with_reducible refine Only.drew ?_ | with_reducible refine Only.alloc ?_ _ | (exact rfl)))) (fun x hx => .inr (by unfold One at hx; omega))
            · exact Blk.only (S := One (w.heap.size + 1 + 1)) h16 (by (repeat' (first | with_reducible exact Only.refl _ _ | with_reducible refine Only.setCell ?_ (Or.inl ?_) _ | with_reducible refine Only.drewN ?_ _ | with_reducible refine Only.drew ?_ | with_reducible refine Only.alloc ?_ _ | (exact rfl)))) (by unfold One; omega)
            · exact (((((hp6.set_ 0 _).set_ 1 _).set_ 2 _).set_ 3 _).set_ 4 _).set_ 5 _
            · exact own_only (S := One (w.heap.size + 1 + 1)) hoo6 (by (repeat' (first | with_reducible exact Only.refl _ _ | with_reducible refine Only.setCell ?_ (Or.inl ?_) _ | with_reducible refine Only.drewN ?_ _ | with_reducible refine Only.drew ?_ | with_reducible refine Only.alloc ?_ _ | (exact rfl)))) (fun q hq hx => own_blk_ne hoo6 hp6 (by decide) (by rw [hq, hx]))
      case rest =>
        obtain ⟨A, c, hM6, hd1, hdp, hdc, hdo⟩ := hcut
        have hE : ∀ (fin' : Bool) (w' : World), fin' = (closed && !done && decide (out.length ≤ 64)) → Only (fun x => x = w.heap.size ∨ x = w.heap.size + 1 ∨ x = w.heap.size + 1 + 1) wc w' → SPost (sendE ⟨out, base, closed, done, inn, next, ended, due⟩ pair side) w (.returned (.tuple #[.agg #[.slice l3.Ao out.length l3.co, .int .i64 base, .bool closed, .bool done, .slice l3.Ai inn.length l3.ci, .int .i64 next, .bool ended, .bool false], .agg #[.int .i64 pair, .int .i64 side, .int .i64 base, .int .i64 next, .bool fin', .slice A d.length c], .int .i64 0])) w' := by
          intro fin' w' hfin hO
          have hr : sendE ⟨out, base, closed, done, inn, next, ended, due⟩ pair side = (⟨out, base, closed, done, inn, next, ended, false⟩, ⟨pair, side, base, next, fin', d⟩, 0) := by
            unfold sendE
            rw [if_neg (fun h => h ⟨hv, hvp⟩), hfin, HD.out]
          rw [hr]
          obtain ⟨h1, h2, h3⟩ := hM6.fin hO (fun x hx => by
            rcases hx with rfl | rfl | rfl
            · exact ⟨Nat.le_refl _, _, _, hM6.b0, by decide⟩
            · exact ⟨by omega, _, _, hd1, by decide⟩
            · exact ⟨by omega, _, _, hdp, by decide⟩)
          have ho' := own_only hdo hO (fun q hq hx => by
            rcases hx with hx | hx | hx
            · exact own_blk_ne hdo hM6.b0 (by decide) (by rw [hq, hx])
            · exact own_blk_ne hdo hd1 (by decide) (by rw [hq, hx])
            · exact own_blk_ne hdo hdp (by decide) (by rw [hq, hx]))
          exact ⟨l3, A, c, rfl, ⟨h1, h2, HM7.out.co, HM7.out.ci⟩, ⟨(Bs.of_own ho').1, hdc⟩, h3⟩
        have HE := Lib.hid hE
        have q0 : ∀ i, wc.cell? ⟨w.heap.size, i, none⟩ = #[Value.slice l3.Ao out.length l3.co, .int .i64 base, .bool closed, .bool done, .slice l3.Ai inn.length l3.ci, .int .i64 next, .bool ended, .bool false][i]? := fun i => hM6.b0.cell i
        have q1 : ∀ i, wc.cell? ⟨w.heap.size + 1, i, none⟩ = #[Value.slice none 0 0, .int .i64 0, .bool false, .bool false, .slice none 0 0, .int .i64 0, .bool false, .bool false][i]? := fun i => hd1.cell i
        have g1 : ∀ i, wc.frozen? ⟨w.heap.size + 1, i, none⟩ = false := fun i => hd1.frozen i
        have qp : ∀ i, wc.cell? ⟨w.heap.size + 1 + 1, i, none⟩ = #[Value.int .i64 pair, .int .i64 side, .int .i64 base, .int .i64 next, .bool false, .slice A d.length c][i]? := fun i => hdp.cell i
        have gp : ∀ i, wc.frozen? ⟨w.heap.size + 1 + 1, i, none⟩ = false := fun i => hdp.frozen i
        clear hM6 hd1 hdp hdo hE
        cases closed
        · go_upto_region 8 with fail
          go_region
          all_goals
            go_wp2_with fail
            refine bodyPost_ret (v := .tuple #[.agg #[.slice l3.Ao out.length l3.co, .int .i64 base, .bool false, .bool done, .slice l3.Ai inn.length l3.ci, .int .i64 next, .bool ended, .bool false], .agg #[.int .i64 pair, .int .i64 side, .int .i64 base, .int .i64 next, .bool false, .slice A d.length c], .int .i64 0]) (by simp [results, Try.results14, go_sem, q1, qp]) rfl ?_
            refine HE.out _ _ (by first | (simp; done) | (rw [HDE.out]; rfl)) ?_
            (repeat' (first | with_reducible exact Only.refl _ _ | with_reducible refine Only.setCell ?_ (Or.inl ?_) _ | with_reducible refine Only.drewN ?_ _ | with_reducible refine Only.drew ?_ | with_reducible refine Only.alloc ?_ _ | (first | exact .inl rfl | exact .inr (.inl rfl) | exact .inr (.inr rfl))))
        cases done
        rotate_left
        · go_upto_region 8 with fail
          go_region
          all_goals
            go_wp2_with fail
            refine bodyPost_ret (v := .tuple #[.agg #[.slice l3.Ao out.length l3.co, .int .i64 base, .bool true, .bool true, .slice l3.Ai inn.length l3.ci, .int .i64 next, .bool ended, .bool false], .agg #[.int .i64 pair, .int .i64 side, .int .i64 base, .int .i64 next, .bool false, .slice A d.length c], .int .i64 0]) (by simp [results, Try.results14, go_sem, q1, qp]) rfl ?_
            refine HE.out _ _ (by first | (simp; done) | (rw [HDE.out]; rfl)) ?_
            (repeat' (first | with_reducible exact Only.refl _ _ | with_reducible refine Only.setCell ?_ (Or.inl ?_) _ | with_reducible refine Only.drewN ?_ _ | with_reducible refine Only.drew ?_ | with_reducible refine Only.alloc ?_ _ | (first | exact .inl rfl | exact .inr (.inl rfl) | exact .inr (.inr rfl))))
        · go_upto_region 8 with fail
          go_region
          all_goals
            go_wp2_with fail
            refine bodyPost_ret (v := .tuple #[.agg #[.slice l3.Ao out.length l3.co, .int .i64 base, .bool true, .bool false, .slice l3.Ai inn.length l3.ci, .int .i64 next, .bool ended, .bool false], .agg #[.int .i64 pair, .int .i64 side, .int .i64 base, .int .i64 next, .bool ((m : Int) == (out.length : Int)), .slice A d.length c], .int .i64 0]) (by simp [results, Try.results14, go_sem, q1, qp]) rfl ?_
            refine HE.out _ _ (by first | (simp; done) | (rw [HDE.out]; rfl)) ?_
            (repeat' (first | with_reducible exact Only.refl _ _ | with_reducible refine Only.setCell ?_ (Or.inl ?_) _ | with_reducible refine Only.drewN ?_ _ | with_reducible refine Only.drew ?_ | with_reducible refine Only.alloc ?_ _ | (first | exact .inl rfl | exact .inr (.inl rfl) | exact .inr (.inr rfl))))

end Go.Proofs.Ytfichoekjjcjiaa
