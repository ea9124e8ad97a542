/-
  Walks of layer 43: Close, Read.
  Conditions: the slices of the end can be read.
-/
import Derived.Test.YtfichoekjjcjiaaStW7
namespace Go.Proofs.Ytfichoekjjcjiaa
open Go.RowKit

def closeE (e : E) : E × Int :=
  if ¬ VE e then (zE, 1) else if e.closed = true then (zE, 7) else ({ e with closed := true, due := true, inn := [] }, 0)

set_option maxRecDepth 100000 in
set_option maxHeartbeats 1000000 in
theorem close_any (l : Loc) (e : E) (w : World) (h : EB w w.heap.size l e) :
    Calls Try.prog 24 #[.agg (ecells l e).toArray] w (EPost (closeE e) w) := by
  obtain ⟨out, base, closed, done, inn, next, ended, due⟩ := e
  have hbx := Boxes.mk2 w l ⟨out, base, closed, done, inn, next, ended, due⟩
  obtain ⟨w2, hw2⟩ : ∃ w2, w2 = (w.alloc (.cells (ecells l ⟨out, base, closed, done, inn, next, ended, due⟩).toArray 29)).alloc (.cells (ecells nowhere zE).toArray 29) := ⟨_, rfl⟩
  rw [← hw2] at hbx
  have HX := Lib.hid hbx
  have HB := Lib.hid h
  clear hbx h
  have hV := valid_any l ⟨out, base, closed, done, inn, next, ended, due⟩
  have hC := copied_any l ⟨out, base, closed, done, inn, next, ended, due⟩
  unfold ecells at hw2 hV hC ⊢
  unfold nowhere zE at hw2
  dsimp only [List.length_nil] at hw2 hV hC ⊢
  by_cases hv : VE ⟨out, base, closed, done, inn, next, ended, due⟩
  rotate_left
  · have hr : closeE ⟨out, base, closed, done, inn, next, ended, due⟩ = (zE, 1) := by unfold closeE; rw [if_pos hv]
    rw [hr]
    rw [decide_eq_false hv] at hV
    have HV := Lib.hid hV
    clear hV hC hr
    go_enter Try.func24, Try.ntmps24
    go_wp2_with fail
    refine (HV.out _).mono ?_
    rintro x w1 ⟨rfl, hO1⟩
    have k1 := HX.out.res (by rw [hw2]; exact hO1)
    have f1 := HX.out.fr1 (by rw [hw2]; exact hO1)
    go_wp2_with fail
    refine bodyPost_ret (v := .tuple #[.agg #[.slice none 0 0, .int .i64 0, .bool false, .bool false, .slice none 0 0, .int .i64 0, .bool false, .bool false], .int .i64 1]) (by simp [results, Try.results24, go_sem, k1]) rfl ?_
    refine EPost.err 1 (HX.out.only.thenNil (by rw [hw2]; exact hO1)) fun S s0 => ?_
    (repeat' (first | with_reducible exact Only.refl _ _ | with_reducible refine Only.setCell ?_ (Or.inl ?_) _ | with_reducible refine Only.drewN ?_ _ | with_reducible refine Only.drew ?_ | with_reducible refine Only.alloc ?_ _ | (exact s0 _ (by simp) (by simp))))
  rw [decide_eq_true hv] at hV
  have HV := Lib.hid hV
  clear hV
  cases closed
  rotate_left
  · have hr : closeE ⟨out, base, true, done, inn, next, ended, due⟩ = (zE, 7) := by unfold closeE; rw [if_neg (by simpa using hv), if_pos rfl]
    rw [hr]
    clear hC hr
    go_enter Try.func24, Try.ntmps24
    go_wp2_with fail
    refine (HV.out _).mono ?_
    rintro x w1 ⟨rfl, hO1⟩
    have k0 := HX.out.onlyNil (by rw [hw2]; exact hO1)
    have k1 := HX.out.res (by rw [hw2]; exact hO1)
    have f1 := HX.out.fr1 (by rw [hw2]; exact hO1)
    dsimp only at k0
    go_wp2_with fail
    refine bodyPost_ret (v := .tuple #[.agg #[.slice none 0 0, .int .i64 0, .bool false, .bool false, .slice none 0 0, .int .i64 0, .bool false, .bool false], .int .i64 7]) (by simp [results, Try.results24, go_sem, k1]) rfl ?_
    refine EPost.err 7 (HX.out.only.thenNil (by rw [hw2]; exact hO1)) fun S s0 => ?_
    (repeat' (first | with_reducible exact Only.refl _ _ | with_reducible refine Only.setCell ?_ (Or.inl ?_) _ | with_reducible refine Only.drewN ?_ _ | with_reducible refine Only.drew ?_ | with_reducible refine Only.alloc ?_ _ | (exact s0 _ (by simp) (by simp))))
  have b1 := hv.1
  have b2 := hv.2.1
  dsimp only at b1 b2
  have hC1 := fun w' hE => hC w' hE (by omega) (by omega)
  have HC := Lib.hid hC1
  clear hC hC1
  go_enter Try.func24, Try.ntmps24
  go_wp2_with fail
  refine (HV.out _).mono ?_
  rintro x w1 ⟨rfl, hO1⟩
  have HO2 : Hid (Only Nil w2 w1) := Lib.hid (by rw [hw2]; exact hO1)
  have k0 := HX.out.onlyNil HO2.out
  dsimp only at k0
  clear hO1
  go_upto_region 5 with fail
  go_cut [] (fun wc => ∃ l3 : Loc, CMid l3 ⟨out, base, false, done, inn, next, ended, due⟩ w wc ∧ Blk wc (w.heap.size + 1) 29 (ecells nowhere zE).toArray)
  case first =>
    go_wp2_with fail
    refine (HC.out _ (HB.out.next (HX.out.only.thenNil HO2.out))).mono ?_
    rintro x w4 ⟨l3, rfl, hco3, hci3, ho3, hi3, hne3, hO4⟩
    have j0 := HX.out.onlyNil (HO2.out.thenNil hO4)
    have g0 := HX.out.fr0 (HO2.out.thenNil hO4)
    dsimp only at j0
    go_wp2_with fail
    go_meet
    case rel =>
      exact ⟨l3, CMid.of_store (HX.out.only.thenNil HO2.out) (HX.out.b0.onlyNil HO2.out) rfl hco3 hci3 ho3 hi3 hO4, CMid.far ((HX.out.b1.onlyNil HO2.out).onlyNil hO4) (by omega) _ _ _ _ _ _ _ _⟩
  case rest =>
    obtain ⟨l3, hM, hb1⟩ := hcut
    have HM := Lib.hid hM
    have HB1 := Lib.hid hb1
    have k0 : ∀ i, wc.cell? ⟨w.heap.size, i, none⟩ = #[Value.slice l3.Ao out.length l3.co, .int .i64 base, .bool false, .bool done, .slice l3.Ai inn.length l3.ci, .int .i64 next, .bool ended, .bool due][i]? := fun i => hM.b0.cell i
    have k1 : ∀ i, wc.cell? ⟨w.heap.size + 1, i, none⟩ = #[Value.slice none 0 0, .int .i64 0, .bool false, .bool false, .slice none 0 0, .int .i64 0, .bool false, .bool false][i]? := fun i => hb1.cell i
    have f0 : ∀ i, wc.frozen? ⟨w.heap.size, i, none⟩ = false := fun i => hM.b0.frozen i
    have f1 : ∀ i, wc.frozen? ⟨w.heap.size + 1, i, none⟩ = false := fun i => hb1.frozen i
    clear hM hb1
    go_wp2_with fail
    refine bodyPost_ret (v := .tuple #[.agg #[.slice l3.Ao out.length l3.co, .int .i64 base, .bool true, .bool done, .slice none 0 0, .int .i64 next, .bool ended, .bool true], .int .i64 0]) (by simp [results, Try.results24, go_sem, k1]) rfl ?_
    have hr : closeE ⟨out, base, false, done, inn, next, ended, due⟩ = (⟨out, base, true, done, [], next, ended, true⟩, 0) := by
      unfold closeE
      rw [if_neg (by simpa using hv), if_neg (by simp)]
    rw [hr]
    have hfin := fun w' hO => HM.out.fin (S := fun x => x = w.heap.size ∨ x = w.heap.size + 1) (w' := w') hO (fun x hx => by
      rcases hx with rfl | rfl
      · exact ⟨Nat.le_refl _, _, _, HM.out.b0, by decide⟩
      · exact ⟨by omega, _, _, HB1.out, by decide⟩)
    refine (fun h => ⟨⟨l3.Ao, l3.co, none, 0⟩, rfl, ⟨(hfin _ h).1, Bs.nil _ _ _, HM.out.co, Nat.le_refl _⟩, (hfin _ h).2.2⟩) ?_
    (repeat' (first | with_reducible exact Only.refl _ _ | with_reducible refine Only.setCell ?_ (Or.inl ?_) _ | with_reducible refine Only.drewN ?_ _ | with_reducible refine Only.drew ?_ | with_reducible refine Only.alloc ?_ _ | (first | exact .inl rfl | exact .inr rfl)))

def readE (e : E) (n : Int) : E × List UInt8 × Int :=
  if ¬ VE e ∨ n < 1 then (zE, [], 1) else if e.closed = true then (zE, [], 7) else if e.inn.length = 0 ∧ e.ended = false then (zE, [], 18)
  else ({ e with due := e.due || decide (e.inn.length = 128), inn := e.inn.drop (min n.toNat e.inn.length) }, e.inn.take (min n.toNat e.inn.length), 0)
/-- What Read answers. -/
def RPost (r : E × List UInt8 × Int) (w : World) (x : Ending) (w' : World) : Prop :=
  ∃ (l : Loc) (A : Option Addr) (c : Nat), x = .returned (.tuple #[.agg #[.slice l.Ao r.1.out.length l.co, .int .i64 r.1.base, .bool r.1.closed, .bool r.1.done, .slice l.Ai r.1.inn.length l.ci, .int .i64 r.1.next, .bool r.1.ended, .bool r.1.due], .slice A r.2.1.length c, .int .i64 r.2.2]) ∧
    EB w' w'.heap.size l r.1 ∧ Bs w' w'.heap.size A r.2.1 ∧ r.2.1.length ≤ c ∧ Only Nil w w'

set_option maxRecDepth 100000 in
set_option maxHeartbeats 2000000 in
theorem read_any (l : Loc) (e : E) (n : Int) (w : World) (h : EB w w.heap.size l e) (hn : -9223372036854775808 ≤ n ∧ n ≤ 9223372036854775807) :
    Calls Try.prog 21 #[.agg (ecells l e).toArray, .int .i64 n] w (RPost (readE e n) w) := by
  obtain ⟨out, base, closed, done, inn, next, ended, due⟩ := e
  have hbx := Boxes.mk2 w l ⟨out, base, closed, done, inn, next, ended, due⟩
  obtain ⟨w2, hw2⟩ : ∃ w2, w2 = (w.alloc (.cells (ecells l ⟨out, base, closed, done, inn, next, ended, due⟩).toArray 29)).alloc (.cells (ecells nowhere zE).toArray 29) := ⟨_, rfl⟩
  rw [← hw2] at hbx
  have HX := Lib.hid hbx
  have HB := Lib.hid h
  clear hbx h
  have hV := valid_any l ⟨out, base, closed, done, inn, next, ended, due⟩
  have hC := copied_any l ⟨out, base, closed, done, inn, next, ended, due⟩
  unfold ecells at hw2 hV hC ⊢
  unfold nowhere zE at hw2
  dsimp only [List.length_nil] at hw2 hV hC ⊢
  have hErr : ∀ (k : Int) w1 w', Only Nil w2 w1 → Only (fun x => w.heap.size ≤ x) w1 w' → RPost (zE, [], k) w (.returned (.tuple #[.agg #[.slice none 0 0, .int .i64 0, .bool false, .bool false, .slice none 0 0, .int .i64 0, .bool false, .bool false], .slice none 0 0, .int .i64 k])) w' := fun k w1 w' hO1 hO =>
    ⟨nowhere, none, 0, rfl, EB.zero _ _, Bs.nil _ _ _, Nat.le_refl _, (HX.out.only.thenNil hO1).trans hO (fun x hx => .inr hx)⟩
  have HErr := Lib.hid hErr
  clear hErr
  by_cases hv : VE ⟨out, base, closed, done, inn, next, ended, due⟩
  rotate_left
  · have hr : readE ⟨out, base, closed, done, inn, next, ended, due⟩ n = (zE, [], 1) := by unfold readE; rw [if_pos (.inl hv)]
    rw [hr]
    rw [decide_eq_false hv] at hV
    have HV := Lib.hid hV
    clear hV
    clear hC hr
    go_enter Try.func21, Try.ntmps21
    go_wp2_with fail
    refine (HV.out _).mono ?_
    rintro x w1 ⟨rfl, hO1⟩
    have k1 := HX.out.res (by rw [hw2]; exact hO1)
    have f1 := HX.out.fr1 (by rw [hw2]; exact hO1)
    go_wp2_with fail
    refine bodyPost_ret (v := .tuple #[.agg #[.slice none 0 0, .int .i64 0, .bool false, .bool false, .slice none 0 0, .int .i64 0, .bool false, .bool false], .slice none 0 0, .int .i64 1]) (by simp [results, Try.results21, go_sem, k1]) rfl ?_
    refine HErr.out _ _ _ (by rw [hw2]; exact hO1) ?_
    (repeat' (first | with_reducible exact Only.refl _ _ | with_reducible refine Only.setCell ?_ (Or.inl ?_) _ | with_reducible refine Only.drewN ?_ _ | with_reducible refine Only.drew ?_ | with_reducible refine Only.alloc ?_ _ | (first | exact Nat.le_refl _ | (show w.heap.size ≤ _; dsimp only; omega))))
  rw [decide_eq_true hv] at hV
  have HV := Lib.hid hV
  clear hV
  by_cases hn1 : n < 1
  · have hr : readE ⟨out, base, closed, done, inn, next, ended, due⟩ n = (zE, [], 1) := by unfold readE; rw [if_pos (.inr hn1)]
    rw [hr]
    have hd0 : decide (n < 1) = true := decide_eq_true hn1
    clear hn1
    clear hC hr
    go_enter Try.func21, Try.ntmps21
    go_wp2_with fail
    refine (HV.out _).mono ?_
    rintro x w1 ⟨rfl, hO1⟩
    have k1 := HX.out.res (by rw [hw2]; exact hO1)
    have f1 := HX.out.fr1 (by rw [hw2]; exact hO1)
    go_wp2_with fail
    refine bodyPost_ret (v := .tuple #[.agg #[.slice none 0 0, .int .i64 0, .bool false, .bool false, .slice none 0 0, .int .i64 0, .bool false, .bool false], .slice none 0 0, .int .i64 1]) (by simp [results, Try.results21, go_sem, k1]) rfl ?_
    refine HErr.out _ _ _ (by rw [hw2]; exact hO1) ?_
    (repeat' (first | with_reducible exact Only.refl _ _ | with_reducible refine Only.setCell ?_ (Or.inl ?_) _ | with_reducible refine Only.drewN ?_ _ | with_reducible refine Only.drew ?_ | with_reducible refine Only.alloc ?_ _ | (first | exact Nat.le_refl _ | (show w.heap.size ≤ _; dsimp only; omega))))
  have hd0 : decide (n < 1) = false := decide_eq_false hn1
  have hrd : readE ⟨out, base, closed, done, inn, next, ended, due⟩ n = if closed = true then (zE, [], 7) else if inn.length = 0 ∧ ended = false then (zE, [], 18)
      else (⟨out, base, closed, done, inn.drop (min n.toNat inn.length), next, ended, due || decide (inn.length = 128)⟩, inn.take (min n.toNat inn.length), 0) := by
    unfold readE
    rw [if_neg (by rintro (h | h); exact h hv; exact hn1 h)]
  cases closed
  rotate_left
  · have hr : readE ⟨out, base, true, done, inn, next, ended, due⟩ n = (zE, [], 7) := by rw [hrd, if_pos rfl]
    rw [hr]
    clear hn1 hrd
    clear hC hr
    go_enter Try.func21, Try.ntmps21
    go_wp2_with fail
    refine (HV.out _).mono ?_
    rintro x w1 ⟨rfl, hO1⟩
    have k0 := HX.out.onlyNil (by rw [hw2]; exact hO1)
    dsimp only [List.length_nil] at k0
    have k1 := HX.out.res (by rw [hw2]; exact hO1)
    have f1 := HX.out.fr1 (by rw [hw2]; exact hO1)
    go_wp2_with fail
    refine bodyPost_ret (v := .tuple #[.agg #[.slice none 0 0, .int .i64 0, .bool false, .bool false, .slice none 0 0, .int .i64 0, .bool false, .bool false], .slice none 0 0, .int .i64 7]) (by simp [results, Try.results21, go_sem, k1]) rfl ?_
    refine HErr.out _ _ _ (by rw [hw2]; exact hO1) ?_
    (repeat' (first | with_reducible exact Only.refl _ _ | with_reducible refine Only.setCell ?_ (Or.inl ?_) _ | with_reducible refine Only.drewN ?_ _ | with_reducible refine Only.drew ?_ | with_reducible refine Only.alloc ?_ _ | (first | exact Nat.le_refl _ | (show w.heap.size ≤ _; dsimp only; omega))))
  rw [if_neg (by simp)] at hrd
  by_cases hem : inn.length = 0 ∧ ended = false
  · have hr : readE ⟨out, base, false, done, inn, next, ended, due⟩ n = (zE, [], 18) := by rw [hrd, if_pos hem]
    rw [hr]
    obtain ⟨h1, rfl⟩ := hem
    obtain rfl : inn = [] := List.eq_nil_of_length_eq_zero h1
    clear hn1 hrd
    clear hC hr
    go_enter Try.func21, Try.ntmps21
    go_wp2_with fail
    refine (HV.out _).mono ?_
    rintro x w1 ⟨rfl, hO1⟩
    have k0 := HX.out.onlyNil (by rw [hw2]; exact hO1)
    dsimp only [List.length_nil] at k0
    have k1 := HX.out.res (by rw [hw2]; exact hO1)
    have f1 := HX.out.fr1 (by rw [hw2]; exact hO1)
    go_wp2_with fail
    refine bodyPost_ret (v := .tuple #[.agg #[.slice none 0 0, .int .i64 0, .bool false, .bool false, .slice none 0 0, .int .i64 0, .bool false, .bool false], .slice none 0 0, .int .i64 18]) (by simp [results, Try.results21, go_sem, k1]) rfl ?_
    refine HErr.out _ _ _ (by rw [hw2]; exact hO1) ?_
    (repeat' (first | with_reducible exact Only.refl _ _ | with_reducible refine Only.setCell ?_ (Or.inl ?_) _ | with_reducible refine Only.drewN ?_ _ | with_reducible refine Only.drew ?_ | with_reducible refine Only.alloc ?_ _ | (first | exact Nat.le_refl _ | (show w.heap.size ≤ _; dsimp only; omega))))
  rw [if_neg hem] at hrd
  have b1 := hv.1
  have b2 := hv.2.1
  dsimp only at b1 b2
  have hC1 := fun w' hE => hC w' hE (by omega) (by omega)
  have HC := Lib.hid hC1
  have HRD := Lib.hid hrd
  clear hC hC1 hrd
  obtain ⟨K, hK⟩ : ∃ K, K = min n.toNat inn.length := ⟨_, rfl⟩
  have HK := Lib.hid hK
  have HN1 := Lib.hid hn1
  have HB2 := Lib.hid b2
  clear hK hn1
  have hz : ((inn.length : Int) == 0) = false ∨ (((inn.length : Int) == 0) = true ∧ ended = true) := by
    by_cases h0 : inn.length = 0
    · exact .inr ⟨by rw [h0]; rfl, by cases ended; exact absurd ⟨h0, rfl⟩ hem; rfl⟩
    · refine .inl ?_
      show decide ((inn.length : Int) = 0) = false
      rw [decide_eq_false_iff_not]
      omega
  go_enter Try.func21, Try.ntmps21
  go_wp2_with fail
  refine (HV.out _).mono ?_
  rintro x w1 ⟨rfl, hO1⟩
  have HO2 : Hid (Only Nil w2 w1) := Lib.hid (by rw [hw2]; exact hO1)
  have k0 := HX.out.onlyNil HO2.out
  dsimp only at k0
  clear hO1
  have hst : True := trivial
  go_upto_region 5 with fail
  go_cut [21] (fun v wc => v = .bool false ∧ wc = w1)
  case first =>
    rcases hz with hz | ⟨hz, rfl⟩
    · go_wp2_with fail
      go_meet
      case rel => exact ⟨rfl, rfl⟩
    · go_wp2_with fail
      go_meet
      case rel => exact ⟨rfl, rfl⟩
  case rest =>
    obtain ⟨rfl, rfl⟩ := hcut
    clear hz hst
    go_upto_region 7 with fail
    go_cut [] (fun wd => ∃ l3 : Loc, CMid l3 ⟨out, base, false, done, inn, next, ended, due⟩ w wd ∧ Blk wd (w.heap.size + 1) 29 (ecells nowhere zE).toArray)
    case first =>
      go_wp2_with fail
      refine (HC.out _ (HB.out.next (HX.out.only.thenNil HO2.out))).mono ?_
      rintro x w4 ⟨l3, rfl, hco3, hci3, ho3, hi3, hne3, hO4⟩
      have j0 := HX.out.onlyNil (HO2.out.thenNil hO4)
      have g0 := HX.out.fr0 (HO2.out.thenNil hO4)
      dsimp only at j0
      go_wp2_with fail
      go_meet
      case rel =>
        exact ⟨l3, CMid.of_store (HX.out.only.thenNil HO2.out) (HX.out.b0.onlyNil HO2.out) rfl hco3 hci3 ho3 hi3 hO4, CMid.far ((HX.out.b1.onlyNil HO2.out).onlyNil hO4) (by omega) _ _ _ _ _ _ _ _⟩
    case rest =>
      obtain ⟨l3, hM, hb1⟩ := hcut
      have HM := Lib.hid hM
      have HB1 := Lib.hid hb1
      have q0 : ∀ i, wc.cell? ⟨w.heap.size, i, none⟩ = #[Value.slice l3.Ao out.length l3.co, .int .i64 base, .bool false, .bool done, .slice l3.Ai inn.length l3.ci, .int .i64 next, .bool ended, .bool due][i]? := fun i => hM.b0.cell i
      have g0 : ∀ i, wc.frozen? ⟨w.heap.size, i, none⟩ = false := fun i => hM.b0.frozen i
      clear hM hb1
      have hR : ∀ due', due' = (due || decide (inn.length = 128)) → CMid l3 ⟨out, base, false, done, inn, next, ended, due || decide (inn.length = 128)⟩ w (wc.setCell ⟨w.heap.size, 7, none⟩ (.bool due')) ∧ Blk (wc.setCell ⟨w.heap.size, 7, none⟩ (.bool due')) (w.heap.size + 1) 29 (ecells nowhere zE).toArray := by
        rintro due' rfl
        have hO7 : Only (One w.heap.size) wc (wc.setCell ⟨w.heap.size, 7, none⟩ (.bool (due || decide (inn.length = 128)))) := by (repeat' (first | with_reducible exact Only.refl _ _ | with_reducible refine Only.setCell ?_ (Or.inl ?_) _ | with_reducible refine Only.drewN ?_ _ | with_reducible refine Only.drew ?_ | with_reducible refine Only.alloc ?_ _ | (exact rfl)))
        exact ⟨⟨HM.out.b0.set_ 7 _, HM.out.co, HM.out.ci, own_only HM.out.out hO7 (fun q hq hx => own_blk_ne HM.out.out HM.out.b0 (by decide) (by rw [hq, hx])), own_only HM.out.inn hO7 (fun q hq hx => own_blk_ne HM.out.inn HM.out.b0 (by decide) (by rw [hq, hx])), HM.out.only.trans hO7 (fun x hx => .inr (Nat.le_of_eq hx.symm))⟩,
          HB1.out.far (p := ⟨w.heap.size, 7, none⟩) (show w.heap.size + 1 ≠ w.heap.size by omega) _⟩
      have HR := Lib.hid hR
      clear hR
      go_upto_region 8 with fail
      go_cut [] (fun wd => CMid l3 ⟨out, base, false, done, inn, next, ended, due || decide (inn.length = 128)⟩ w wd ∧ Blk wd (w.heap.size + 1) 29 (ecells nowhere zE).toArray)
      case first =>
        cases due
        · go_wp2_with fail
          go_meet
          case rel => exact HR.out _ (by rw [Bool.false_or]; show decide ((inn.length : Int) = 128) = _; rw [decide_eq_decide]; omega)
        · go_wp2_with fail
          go_meet
          case rel => exact HR.out _ (by simp)
      case rest =>
        obtain ⟨hM8, hb8⟩ := hcut
        have HM8 := Lib.hid hM8
        have HB8 := Lib.hid hb8
        obtain ⟨du8, hdu8⟩ : ∃ d, d = (due || decide (inn.length = 128)) := ⟨_, rfl⟩
        have HDU := Lib.hid hdu8
        rw [← hdu8] at hM8
        have q8 : ∀ i, wc.cell? ⟨w.heap.size, i, none⟩ = #[Value.slice l3.Ao out.length l3.co, .int .i64 base, .bool false, .bool done, .slice l3.Ai inn.length l3.ci, .int .i64 next, .bool ended, .bool du8][i]? := fun i => hM8.b0.cell i
        have g8 : ∀ i, wc.frozen? ⟨w.heap.size, i, none⟩ = false := fun i => hM8.b0.frozen i
        clear hM8 hb8 hdu8 q0 g0
        have hKi : (K : Int) = if n ≤ (inn.length : Int) then n else (inn.length : Int) := by
          have := HK.out
          have := HN1.out
          split <;> omega
        have HKI := Lib.hid hKi
        clear hKi
        go_upto_region 9 with fail
        go_cut [7] (fun v wd => v = .int .i64 K ∧ wd = wc)
        case first =>
          by_cases hnl : n ≤ (inn.length : Int)
          · have HNL := Lib.hid hnl
            go_wp2_with fail
            go_meet
            case rel => exact ⟨by rw [HKI.out, if_pos HNL.out], rfl⟩
          · have HNL := Lib.hid hnl
            go_wp2_with fail
            go_meet
            case rel => exact ⟨by rw [HKI.out, if_neg (by have := HNL.out; omega)], rfl⟩
        case rest =>
          obtain ⟨rfl, rfl⟩ := hcut
          have hKl : K ≤ inn.length := by have := HK.out; omega
          obtain ⟨L, hL⟩ : ∃ L, inn.length - K = L := ⟨_, rfl⟩
          obtain ⟨C, hC⟩ : ∃ C, l3.ci - K = C := ⟨_, rfl⟩
          obtain ⟨Ax, hAx⟩ : ∃ Ax, (if l3.ci = K then l3.Ai else Option.map (fun x => x.add K) l3.Ai) = Ax := ⟨_, rfl⟩
          obtain ⟨d, hd⟩ : ∃ d, d = inn.take K := ⟨_, rfl⟩
          obtain ⟨r, hr⟩ : ∃ r, r = inn.drop K := ⟨_, rfl⟩
          have hdl : d.length = K := by rw [hd, List.length_take]; omega
          have hrl : r.length = L := by rw [hr, List.length_drop, hL]
          have hcl1 : ∀ w', Only Nil wc w' → Calls Try.prog 36 #[.slice l3.Ai K l3.ci] w' (BytesPost Nil d w') := by
            intro w' hO
            have h2 := (Bs.of_own (own_onlyNil HM8.out.inn hO)).1.take K (by dsimp only; omega)
            dsimp only at h2
            rw [← hd] at h2
            have := clone_any l3.Ai l3.ci d w' h2 (by have := HB2.out; omega)
            rwa [hdl] at this
          have hcl2 : ∀ w', Only Nil wc w' → Calls Try.prog 36 #[.slice Ax L C] w' (BytesPost Nil r w') := by
            intro w' hO
            have h2 := (Bs.of_own (own_onlyNil HM8.out.inn hO)).1.cut (k := K) (cap := l3.ci) (by dsimp only; omega) HM8.out.ci
            dsimp only at h2
            rw [hAx, ← hr] at h2
            have := clone_any Ax C r w' h2 (by have := HB2.out; omega)
            rwa [hrl] at this
          have HC1 := Lib.hid hcl1
          have HC2 := Lib.hid hcl2
          have HD := Lib.hid hd
          have HR2 := Lib.hid hr
          have hci8 : inn.length ≤ l3.ci := HM8.out.ci
          have hK1 : (K : Int) ≤ l3.ci := by omega
          have hK2 : (K : Int) ≤ inn.length := by omega
          have hK3 : (inn.length : Int) ≤ l3.ci := by omega
          clear hcl1 hcl2 hd hr hdl hrl
          go_wp2_with fail
          refine (HC1.out _ (Only.refl _ _)).mono ?_
          rintro x w5 ⟨A5, c5, rfl, hc5, ho5, hO5⟩
          have q5 : ∀ i, w5.cell? ⟨w.heap.size, i, none⟩ = #[Value.slice l3.Ao out.length l3.co, .int .i64 base, .bool false, .bool done, .slice l3.Ai inn.length l3.ci, .int .i64 next, .bool ended, .bool du8][i]? := fun i => by have := (HM8.out.b0.onlyNil hO5).cell i; rw [← HDU.out] at this; exact this
          go_wp2_with fail
          refine (HC2.out _ hO5).mono ?_
          rintro x w6 ⟨A6, c6, rfl, hc6, ho6, hO6⟩
          have hM6 : Blk w6 w.heap.size 29 #[Value.slice l3.Ao out.length l3.co, .int .i64 base, .bool false, .bool done, .slice l3.Ai inn.length l3.ci, .int .i64 next, .bool ended, .bool du8] := by have := ((HM8.out.b0.onlyNil hO5).onlyNil hO6); rw [← HDU.out] at this; exact this
          have hb6 := (HB8.out.onlyNil hO5).onlyNil hO6
          have q6 : ∀ i, w6.cell? ⟨w.heap.size, i, none⟩ = #[Value.slice l3.Ao out.length l3.co, .int .i64 base, .bool false, .bool done, .slice l3.Ai inn.length l3.ci, .int .i64 next, .bool ended, .bool du8][i]? := fun i => hM6.cell i
          have g6 : ∀ i, w6.frozen? ⟨w.heap.size, i, none⟩ = false := fun i => hM6.frozen i
          have q16 : ∀ i, w6.cell? ⟨w.heap.size + 1, i, none⟩ = #[Value.slice none 0 0, .int .i64 0, .bool false, .bool false, .slice none 0 0, .int .i64 0, .bool false, .bool false][i]? := fun i => hb6.cell i
          have g16 : ∀ i, w6.frozen? ⟨w.heap.size + 1, i, none⟩ = false := fun i => hb6.frozen i
          have hE : ∀ w', Only (fun x => x = w.heap.size ∨ x = w.heap.size + 1) w6 w' → RPost (readE ⟨out, base, false, done, inn, next, ended, due⟩ n) w (.returned (.tuple #[.agg #[Value.slice l3.Ao out.length l3.co, .int .i64 base, .bool false, .bool done, .slice A6 r.length c6, .int .i64 next, .bool ended, .bool du8], .slice A5 d.length c5, .int .i64 0])) w' := by
            intro w' hO
            have hrr : readE ⟨out, base, false, done, inn, next, ended, due⟩ n = (⟨out, base, false, done, r, next, ended, du8⟩, d, 0) := by rw [HRD.out, ← HK.out, ← HD.out, ← HR2.out, HDU.out]
            rw [hrr]
            have hne : ∀ {v : Value} {m : Nat} {xs : List Value} {b : Nat}, w6.ownsRow b 5 1 v m xs → w'.ownsRow b 5 1 v m xs := fun h => own_only h hO (fun q hq hx => by
              rcases hx with hx | hx
              · exact own_blk_ne h hM6 (by decide) (by rw [hq, hx])
              · exact own_blk_ne h hb6 (by decide) (by rw [hq, hx]))
            refine ⟨⟨l3.Ao, l3.co, A6, c6⟩, A5, c5, rfl, ⟨(Bs.of_own (hne (own_onlyNil (own_onlyNil HM8.out.out hO5) hO6))).1, (Bs.of_own (hne ho6)).1, HM8.out.co, hc6⟩, (Bs.of_own (hne (own_onlyNil ho5 hO6))).1, hc5, ?_⟩
            exact ((HM8.out.only.thenNil hO5).thenNil hO6).trans hO (fun x hx => by rcases hx with hx | hx <;> exact .inr (by omega))
          have HE := Lib.hid hE
          clear hE hM6 hb6 ho5 ho6
          go_wp2_with fail
          refine bodyPost_ret (v := .tuple #[.agg #[Value.slice l3.Ao out.length l3.co, .int .i64 base, .bool false, .bool done, .slice A6 r.length c6, .int .i64 next, .bool ended, .bool du8], .slice A5 d.length c5, .int .i64 0]) (by simp [results, Try.results21, go_sem, q16]) rfl ?_
          refine HE.out _ ?_
          (repeat' (first | with_reducible exact Only.refl _ _ | with_reducible refine Only.setCell ?_ (Or.inl ?_) _ | with_reducible refine Only.drewN ?_ _ | with_reducible refine Only.drew ?_ | with_reducible refine Only.alloc ?_ _ | (first | exact .inl rfl | exact .inr rfl)))

end Go.Proofs.Ytfichoekjjcjiaa
