/-
  Walks of layer 43: Again, Close.
  Conditions: the slices of the end can be read; Again: each has at most 2 to the power 40 bytes.
-/
import Derived.Test.YtfichoekjjcjiaaStW3
import Derived.Deep.Cut
import Derived.Deep.DeepCutAuto
namespace Go.Proofs.Ytfichoekjjcjiaa
open Go.RowKit

/-- Behind 'e = copied(e)'. -/
structure CMid (l : Loc) (e : E) (w wc : World) : Prop where
  b0 : Blk wc w.heap.size 29 #[.slice l.Ao e.out.length l.co, .int .i64 e.base, .bool e.closed, .bool e.done, .slice l.Ai e.inn.length l.ci, .int .i64 e.next, .bool e.ended, .bool e.due]
  co : e.out.length ≤ l.co
  ci : e.inn.length ≤ l.ci
  out : wc.ownsRow w.heap.size 5 1 (.slice l.Ao e.out.length l.co) e.out.length (bcells e.out)
  inn : wc.ownsRow w.heap.size 5 1 (.slice l.Ai e.inn.length l.ci) e.inn.length (bcells e.inn)
  only : Only Nil w wc

theorem CMid.of_store {l : Loc} {e : E} {w w3 w4 : World} {cs : Array Value} (hO3 : Only Nil w w3) (hb : Blk w3 w.heap.size 29 cs) (hs : cs.size = 8) (hco : e.out.length ≤ l.co) (hci : e.inn.length ≤ l.ci)
    (ho : w4.ownsRow w3.heap.size 5 1 (.slice l.Ao e.out.length l.co) e.out.length (bcells e.out)) (hi : w4.ownsRow w3.heap.size 5 1 (.slice l.Ai e.inn.length l.ci) e.inn.length (bcells e.inn)) (hO4 : Only Nil w3 w4) :
    CMid l e w ((((((((w4.setCell ⟨w.heap.size, 0, none⟩ (.slice l.Ao e.out.length l.co)).setCell ⟨w.heap.size, 1, none⟩ (.int .i64 e.base)).setCell ⟨w.heap.size, 2, none⟩ (.bool e.closed)).setCell ⟨w.heap.size, 3, none⟩ (.bool e.done)).setCell ⟨w.heap.size, 4, none⟩ (.slice l.Ai e.inn.length l.ci)).setCell ⟨w.heap.size, 5, none⟩ (.int .i64 e.next)).setCell ⟨w.heap.size, 6, none⟩ (.bool e.ended)).setCell ⟨w.heap.size, 7, none⟩ (.bool e.due)) := by
  have h4 := hb.onlyNil hO4
  refine ⟨Blk.all8 h4 hs _ _ _ _ _ _ _ _, hco, hci, ?_, ?_, ?_⟩
  · exact own_base (own_only (S := One w.heap.size) ho (by (repeat' (first | with_reducible exact Only.refl _ _ | with_reducible refine Only.setCell ?_ (Or.inl ?_) _ | with_reducible refine Only.drewN ?_ _ | with_reducible refine Only.drew ?_ | with_reducible refine Only.alloc ?_ _ | (exact rfl)))) (fun q hq hx => own_blk_ne ho h4 (by decide) (by rw [hq, hx]))) hO3.size
  · exact own_base (own_only (S := One w.heap.size) hi (by (repeat' (first | with_reducible exact Only.refl _ _ | with_reducible refine Only.setCell ?_ (Or.inl ?_) _ | with_reducible refine Only.drewN ?_ _ | with_reducible refine Only.drew ?_ | with_reducible refine Only.alloc ?_ _ | (exact rfl)))) (fun q hq hx => own_blk_ne hi h4 (by decide) (by rw [hq, hx]))) hO3.size
  · exact (hO3.thenNil hO4).trans (S' := One w.heap.size) (by (repeat' (first | with_reducible exact Only.refl _ _ | with_reducible refine Only.setCell ?_ (Or.inl ?_) _ | with_reducible refine Only.drewN ?_ _ | with_reducible refine Only.drew ?_ | with_reducible refine Only.alloc ?_ _ | (exact rfl)))) (fun x hx => .inr (Nat.le_of_eq hx.symm))
theorem CMid.far {w w4 : World} {g : Nat} {t : TypeId} {cs : Array Value} (h : Blk w4 g t cs) (hg : g ≠ w.heap.size) (v0 v1 v2 v3 v4 v5 v6 v7 : Value) :
    Blk ((((((((w4.setCell ⟨w.heap.size, 0, none⟩ v0).setCell ⟨w.heap.size, 1, none⟩ v1).setCell ⟨w.heap.size, 2, none⟩ v2).setCell ⟨w.heap.size, 3, none⟩ v3).setCell ⟨w.heap.size, 4, none⟩ v4).setCell ⟨w.heap.size, 5, none⟩ v5).setCell ⟨w.heap.size, 6, none⟩ v6).setCell ⟨w.heap.size, 7, none⟩ v7) g t cs :=
  Blk.only (S := One w.heap.size) h (by (repeat' (first | with_reducible exact Only.refl _ _ | with_reducible refine Only.setCell ?_ (Or.inl ?_) _ | with_reducible refine Only.drewN ?_ _ | with_reducible refine Only.drew ?_ | with_reducible refine Only.alloc ?_ _ | (exact rfl)))) (fun hx => hg hx)
theorem CMid.fin {l : Loc} {e : E} {w wc w' : World} {S : Nat → Prop} (h : CMid l e w wc) (hO : Only S wc w') (hS : ∀ x, S x → w.heap.size ≤ x ∧ ∃ t cs, Blk wc x t cs ∧ 5 ≠ t) :
    Bs w' w'.heap.size l.Ao e.out ∧ Bs w' w'.heap.size l.Ai e.inn ∧ Only Nil w w' := by
  have ho := own_only h.out hO (fun q hq hx => by
    obtain ⟨_, t, cs, hb, hne⟩ := hS q hx
    exact own_blk_ne h.out hb hne hq)
  have hi := own_only h.inn hO (fun q hq hx => by
    obtain ⟨_, t, cs, hb, hne⟩ := hS q hx
    exact own_blk_ne h.inn hb hne hq)
  exact ⟨(Bs.of_own ho).1, (Bs.of_own hi).1, h.only.trans hO (fun x hx => .inr (hS x hx).1)⟩

def againE (e : E) : E := { e with due := e.due || pend e }
/-- What a function answers that returns an end. -/
def APost (r : E) (w : World) (x : Ending) (w' : World) : Prop :=
  ∃ l : Loc, x = .returned (.agg #[.slice l.Ao r.out.length l.co, .int .i64 r.base, .bool r.closed, .bool r.done, .slice l.Ai r.inn.length l.ci, .int .i64 r.next, .bool r.ended, .bool r.due]) ∧
    EB w' w'.heap.size l r ∧ Only Nil w w'

set_option maxRecDepth 100000 in
set_option maxHeartbeats 1000000 in
theorem again_any (l : Loc) (e : E) (w : World) (h : EB w w.heap.size l e) (ho : e.out.length ≤ 1099511627776) (hi : e.inn.length ≤ 1099511627776) :
    Calls Try.prog 18 #[.agg (ecells l e).toArray] w (APost (againE e) w) := by
  obtain ⟨out, base, closed, done, inn, next, ended, due⟩ := e
  have hbx := Boxes.mk2 w l ⟨out, base, closed, done, inn, next, ended, due⟩
  obtain ⟨w2, hw2⟩ : ∃ w2, w2 = (w.alloc (.cells (ecells l ⟨out, base, closed, done, inn, next, ended, due⟩).toArray 29)).alloc (.cells (ecells nowhere zE).toArray 29) := ⟨_, rfl⟩
  rw [← hw2] at hbx
  have HX := Lib.hid hbx
  have HB := Lib.hid h
  clear hbx h
  have hC := copied_any l ⟨out, base, closed, done, inn, next, ended, due⟩
  have hC1 := fun w' hE => hC w' hE ho hi
  unfold ecells at hw2 hC1 ⊢
  unfold nowhere zE at hw2
  dsimp only [List.length_nil] at hw2 hC1 ⊢
  have HC := Lib.hid hC1
  have HW2 := Lib.hid hw2
  clear hC hC1
  have k20 := HX.out.onlyNil (Only.refl _ _)
  rw [hw2] at k20
  go_enter Try.func18, Try.ntmps18
  go_upto_region 1 with fail
  go_cut [] (fun wc => ∃ l3 : Loc, CMid l3 ⟨out, base, closed, done, inn, next, ended, due⟩ w wc ∧ Blk wc (w.heap.size + 1) 29 (ecells nowhere zE).toArray)
  case first =>
    go_wp2_with fail
    refine (HC.out _ (HB.out.next (by rw [← HW2.out]; exact HX.out.only))).mono ?_
    rw [← HW2.out]
    rintro x w3 ⟨l3, rfl, hco3, hci3, ho3, hi3, hne3, hO3⟩
    have j0 := HX.out.onlyNil hO3
    have g0 := HX.out.fr0 hO3
    dsimp only at j0
    go_wp2_with fail
    go_meet
    case rel =>
      exact ⟨l3, CMid.of_store HX.out.only HX.out.b0 rfl hco3 hci3 ho3 hi3 hO3, CMid.far (HX.out.b1.onlyNil hO3) (by omega) _ _ _ _ _ _ _ _⟩
  case rest =>
    obtain ⟨l3, hM, hb1⟩ := hcut
    have HM := Lib.hid hM
    have HB1 := Lib.hid hb1
    have k0 : ∀ i, wc.cell? ⟨w.heap.size, i, none⟩ = #[Value.slice l3.Ao out.length l3.co, .int .i64 base, .bool closed, .bool done, .slice l3.Ai inn.length l3.ci, .int .i64 next, .bool ended, .bool due][i]? := fun i => hM.b0.cell i
    have k1 : ∀ i, wc.cell? ⟨w.heap.size + 1, i, none⟩ = #[Value.slice none 0 0, .int .i64 0, .bool false, .bool false, .slice none 0 0, .int .i64 0, .bool false, .bool false][i]? := fun i => hb1.cell i
    have f0 : ∀ i, wc.frozen? ⟨w.heap.size, i, none⟩ = false := fun i => hM.b0.frozen i
    have f1 : ∀ i, wc.frozen? ⟨w.heap.size + 1, i, none⟩ = false := fun i => hb1.frozen i
    clear hM hb1
    have hE : ∀ w' , Only (fun x => x = w.heap.size ∨ x = w.heap.size + 1) wc w' → APost (againE ⟨out, base, closed, done, inn, next, ended, due⟩) w (.returned (.agg #[.slice l3.Ao out.length l3.co, .int .i64 base, .bool closed, .bool done, .slice l3.Ai inn.length l3.ci, .int .i64 next, .bool ended, .bool (due || pend ⟨out, base, closed, done, inn, next, ended, due⟩)])) w' := by
      intro w' hO
      obtain ⟨h1, h2, h3⟩ := HM.out.fin hO (fun x hx => by
        rcases hx with rfl | rfl
        · exact ⟨Nat.le_refl _, _, _, HM.out.b0, by decide⟩
        · exact ⟨by omega, _, _, HB1.out, by decide⟩)
      exact ⟨l3, rfl, ⟨h1, h2, HM.out.co, HM.out.ci⟩, h3⟩
    have HE := Lib.hid hE
    clear hE
    cases due
    · go_wp2_with fail
      refine (pending_any l3 ⟨out, base, closed, done, inn, next, ended, false⟩ _).mono ?_
      rintro x w5 ⟨rfl, hO5⟩
      have j0 : ∀ i, w5.cell? ⟨w.heap.size, i, none⟩ = #[Value.slice l3.Ao out.length l3.co, .int .i64 base, .bool closed, .bool done, .slice l3.Ai inn.length l3.ci, .int .i64 next, .bool ended, .bool false][i]? := fun i => (HM.out.b0.onlyNil hO5).cell i
      have j1 : ∀ i, w5.cell? ⟨w.heap.size + 1, i, none⟩ = #[Value.slice none 0 0, .int .i64 0, .bool false, .bool false, .slice none 0 0, .int .i64 0, .bool false, .bool false][i]? := fun i => (HB1.out.onlyNil hO5).cell i
      have g0 : ∀ i, w5.frozen? ⟨w.heap.size, i, none⟩ = false := fun i => (HM.out.b0.onlyNil hO5).frozen i
      have g1 : ∀ i, w5.frozen? ⟨w.heap.size + 1, i, none⟩ = false := fun i => (HB1.out.onlyNil hO5).frozen i
      go_wp2_with fail
      refine bodyPost_ret (v := .agg #[.slice l3.Ao out.length l3.co, .int .i64 base, .bool closed, .bool done, .slice l3.Ai inn.length l3.ci, .int .i64 next, .bool ended, .bool (pend ⟨out, base, closed, done, inn, next, ended, false⟩)]) (by simp [results, Try.results18, go_sem, j1]) rfl ?_
      refine HE.out _ (hO5.any.then_ ?_)
      (repeat' (first | with_reducible exact Only.refl _ _ | with_reducible refine Only.setCell ?_ (Or.inl ?_) _ | with_reducible refine Only.drewN ?_ _ | with_reducible refine Only.drew ?_ | with_reducible refine Only.alloc ?_ _ | (first | exact .inl rfl | exact .inr rfl)))
    · go_wp2_with fail
      refine bodyPost_ret (v := .agg #[.slice l3.Ao out.length l3.co, .int .i64 base, .bool closed, .bool done, .slice l3.Ai inn.length l3.ci, .int .i64 next, .bool ended, .bool true]) (by simp [results, Try.results18, go_sem, k1]) rfl ?_
      refine HE.out _ ?_
      (repeat' (first | with_reducible exact Only.refl _ _ | with_reducible refine Only.setCell ?_ (Or.inl ?_) _ | with_reducible refine Only.drewN ?_ _ | with_reducible refine Only.drew ?_ | with_reducible refine Only.alloc ?_ _ | (first | exact .inl rfl | exact .inr rfl)))

end Go.Proofs.Ytfichoekjjcjiaa
