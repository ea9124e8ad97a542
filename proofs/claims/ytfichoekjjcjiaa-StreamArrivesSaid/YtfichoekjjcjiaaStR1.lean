/-
  Walks of ref43: Few, Equal.
  Conditions: the slices of the ends can be read.
-/
import Derived.Test.YtfichoekjjcjiaaStW7
namespace Go.Proofs.Ytfichoekjjcjiaa
open Go.RowKit

def few (e : E) : Bool := decide (e.out.length ≤ 300) && decide (e.inn.length ≤ 300)
set_option maxRecDepth 100000 in
theorem few_any (l : Loc) (e : E) (w : World) : Calls Try.prog 11 #[.agg (ecells l e).toArray] w fun x w' => x = .returned (.bool (few e)) ∧ Only Nil w w' := by
  obtain ⟨r, hr⟩ : ∃ r, few e = r := ⟨_, rfl⟩
  rw [hr]
  obtain ⟨out, base, closed, done, inn, next, ended, due⟩ := e
  unfold ecells
  unfold few at hr
  dsimp only at hr ⊢
  by_cases h1 : out.length ≤ 300
  · have h1' : (out.length : Int) ≤ 300 := by omega
    have h2 : decide ((inn.length : Int) ≤ 300) = r := by
      rw [← hr, decide_eq_true h1, Bool.true_and, decide_eq_decide]
      omega
    clear hr h1
    have H2 := Lib.hid h2
    clear h2
    go_enter Try.func11, Try.ntmps11
    go_wp2_with fail
    go_ret
    exact ⟨by rw [← H2.out]; rfl, (Only.refl _ _).alloc _⟩
  · have h1' : ¬ (out.length : Int) ≤ 300 := by omega
    have h2 : false = r := by rw [← hr, decide_eq_false h1, Bool.false_and]
    clear hr h1
    subst h2
    go_enter Try.func11, Try.ntmps11
    go_wp2_with fail
    go_ret
    exact ⟨rfl, (Only.refl _ _).alloc _⟩

def EqP (a b : E) (w : World) (x : Ending) (w' : World) : Prop := ∃ r : Bool, x = .returned (.bool r) ∧ (r = true ↔ a = b) ∧ Only Nil w w'
theorem EqP.no {a b : E} {w w' : World} {r : Bool} {x : Ending} {T : Type} {u v : T} (h : u ≠ v) (f : E → T) (hu : f a = u) (hv : f b = v) (hO : Only Nil w w') (hr : r = false) (hx : x = .returned (.bool r) := by rfl) : EqP a b w x w' :=
  ⟨r, hx, ⟨fun h1 => (by rw [hr] at h1; cases h1), fun h1 => absurd (by rw [← hu, ← hv, h1]) h⟩, hO⟩

set_option maxRecDepth 100000 in
set_option maxHeartbeats 2000000 in
theorem equal_any (la lb : Loc) (a b : E) (w : World) (ha : EB w w.heap.size la a) (hb : EB w w.heap.size lb b) :
    Calls Try.prog 13 #[.agg (ecells la a).toArray, .agg (ecells lb b).toArray] w (EqP a b w) := by
  obtain ⟨w2, hw2⟩ : ∃ w2, w2 = (w.alloc (.cells (ecells la a).toArray 24)).alloc (.cells (ecells lb b).toArray 24) := ⟨_, rfl⟩
  have hO2 : Only Nil w w2 := by rw [hw2]; exact ((Only.refl _ _).alloc _).alloc _
  have s1 := run_str (P := Try.prog) w2 22 9 5 Try.underlying22 Try.underlying5 Try.underlying9 (c := la.co) (ha.out.onlyNil hO2 (Nat.le_refl _)) rfl
  have s2 := run_str (P := Try.prog) w2 22 9 5 Try.underlying22 Try.underlying5 Try.underlying9 (c := lb.co) (hb.out.onlyNil hO2 (Nat.le_refl _)) rfl
  have s3 := run_str (P := Try.prog) w2 22 9 5 Try.underlying22 Try.underlying5 Try.underlying9 (c := la.ci) (ha.inn.onlyNil hO2 (Nat.le_refl _)) rfl
  have s4 := run_str (P := Try.prog) w2 22 9 5 Try.underlying22 Try.underlying5 Try.underlying9 (c := lb.ci) (hb.inn.onlyNil hO2 (Nat.le_refl _)) rfl
  obtain ⟨out, base, closed, done, inn, next, ended, due⟩ := a
  obtain ⟨out', base', closed', done', inn', next', ended', due'⟩ := b
  unfold ecells at hw2 ⊢
  dsimp only at hw2 s1 s2 s3 s4 ⊢
  rw [hw2] at s1 s2 s3 s4
  clear hw2 hO2 ha hb
  by_cases h1 : out = out'
  rotate_left
  · go_enter Try.func13, Try.ntmps13
    have H1 := Lib.hid h1
    go_wp2_with fail
    all_goals
      go_ret
      exact EqP.no H1.out E.out rfl rfl (((Only.refl _ _).alloc _).alloc _) (by first | rfl | (simpa using H1.out))
  subst h1
  by_cases h1 : base = base'
  rotate_left
  · go_enter Try.func13, Try.ntmps13
    have H1 := Lib.hid h1
    go_wp2_with fail
    all_goals
      go_ret
      exact EqP.no H1.out E.base rfl rfl (((Only.refl _ _).alloc _).alloc _) (by first | rfl | (simpa using H1.out))
  subst h1
  by_cases h1 : closed = closed'
  rotate_left
  · go_enter Try.func13, Try.ntmps13
    have H1 := Lib.hid h1
    go_wp2_with fail
    all_goals
      go_ret
      exact EqP.no H1.out E.closed rfl rfl (((Only.refl _ _).alloc _).alloc _) (by first | rfl | (simpa using H1.out))
  subst h1
  by_cases h1 : done = done'
  rotate_left
  · go_enter Try.func13, Try.ntmps13
    have H1 := Lib.hid h1
    go_wp2_with fail
    all_goals
      go_ret
      exact EqP.no H1.out E.done rfl rfl (((Only.refl _ _).alloc _).alloc _) (by first | rfl | (simpa using H1.out))
  subst h1
  by_cases h1 : inn = inn'
  rotate_left
  · go_enter Try.func13, Try.ntmps13
    have H1 := Lib.hid h1
    go_wp2_with fail
    all_goals
      go_ret
      exact EqP.no H1.out E.inn rfl rfl (((Only.refl _ _).alloc _).alloc _) (by first | rfl | (simpa using H1.out))
  subst h1
  by_cases h1 : next = next'
  rotate_left
  · go_enter Try.func13, Try.ntmps13
    have H1 := Lib.hid h1
    go_wp2_with fail
    all_goals
      go_ret
      exact EqP.no H1.out E.next rfl rfl (((Only.refl _ _).alloc _).alloc _) (by first | rfl | (simpa using H1.out))
  subst h1
  by_cases h1 : ended = ended'
  rotate_left
  · go_enter Try.func13, Try.ntmps13
    have H1 := Lib.hid h1
    go_wp2_with fail
    all_goals
      go_ret
      exact EqP.no H1.out E.ended rfl rfl (((Only.refl _ _).alloc _).alloc _) (by first | rfl | (simpa using H1.out))
  subst h1
  go_enter Try.func13, Try.ntmps13
  go_wp2_with fail
  go_ret
  refine ⟨_, rfl, ?_, ((Only.refl _ _).alloc _).alloc _⟩
  cases due <;> cases due' <;> simp

end Go.Proofs.Ytfichoekjjcjiaa
