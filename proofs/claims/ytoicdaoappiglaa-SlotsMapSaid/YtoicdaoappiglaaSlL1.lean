/-
  The law SlotsNil: on a nil table Put, Set, Drop answer ErrState and the others zero values, for every handle and value.
  No conditions.
-/
import Derived.Test.YtoicdaoappiglaaSlW2
import Derived.Test.YtoicdaoappiglaaRow
namespace Go.Proofs.Ytoicdaoappiglaa
open Go.ChangeShapes Go.WideShapes Go.ChangeAt Go.RowKit

theorem put_nil (v : Int) (w : World) :
    Calls Try.prog 9 #[.pointer none, .int .i64 v] w fun e w' => e = .returned (.tuple #[.int .i64 0, .int .i64 7]) ∧ w' = w := by
  go_enter Try.func9, Try.ntmps9
  go_wp2_with fail
  go_ret2
  exact ⟨rfl, rfl⟩
theorem encode_nil (w : World) :
    Calls Try.prog 14 #[.pointer none] w fun e w' => e = .returned (.slice none 0 0) ∧ w' = w := by
  go_enter Try.func14, Try.ntmps14
  go_wp2_with fail
  go_ret
  exact ⟨rfl, rfl⟩

theorem awake_plain : ∃ l0 l1 l2 l3 l4 : Tbl, l0 = List.replicate 2 zSlot ∧ putT l0 7 = l1 ∧ putT l1 8 = l2 ∧ dropT l2 0 = l3 ∧ putT l3 9 = l4 ∧ putT l4 10 = l4 ∧
    putH l0 = 0 ∧ putE l0 = 0 ∧ putH l1 = 1 ∧ putE l1 = 0 ∧ isE l2 0 = 0 ∧ putH l3 = 2 ∧ putE l3 = 0 ∧ putE l4 = 13 ∧ getV l4 2 = 9 ∧ getO l4 2 = true :=
  ⟨_, _, _, _, _, rfl, rfl, rfl, rfl, rfl, by rfl, by decide, by decide, by decide, by decide, by decide, by decide, by decide, by decide, by decide, by decide⟩

set_option maxHeartbeats 400000 in
theorem awake_any (w : World) : Calls Try.prog 7 #[] w (LawPost w) := by
  obtain ⟨l0, l1, l2, l3, l4, h0, h1, h2, h3, h4, h5, a0, b0, a1, b1, a2, a3, b3, b4, a5, b5⟩ := awake_plain
  have H0 := Lib.hid h0
  have H1 := Lib.hid h1
  have H2 := Lib.hid h2
  have H3 := Lib.hid h3
  have H4 := Lib.hid h4
  have H5 := Lib.hid h5
  clear h0 h1 h2 h3 h4 h5
  go_enter Try.func7, Try.ntmps7
  go_wp2_with fail
  refine (new_any 2 _ (by omega) (by omega)).mono ?_
  rintro e w1 ⟨rfl, hT, hO1⟩
  rw [← H0.out] at hT
  go_wp2_with fail
  refine (put_any _ _ hT).mono ?_
  rintro e w2 ⟨rfl, hT2, hO2⟩
  rw [H1.out] at hT2
  go_wp2_with fail
  refine (put_any _ _ hT2).mono ?_
  rintro e w3 ⟨rfl, hT3, hO3⟩
  rw [H2.out] at hT3
  go_wp2_with fail
  refine (drop_any _ _ hT3).mono ?_
  rintro e w4 ⟨rfl, hT4, hO4⟩
  rw [H3.out] at hT4
  go_wp2_with fail
  refine (put_any _ _ hT4).mono ?_
  rintro e w5 ⟨rfl, hT5, hO5⟩
  rw [H4.out] at hT5
  go_wp2_with fail
  refine (put_any _ _ hT5).mono ?_
  rintro e w6 ⟨rfl, hT6, hO6⟩
  rw [H5.out] at hT6
  go_wp2_with fail
  refine (get_any _ _ hT6).mono ?_
  rintro e w7 ⟨rfl, n, rfl⟩
  go_wp2_with fail
  go_ret
  have hg : ∀ x, One w.heap.size x → Nil x ∨ w.heap.size ≤ x := fun x hx => .inr (by unfold One at hx; omega)
  exact ⟨rfl, (((((hO1.trans hO2 hg).trans hO3 hg).trans hO4 hg).trans hO5 hg).trans hO6 hg).drewN _⟩

namespace slotsNil
set_option maxHeartbeats 400000 in
theorem walk (a0 a1 : Int) (w : World) : Calls Try.prog 6 #[.int .i64 a0, .int .i64 a1] w (LawPost w) := by
  go_enter Try.func6, Try.ntmps6
  go_wp2_with fail
  refine (awake_any _).mono ?_
  rintro e w1 ⟨rfl, hO⟩
  go_wp2_with fail
  refine (put_nil _ _).mono ?_
  rintro e w2 ⟨rfl, rfl⟩
  go_wp2_with fail
  refine (get_nil _ _).mono ?_
  rintro e w3 ⟨rfl, rfl⟩
  go_wp2_with fail
  refine (set_nil _ _ _).mono ?_
  rintro e w4 ⟨rfl, rfl⟩
  go_wp2_with fail
  refine (drop_nil _ _).mono ?_
  rintro e w5 ⟨rfl, rfl⟩
  go_wp2_with fail
  refine (handles_nil _).mono ?_
  rintro e w6 ⟨rfl, rfl⟩
  go_wp2_with fail
  refine (encode_nil _).mono ?_
  rintro e w7 ⟨rfl, rfl⟩
  go_wp2_with fail
  go_ret
  exact ⟨rfl, hO⟩

set_option linter.unusedVariables false
set_option maxRecDepth 100000 in
theorem lifted (os : Os) (started : os.Started) (H : Type) (enc : TypeId × Value → H) :
    ReturnsInHanded {} Try.checked os 6 .any (Rows.slotsNilSpec.pre6 enc Try.prog Try.f6 Rows.slotsNilRow.domain false) (Rows.slotsNilSpec.post enc Try.prog Try.f6 false true false false) := by
  refine returnsInHanded_of_change (C := Try.checked) own started (by kernel_rfl) Try.func6
    (ChangeSpec.witness6 (enc := enc) (C := Try.checked) false ⟨#[], #[.int .i64 0, .int .i64 0], []⟩ 8 (by kernel_rfl) (by kernel_rfl) (by kernel_rfl) (by kernel_rfl)) ?_
  intro W base args ds gs before hval0 hW hcnd _
  have hval : ∀ (j : Nat) t v, Try.f6.params[j]? = some t → args[j]? = some v → Value.okWide Try.prog W .any base t v := hval0
  have hW' := hW
  obtain ⟨p, q, hA0, hV, rfl, hfz, hnd⟩ := hW
  have hA : DataW.TrodAll enc Try.prog W 0 (fun _ => true) true Try.f6.params.toList args.toList ds p := hA0
  rw [Try.params6] at hA hval
  obtain ⟨v0, vs0, d0, ds0, p0, q0, hargs, rfl, rfl, h0, r0⟩ := trodAll_cons hA
  obtain ⟨v1, vs1, d1, ds1, p1, q1, rfl, rfl, rfl, h1, r1⟩ := trodAll_cons r0
  obtain ⟨rfl, rfl, rfl⟩ := trodAll_nil r1
  obtain rfl : args = #[v0, v1] := by cases args; simp_all
  obtain ⟨rfl, rfl⟩ := trodVars_none hV
  obtain ⟨a0, rfl, rfl, rfl, w0⟩ := open_int Try.underlying3 (hval 0 3 v0 rfl rfl) h0
  obtain ⟨a1, rfl, rfl, rfl, w1⟩ := open_int Try.underlying3 (hval 1 3 v1 rfl rfl) h1
  clear hA0 hval0
  simp only [List.append_nil] at hW'
  refine (walk a0 a1 W).mono fun e W' ⟨he, hg⟩ => ?_
  subst he
  exact ⟨_, rfl, post_of_below (pa := []) (pv := []) hW' (fun _ _ _ => (trodAll_cons_mk (shut_bool Try.underlying4 _) trodAll_mk0)) (fun sp _ => (trodAll_cons_mk (shut_int Try.underlying3 w0) (trodAll_cons_mk (shut_int Try.underlying3 w1) trodAll_mk0))) (fun _ _ => rfl) rfl
    hg.belowNil (ok_one (by kernel_rfl) rfl (okWide_bool_mk Try.underlying4 _))⟩

theorem over : Rows.slotsNilRow.holds Try.pinned (OpenSpec.ofChange Rows.slotsNilSpec) :=
  OpenClaim.holds_of_wide 6 Try.f6 rfl rfl rfl rfl rfl rfl rfl ⟨rfl, rfl, rfl, rfl, rfl⟩ rfl rfl rfl rfl rfl (by kernel_rfl) Try.func6 (by kernel_rfl)
    (of_decide_eq_true (by kernel_rfl)) (by unfold Func.isWrapper; first | (rw [if_pos (by decide +kernel)]; kernel_rfl) | (rw [if_neg (by decide +kernel)]; exact ⟨rfl, rfl⟩))
    (fun os started H enc _ => lifted os started H enc)

/-- The statement. -/
theorem proved : Rows.SlotsNilSaid := over
end slotsNil
end Go.Proofs.Ytoicdaoappiglaa
