/-
  The law ReplayCompare: Compare and Project return the specified results.
  No conditions.
-/
import Derived.Test.YtdejceojhkdjnaaRpA
import Derived.Test.YtdejceojhkdjnaaRpC2
import Derived.Test.YtdejceojhkdjnaaRpC3
import Derived.Laws.Externs
namespace Go.Proofs.Ytdejceojhkdjnaa
open Go.ChangeShapes Go.WideShapes Go.ChangeAt Go.RowKit Go.Deep

namespace replayCompare
set_option maxRecDepth 100000 in
set_option maxHeartbeats 4000000 in
theorem walk (A : Option Addr) (ca : Nat) (rs : List ER) (B : Option Addr) (cb : Nat) (qs : List ER) (z : Int) (w : World) (ha : Es w w.heap.size A rs) (hb : Es w w.heap.size B qs) (hal : rs.length ≤ maxLen) (hbl : qs.length ≤ maxLen) :
    Calls Try.prog 7 #[.slice A rs.length ca, .slice B qs.length cb, .int .i64 z] w (LawPost w) := by
  have hfa := fun w' (hO : Only Nil w w') => few_any A ca rs w' (ha.next hO) hal
  have hfb := fun w' (hO : Only Nil w w') => few_any B cb qs w' (hb.next hO) hbl
  obtain ⟨fa, hfa1⟩ : ∃ f, fewE rs = f := ⟨_, rfl⟩
  obtain ⟨fb, hfb1⟩ : ∃ f, fewE qs = f := ⟨_, rfl⟩
  rw [hfa1] at hfa
  rw [hfb1] at hfb
  obtain ⟨I, hI⟩ : ∃ I, cmpI (rs.map ER.x) (qs.map ER.x) = I := ⟨_, rfl⟩
  obtain ⟨R, hR⟩ : ∃ R, sameL (rs.map ER.x) (qs.map ER.x) = R := ⟨_, rfl⟩
  have hall : fa = true → rs.length ≤ 1099511627776 ∧ ∀ r ∈ rs, r.x.data.length ≤ 274877906944 := fun h => by
    obtain ⟨h1, h2⟩ := fewE_of (hfa1.trans h)
    exact ⟨by omega, fun r hr => by have := h1 r hr; omega⟩
  have halb : fb = true → qs.length ≤ 1099511627776 ∧ ∀ r ∈ qs, r.x.data.length ≤ 274877906944 := fun h => by
    obtain ⟨h1, h2⟩ := fewE_of (hfb1.trans h)
    exact ⟨by omega, fun r hr => by have := h1 r hr; omega⟩
  have h1 : fa = true → fb = true → ∀ u, Only Nil w u → Calls Try.prog 18 #[.slice A rs.length ca, .slice B qs.length cb] u fun x u' => x = .returned (.tuple #[.int .i64 I, .bool R]) ∧ Only Nil u u' := fun h k u hO => by
    have := cmp_any A B ca cb rs qs u (ha.next hO) (hb.next hO) (hall h).1 (halb k).1 (hall h).2 (halb k).2
    unfold CmpPost at this
    rwa [hI, hR] at this
  have h2 : fa = true → fb = true → ∀ u, Only Nil w u → Calls Try.prog 19 #[.slice A rs.length ca, .slice B qs.length cb] u fun x u' => x = .returned (.tuple #[.int .i64 I, .bool R]) ∧ Only Nil u u' := fun h k u hO => by
    have := Ref.cmp_any A B ca cb rs qs u (ha.next hO) (hb.next hO) (hall h).1 (halb k).1 (hall h).2 (halb k).2
    unfold CmpPost at this
    rwa [hI, hR] at this
  have h3 : fa = true → ∀ u, Only Nil w u → Calls Try.prog 21 #[.slice A rs.length ca, .int .i64 z] u (ProjPost z (rs.map ER.x) u) := fun h u hO => project_any A ca z rs u (ha.next hO) (hall h).1 (fun r hr => by have := (hall h).2 r hr; omega)
  have h4 : fa = true → ∀ u, Only Nil w u → Calls Try.prog 22 #[.slice A rs.length ca, .int .i64 z] u (ProjPost z (rs.map ER.x) u) := fun h u hO => Ref.project_any A ca z rs u (ha.next hO) (hall h).1 (fun r hr => by have := (hall h).2 r hr; omega)
  have h5 : fa = true → ∀ u, Only Nil w u → Calls Try.prog 20 #[.slice A rs.length ca, .slice B qs.length cb] u fun x u' => x = .returned (.bool R) ∧ Only Nil u u' := fun h u hO => by
    have := Ref.same_list A B ca cb rs qs u (ha.next hO).ed (hb.next hO).ed (hall h).1
    rwa [hR] at this
  have h6 : fa = true → ∀ os : List ER, os.map ER.x = projE z (rs.map ER.x) → os.length ≤ 1099511627776 := fun h os ho => by
    have h1 := projE_len z (rs.map ER.x)
    have h2 := congrArg List.length ho
    simp only [List.length_map] at h1 h2
    have := (hall h).1
    omega
  obtain ⟨N, hN⟩ : ∃ N, rs.length = N := ⟨_, rfl⟩
  obtain ⟨M, hM⟩ : ∃ M, qs.length = M := ⟨_, rfl⟩
  rw [hN] at hfa h1 h2 h3 h4 h5 ⊢
  rw [hM] at hfb h1 h2 h5 ⊢
  have HFA := Lib.hid hfa
  have HFB := Lib.hid hfb
  have H1 := Lib.hid h1
  have H2 := Lib.hid h2
  have H3 := Lib.hid h3
  have H4 := Lib.hid h4
  have H5 := Lib.hid h5
  have H6 := Lib.hid h6
  clear ha hb hal hbl hfa hfb hN hM hfa1 hfb1 h1 h2 h3 h4 h5 h6 hI hR hall halb
  go_enter Try.func7, Try.ntmps7
  go_wp2_with fail
  refine (awake_any _).mono ?_
  rintro x w1 ⟨rfl, hO1⟩
  have HO1 := Lib.hid hO1
  clear hO1
  go_wp2_with fail
  refine (HFA.out _ HO1.out).mono ?_
  rintro x w2 ⟨rfl, rfl⟩
  cases fa
  · go_wp2_with fail
    go_ret
    exact ⟨rfl, HO1.out⟩
  go_wp2_with fail
  refine (HFB.out _ HO1.out).mono ?_
  rintro x w2 ⟨rfl, rfl⟩
  cases fb
  · go_wp2_with fail
    go_ret
    exact ⟨rfl, HO1.out⟩
  go_wp2_with fail
  refine (H1.out (by first | trivial | rfl) (by first | trivial | rfl) _ HO1.out).mono ?_
  rintro x w2 ⟨rfl, hO2⟩
  have HO2 := Lib.hid (HO1.out.thenNil hO2)
  clear hO2
  go_wp2_with fail
  refine (H2.out (by first | trivial | rfl) (by first | trivial | rfl) _ HO2.out).mono ?_
  rintro x w3 ⟨rfl, hO3⟩
  have HO3 := Lib.hid (HO2.out.thenNil hO3)
  have hRR : (R == R) = true := by simp
  clear hO3
  go_wp2_with fail
  refine (H3.out (by first | trivial | rfl) _ HO3.out).mono ?_
  rintro x w4 ⟨A4, c4, os, rfl, hos, hrow4, hO4⟩
  have HOS := Lib.hid hos
  have HED4 := Lib.hid hrow4.ed
  have HO4 := Lib.hid (HO3.out.thenNil hO4)
  have HL4 := Lib.hid (H6.out (by first | trivial | rfl) os hos)
  obtain ⟨L4, hL4⟩ : ∃ l, os.length = l := ⟨_, rfl⟩
  rw [hL4]
  have HL4e := Lib.hid hL4
  clear hos hrow4 hO4 hL4
  go_wp2_with fail
  refine (H4.out (by first | trivial | rfl) _ HO4.out).mono ?_
  rintro x w5 ⟨A5, c5, ps, rfl, hps, hrow5, hO5⟩
  have hsl : Calls Try.prog 20 #[.slice A4 os.length c4, .slice A5 ps.length c5] w5 fun x u' => x = .returned (.bool true) ∧ Only Nil w5 u' := by
    have := Ref.same_list A4 A5 c4 c5 os ps w5 (HED4.out.next hO5) hrow5.ed HL4.out
    rwa [show sameL (os.map ER.x) (ps.map ER.x) = true from sameL_iff.2 (HOS.out.trans hps.symm)] at this
  rw [HL4e.out] at hsl
  have HSL := Lib.hid hsl
  have HO5 := Lib.hid (HO4.out.thenNil hO5)
  obtain ⟨L5, hL5⟩ : ∃ l, ps.length = l := ⟨_, rfl⟩
  rw [hL5] at HSL ⊢
  clear hps hrow5 hO5 hsl hL5
  go_wp2_with fail
  refine HSL.out.mono ?_
  rintro x w6 ⟨rfl, hO6⟩
  have HO6 := Lib.hid (HO5.out.thenNil hO6)
  clear hO6
  go_wp2_with fail
  refine (H5.out (by first | trivial | rfl) _ HO6.out).mono ?_
  rintro x w7 ⟨rfl, hO7⟩
  have HO7 := Lib.hid (HO6.out.thenNil hO7)
  clear hO7
  go_wp2_with fail
  go_ret
  exact ⟨by first | rfl | simp, HO7.out⟩

set_option maxRecDepth 100000 in
theorem from_args {H : Type} {enc : TypeId × Value → H} (W : World) (base : Nat) (args : Array Value) (ds : List (DataW H)) (ps : List MemPlace)
    (hval0 : ∀ (j : Nat) t v, Try.f7.params[j]? = some t → args[j]? = some v → Value.okWide Try.prog W .any base t v)
    (hA : DataW.TrodAll enc Try.prog W 0 (fun _ => true) true Try.f7.params.toList args.toList ds ps) (_hlt : ∀ x ∈ ps, x.block < W.heap.size)
    (hsz : (DataW.weightsEach Try.prog Try.f7.params.toList ds).all (· ≤ reachBytes) = true) : Calls Try.prog 7 args W (LawPost W) := by
  have hval := hval0
  rw [Try.params7] at hA hval hsz
  obtain ⟨v0, vs0, d0, ds0, p0, q0, hargs, rfl, rfl, h0, r0⟩ := trodAll_cons hA
  obtain ⟨v1, vs1, d1, ds1, p1, q1, rfl, rfl, rfl, h1, r1⟩ := trodAll_cons r0
  obtain ⟨v2, vs2, d2, ds2, p2, q2, rfl, rfl, rfl, h2, r2⟩ := trodAll_cons r1
  obtain ⟨rfl, rfl, rfl⟩ := trodAll_nil r2
  obtain rfl : args = #[v0, v1, v2] := by cases args; simp_all
  obtain ⟨A, rs, ca, rfl, h1', h2', hE⟩ := open_entries (hval 0 _ v0 rfl rfl) h0
  obtain ⟨B, ms, cb, rfl, h3', h4', hM⟩ := open_entries (hval 1 _ v1 rfl rfl) h1
  obtain ⟨n, rfl, rfl, rfl, wn⟩ := open_int Try.underlying3 (hval 2 _ v2 rfl rfl) h2
  exact walk A ca rs B cb ms n W hE hM (by omega) (by omega)

set_option maxRecDepth 100000 in
theorem over : Rows.replayCompareRow.holds Try.pinned (OpenSpec.ofChange Rows.replayCompareSpec) :=
  OpenClaim.holds_of_wide 7 Try.f7 rfl rfl rfl rfl rfl rfl rfl ⟨rfl, rfl, rfl, rfl, rfl⟩ rfl rfl rfl rfl rfl (by kernel_rfl) Try.func7 (by kernel_rfl)
    (of_decide_eq_true (by kernel_rfl)) (by unfold Func.isWrapper; first | (rw [if_pos (by decide +kernel)]; kernel_rfl) | (rw [if_neg (by decide +kernel)]; exact ⟨rfl, rfl⟩))
    (fun os started H enc _ => law_lifted (f := 7) (F := Try.f7) (s := Rows.replayCompareSpec) os started H enc (by kernel_rfl) Try.func7 rfl rfl (by kernel_rfl) (by kernel_rfl)
      (fun ds hd => by match ds, hd with | [_, _, _], _ => rfl)
      (ChangeSpec.witness6 (enc := enc) (C := Try.checked) false ⟨#[], #[.slice none 0 0, .slice none 0 0, .int .i64 0], []⟩ 8 (by kernel_rfl) (by kernel_rfl) (by kernel_rfl) (by kernel_rfl))
      (fun W base args ds ps hv hA hlt hsz => from_args W base args ds ps hv hA hlt hsz))

/-- The statement. -/
theorem proved : Rows.ReplayCompareSaid := over

end replayCompare
end Go.Proofs.Ytdejceojhkdjnaa
