/-
  The law ReplayCheck: Check, Calls and Alive return the specified results for any list.
  No conditions.
-/
import Derived.Test.YtdejceojhkdjnaaRpA
import Derived.Test.YtdejceojhkdjnaaRpR6
import Derived.Test.YtdejceojhkdjnaaRpR8
import Derived.BigQuiet
namespace Go.Proofs.Ytdejceojhkdjnaa
open Go.ChangeShapes Go.WideShapes Go.ChangeAt Go.RowKit Go.Deep

/-- The tasks that Alive names. -/
def aliveL (l : List En) : List Nat := if (runP initS l).2.1 = 0 then aliveP (runP initS l).2.2 32 else []
theorem aliveL_len (l : List En) : (aliveL l).length ≤ 32 := by
  unfold aliveL
  split
  · exact aliveP_len _ _
  · exact Nat.zero_le _
def AliveRd (l : List En) (w : World) (x : Ending) (w' : World) : Prop :=
  ∃ A c, x = .returned (.tuple #[.slice A (aliveL l).length c, .int .i64 (runP initS l).2.1]) ∧ Rd w' w'.heap.size 1 A (aliveL l).length (icells (aliveL l)) ∧ Only Nil w w'
theorem AliveRd.of {l : List En} {w : World} {x : Ending} {w' : World} (h : AlivePost l w x w') : AliveRd l w x w' := by
  obtain ⟨hO, hn, hy⟩ := h
  unfold AliveRd aliveL
  by_cases h0 : (runP initS l).2.1 = 0
  · obtain ⟨A, c, rfl, hown⟩ := hy h0
    rw [if_pos h0, h0]
    exact ⟨A, c, rfl, Rd.of_own hown, hO⟩
  · rw [if_neg h0]
    exact ⟨none, 0, hn h0, Rd.nil, hO⟩

namespace replayCheck
set_option maxRecDepth 100000 in
set_option maxHeartbeats 4000000 in
theorem walk (A : Option Addr) (ca : Nat) (rs : List ER) (w : World) (ha : Es w w.heap.size A rs) (hal : rs.length ≤ maxLen) : Calls Try.prog 3 #[.slice A rs.length ca] w (LawPost w) := by
  have hfa := fun w' (hO : Only Nil w w') => few_any A ca rs w' (ha.next hO) hal
  obtain ⟨fa, hfa1⟩ : ∃ f, fewE rs = f := ⟨_, rfl⟩
  rw [hfa1] at hfa
  obtain ⟨N, hN⟩ : ∃ N, rs.length = N := ⟨_, rfl⟩
  obtain ⟨n, hn⟩ : ∃ n, (runP initS (rs.map ER.x)).1 = n := ⟨_, rfl⟩
  obtain ⟨e, he⟩ : ∃ e, (runP initS (rs.map ER.x)).2.1 = e := ⟨_, rfl⟩
  obtain ⟨L, hL⟩ : ∃ L, aliveL (rs.map ER.x) = L := ⟨_, rfl⟩
  obtain ⟨K, hK⟩ : ∃ K, L.length = K := ⟨_, rfl⟩
  have hK32 : K ≤ 32 := by rw [← hK, ← hL]; exact aliveL_len _
  have hall : fewE rs = true → rs.length ≤ 1099511627776 ∧ ∀ r ∈ rs, r.x.data.length ≤ 1099511627776 := fun h => by
    obtain ⟨h1, h2⟩ := fewE_of h
    exact ⟨by omega, fun r hr => by have := h1 r hr; omega⟩
  have h1 : fewE rs = true → ∀ u, Only Nil w u → Calls Try.prog 10 #[.slice A rs.length ca] u fun x u' => x = .returned (.tuple #[.int .i64 n, .int .i64 e]) ∧ Only Nil u u' := fun h u hO => by
    have := check_any A ca rs u (ha.next hO) (hall h).1
    unfold CheckPost at this
    rwa [hn, he] at this
  have h2 : fewE rs = true → ∀ u, Only Nil w u → Calls Try.prog 11 #[.slice A rs.length ca] u fun x u' => x = .returned (.tuple #[.int .i64 n, .int .i64 e]) ∧ Only Nil u u' := fun h u hO => by
    have := Ref.check_any A ca rs u (ha.next hO) (hall h).1
    unfold CheckPost at this
    rwa [hn, he] at this
  have h3 : fewE rs = true → ∀ u, Only Nil w u → Calls Try.prog 12 #[.slice A rs.length ca] u fun x u' => ∃ A' c', x = .returned (.tuple #[.slice A' K c', .int .i64 e]) ∧ Rd u' u'.heap.size 1 A' K (icells L) ∧ Only Nil u u' := fun h u hO => by
    have := (alive_any A ca rs u (ha.next hO) (hall h).1).mono (fun x u' hp => AliveRd.of hp)
    unfold AliveRd at this
    rwa [he, hL, hK] at this
  have h4 : fewE rs = true → ∀ u, Only Nil w u → Calls Try.prog 13 #[.slice A rs.length ca] u fun x u' => ∃ A' c', x = .returned (.tuple #[.slice A' K c', .int .i64 e]) ∧ Rd u' u'.heap.size 1 A' K (icells L) ∧ Only Nil u u' := fun h u hO => by
    have := (Ref.alive_any A ca rs u (ha.next hO) (hall h).1).mono (fun x u' hp => AliveRd.of hp)
    unfold AliveRd at this
    rwa [he, hL, hK] at this
  have h5 : fewE rs = true → ∀ u, Only Nil w u → Calls Try.prog 15 #[.slice A rs.length ca] u (RCallsPost (rs.map ER.x) u) := fun h u hO => law_calls_any A ca rs u (ha.next hO) (hall h).1 (hall h).2
  have h6 : fewE rs = true → ∀ u, Only Nil w u → Calls Try.prog 16 #[.slice A rs.length ca] u (RCallsPost (rs.map ER.x) u) := fun h u hO => Ref.calls_any A ca rs u (ha.next hO) (hall h).1 (hall h).2
  have h7 : fewE rs = true → ∀ (os : List CR), os.map CR.x = callsP (rs.map ER.x) (rs.map ER.x).length → os.length ≤ 1099511627776 := fun h os ho => by
    have h1 := callsP_len (rs.map ER.x) (rs.map ER.x).length
    have h2 := congrArg List.length ho
    simp only [List.length_map] at h1 h2
    have := (hall h).1
    omega
  rw [hfa1] at h1 h2 h3 h4 h5 h6 h7
  rw [hN] at hfa h1 h2 h3 h4 h5 h6 ⊢
  have HFA := Lib.hid hfa
  have H1 := Lib.hid h1
  have H2 := Lib.hid h2
  have H3 := Lib.hid h3
  have H4 := Lib.hid h4
  have H5 := Lib.hid h5
  have H6 := Lib.hid h6
  have H7 := Lib.hid h7
  have HK := Lib.hid hK
  clear ha hfa hN hfa1 h1 h2 h3 h4 h5 h6 h7 hn he hL hK hall hal
  go_enter Try.func3, Try.ntmps3
  go_wp2_with fail
  refine (awake_any _).mono ?_
  rintro x w1 ⟨rfl, hO1⟩
  have HO1 := Lib.hid hO1
  clear hO1
  go_wp2_with fail
  refine (HFA.out _ HO1.out).mono ?_
  rintro x w2 ⟨rfl, rfl⟩
  cases fa
  · go_wp2_with fail
    go_ret
    exact ⟨rfl, HO1.out⟩
  go_wp2_with fail
  refine (H1.out (by first | trivial | rfl) _ HO1.out).mono ?_
  rintro x w2 ⟨rfl, hO2⟩
  have HO2 := Lib.hid (HO1.out.thenNil hO2)
  clear hO2
  go_wp2_with fail
  refine (H2.out (by first | trivial | rfl) _ HO2.out).mono ?_
  rintro x w3 ⟨rfl, hO3⟩
  have HO3 := Lib.hid (HO2.out.thenNil hO3)
  clear hO3
  go_wp2_with fail
  refine (H3.out (by first | trivial | rfl) _ HO3.out).mono ?_
  rintro x w4 ⟨A4, c4, rfl, hR4, hO4⟩
  have HO4 := Lib.hid (HO3.out.thenNil hO4)
  have HR4 := Lib.hid hR4
  clear hO4 hR4
  go_wp2_with fail
  refine (H4.out (by first | trivial | rfl) _ HO4.out).mono ?_
  rintro x w5 ⟨A5, c5, rfl, hR5, hO5⟩
  have HR45 := Lib.hid (Rd.more (Rd.onlyNil HR4.out hO5 (Nat.le_refl _)) hO5.size)
  have HR5 := Lib.hid hR5
  have HO5 := Lib.hid (HO4.out.thenNil hO5)
  clear hO5 hR5
  go_wp2_with fail
  go_loopw [11] (fun i wr => ∃ k : Nat, k ≤ K ∧ i = .int .i64 k ∧ Only Nil w5 wr) (fun i _ => K - (intOf i).toNat)
  case atStart => exact ⟨0, Nat.zero_le _, rfl, Only.refl _ _⟩
  case round =>
    obtain ⟨k, hk, rfl, hO⟩ := hrel
    by_cases hlt : k < K
    · obtain ⟨z, hz⟩ : ∃ z, L[k]? = some z := ⟨L[k]'(by rw [HK.out]; exact hlt), List.getElem?_eq_getElem _⟩
      obtain ⟨b, off, rfl, _, hc⟩ := HR45.out.2 (by omega)
      obtain ⟨b', off', rfl, _, hc'⟩ := HR5.out.2 (by omega)
      have e0 := hc k (.int .i64 z) (by unfold icells; rw [List.getElem?_map, hz]; rfl)
      have e1 := hc' k (.int .i64 z) (by unfold icells; rw [List.getElem?_map, hz]; rfl)
      have k0 : ∀ u, Only Nil w5 u → u.cell? ⟨b, off + k, none⟩ = some (.int .i64 z) := fun u hu => (hu.cell (lt_of_cell e0) (fun h => h)).trans e0
      have k1 : ∀ u, Only Nil w5 u → u.cell? ⟨b', off' + k, none⟩ = some (.int .i64 z) := fun u hu => (hu.cell (lt_of_cell e1) (fun h => h)).trans e1
      have g0 := k0 wr hO
      have g1 := k1 wr hO
      have f0 := k0 wr.drew hO.drew
      have f1 := k1 wr.drew hO.drew
      have hki : (k : Int) < K := by omega
      have HO := Lib.hid hO
      clear hO hc hc' e0 e1 k0 k1 hz
      go_wp2_with fail
      go_quiet (fail)
      go_wp2_with fail
      go_roundw
      case rel => exact ⟨k + 1, by omega, by go_num, by first | exact HO.out.drew | exact HO.out.drewN _ | (repeat' (first | with_reducible exact Only.refl _ _ | with_reducible refine Only.setCell ?_ (Or.inl ?_) _ | with_reducible refine Only.drewN ?_ _ | with_reducible refine Only.drew ?_ | with_reducible refine Only.alloc ?_ _ | (exact HO.out)))⟩
      case measure => simp [intOf]; omega
    · have hkK : k = K := by omega
      subst hkK
      have HO6 := Lib.hid (HO5.out.thenNil hO)
      clear hO
      go_wp2_with fail
      refine (H5.out (by first | trivial | rfl) _ HO6.out).mono ?_
      rintro x w7 ⟨A7, c7, os, rfl, hos, hrow, _, hO7⟩
      have HL7 := Lib.hid (H7.out (by first | trivial | rfl) os hos)
      have HOS := Lib.hid hos
      have HCS := Lib.hid hrow.cs
      have HO7 := Lib.hid (HO6.out.thenNil hO7)
      obtain ⟨M, hM⟩ : ∃ M, os.length = M := ⟨_, rfl⟩
      rw [hM]
      have HM := Lib.hid hM
      clear hos hrow hO7 hM
      go_wp2_with fail
      refine (H6.out (by first | trivial | rfl) _ HO7.out).mono ?_
      rintro x w8 ⟨A8, c8, qs, rfl, hqs, hrow8, _, hO8⟩
      have HQS := Lib.hid hqs
      have HCS8 := Lib.hid hrow8.cs
      have HCS78 := Lib.hid (HCS.out.onlyNil hO8)
      have HO8 := Lib.hid (HO7.out.thenNil hO8)
      have HSC := Lib.hid (Ref.same_calls A7 A8 c7 c8 os qs w8 HCS78.out HCS8.out (HOS.out.trans hqs.symm) HL7.out)
      rw [HM.out] at HSC
      obtain ⟨M8, hM8⟩ : ∃ M, qs.length = M := ⟨_, rfl⟩
      rw [hM8] at HSC ⊢
      clear hqs hrow8 hO8 hM8
      go_wp2_with fail
      refine HSC.out.mono ?_
      rintro x w9 ⟨rfl, hO9⟩
      have HO9 := Lib.hid (HO8.out.thenNil hO9)
      clear hO9
      go_wp2_with fail
      go_ret
      exact ⟨rfl, HO9.out⟩

set_option maxRecDepth 100000 in
theorem from_args {H : Type} {enc : TypeId × Value → H} (W : World) (base : Nat) (args : Array Value) (ds : List (DataW H)) (ps : List MemPlace)
    (hval0 : ∀ (j : Nat) t v, Try.f3.params[j]? = some t → args[j]? = some v → Value.okWide Try.prog W .any base t v)
    (hA : DataW.TrodAll enc Try.prog W 0 (fun _ => true) true Try.f3.params.toList args.toList ds ps) (_hlt : ∀ x ∈ ps, x.block < W.heap.size)
    (hsz : (DataW.weightsEach Try.prog Try.f3.params.toList ds).all (· ≤ reachBytes) = true) : Calls Try.prog 3 args W (LawPost W) := by
  have hval := hval0
  rw [Try.params3] at hA hval hsz
  obtain ⟨v0, vs0, d0, ds0, p0, q0, hargs, rfl, rfl, h0, r0⟩ := trodAll_cons hA
  obtain ⟨rfl, rfl, rfl⟩ := trodAll_nil r0
  obtain rfl : args = #[v0] := by cases args; simp_all
  obtain ⟨A, rs, ca, rfl, h1', h2', hE⟩ := open_entries (hval 0 _ v0 rfl rfl) h0
  exact walk A ca rs W hE (by omega)

set_option maxRecDepth 100000 in
theorem over : Rows.replayCheckRow.holds Try.pinned (OpenSpec.ofChange Rows.replayCheckSpec) :=
  OpenClaim.holds_of_wide 3 Try.f3 rfl rfl rfl rfl rfl rfl rfl ⟨rfl, rfl, rfl, rfl, rfl⟩ rfl rfl rfl rfl rfl (by kernel_rfl) Try.func3 (by kernel_rfl)
    (of_decide_eq_true (by kernel_rfl)) (by unfold Func.isWrapper; first | (rw [if_pos (by decide +kernel)]; kernel_rfl) | (rw [if_neg (by decide +kernel)]; exact ⟨rfl, rfl⟩))
    (fun os started H enc _ => law_lifted (f := 3) (F := Try.f3) (s := Rows.replayCheckSpec) os started H enc (by kernel_rfl) Try.func3 rfl rfl (by kernel_rfl) (by kernel_rfl)
      (fun ds hd => by match ds, hd with | [_], _ => rfl)
      (ChangeSpec.witness6 (enc := enc) (C := Try.checked) false ⟨#[], #[.slice none 0 0], []⟩ 8 (by kernel_rfl) (by kernel_rfl) (by kernel_rfl) (by kernel_rfl))
      (fun W base args ds ps hv hA hlt hsz => from_args W base args ds ps hv hA hlt hsz))

/-- The statement. -/
theorem proved : Rows.ReplayCheckSaid := over

end replayCheck
end Go.Proofs.Ytdejceojhkdjnaa
