/-
  The law RecordAppends: the bytes of a list are those of the empty list to which its entries are appended one after the other.
  No conditions.
-/
import Derived.Test.YtkcmdibpndkfbaaRcL1
import Derived.Laws.Externs
namespace Go.Proofs.Ytkcmdibpndkfbaa
open Go.ChangeShapes Go.WideShapes Go.ChangeAt Go.RowKit Go.Deep

theorem recB_le {l : List En} (hf : ∀ x ∈ l, x.fits) (hv : l.all vE = true) (hn : l.length ≤ 21) : (recB l).length ≤ 40000 := by
  have h1 := bodyB_len (h := ofS magic) (l := l) (fun y hy => ⟨hf y hy, vE_data (List.all_eq_true.1 hv y hy)⟩)
  rw [recB_len]
  omega

namespace recordAppends
set_option maxRecDepth 100000 in
set_option maxHeartbeats 4000000 in
theorem walk (A : Option Addr) (ca : Nat) (rs : List ER) (w : World) (ha : Es w w.heap.size A rs) (hal : rs.length ≤ maxLen) :
    Calls Try.prog 6 #[.slice A rs.length ca] w (LawPost w) := by
  have hfa := fun w' (hO : Only Nil w w') => Ref.few_any A ca rs w' (ha.next hO) hal
  have HA := Lib.hid ha
  obtain ⟨fa, hfa1⟩ : ∃ f, fewR (rs.map ER.x) = f := ⟨_, rfl⟩
  rw [hfa1] at hfa
  obtain ⟨N, hN⟩ : ∃ N, rs.length = N := ⟨_, rfl⟩
  rw [hN] at hfa hal ⊢
  have HFA := Lib.hid hfa
  have HFA1 := Lib.hid hfa1
  have HN := Lib.hid hN
  unfold maxLen at hal
  clear ha hfa hN hfa1
  go_enter Try.func6, Try.ntmps6
  go_wp2_with fail
  refine (awake_any _).mono ?_
  rintro x w1 ⟨rfl, hO1⟩
  have HO1 := Lib.hid hO1
  clear hO1
  go_wp2_with fail
  refine (HFA.out _ HO1.out).mono ?_
  rintro x w2 ⟨rfl, rfl⟩
  cases fa
  · go_wp2_with fail
    go_ret
    exact ⟨rfl, HO1.out⟩
  have h1 := fewR_of HFA1.out
  have hN20 : N ≤ 20 := by rw [← HN.out]; have := h1.2; rwa [List.length_map] at this
  have hfit : ∀ k, ∀ x ∈ (rs.take k).map ER.x, x.fits := fun k x hx => by
    obtain ⟨q, hq, rfl⟩ := List.mem_map.1 hx
    exact (HA.out.ok q (List.mem_of_mem_take hq)).fits
  have HFIT := Lib.hid hfit
  have hwl : ∀ u, Only Nil w u → Calls Try.prog 9 #[.slice A N ca] u (WrPost (rs.map ER.x) u) := fun u hO => by
    have := write_any A ca rs u (HA.out.next hO) (by rw [HN.out]; omega)
    rwa [HN.out] at this
  have HWL := Lib.hid hwl
  have hw0 := write_any none 0 [] w2 ⟨Rd.nil, fun r hr => by cases hr⟩ (by simp)
  have HW0 := Lib.hid hw0
  clear h1 hfit hwl hw0
  go_wp2_with fail
  refine HW0.out.mono ?_
  rintro x w3 ⟨hO3, hpost⟩
  have hpost2 : ∃ A c, x = .returned (.tuple #[.slice A (recB []).length c, .int .i64 0]) ∧ OwnX w3 w2.heap.size A c (recB []) := by
    rcases hpost with ⟨_, A, c, h1, h2⟩ | ⟨h1, _⟩
    · exact ⟨A, c, h1, h2⟩
    · cases h1
  clear hpost
  obtain ⟨A0, c0, rfl, hown0⟩ := hpost2
  have HOW0 := Lib.hid hown0
  have HO3 := Lib.hid (HO1.out.thenNil hO3)
  clear hO3 hown0
  obtain ⟨M0, hM0⟩ : ∃ M, (recB []).length = M := ⟨_, rfl⟩
  rw [hM0]
  have HM0 := Lib.hid hM0
  clear hM0
  go_wp2_with fail
  go_loopw [3, 4, 5] (fun vb ve vi wr => ∃ k : Nat, k ≤ N ∧ vi = .int .i64 k ∧ Only Nil w wr ∧
      ((((rs.take k).map ER.x).all vE = true ∧ ve = .int .i64 0 ∧ ∃ Ab cb M, (recB ((rs.take k).map ER.x)).length = M ∧ vb = .slice Ab M cb ∧ ∃ base, OwnX wr base Ab cb (recB ((rs.take k).map ER.x))) ∨
       ((rs.map ER.x).all vE = false ∧ ve = .int .i64 1 ∧ vb = .slice none 0 0))) (fun _ _ vi _ => N - (intOf vi).toNat)
  case atStart => exact ⟨0, Nat.zero_le _, rfl, HO3.out, .inl ⟨rfl, rfl, A0, c0, M0, HM0.out, rfl, _, HOW0.out⟩⟩
  case round =>
    obtain ⟨k, hk, rfl, hO, hcase⟩ := hrel
    have HO := Lib.hid hO
    clear hO
    rcases hcase with ⟨hall, rfl, Ab, cb, M, hM, rfl, base, hown⟩ | ⟨hall, rfl, rfl⟩
    · have HALL := Lib.hid hall
      have HM := Lib.hid hM
      have HOWN := Lib.hid hown
      clear hall hM hown
      by_cases hlt : k < N
      · obtain ⟨r, hr⟩ : ∃ r, rs[k]? = some r := ⟨rs[k]'(by rw [HN.out]; exact hlt), List.getElem?_eq_getElem _⟩
        obtain ⟨hkl, hge⟩ := List.getElem?_eq_some_iff.1 hr
        have htk : (rs.take (k + 1)).map ER.x = (rs.take k).map ER.x ++ [r.x] := by
          rw [List.take_succ_eq_append_getElem hkl, hge, List.map_append]
          rfl
        have hok : ER.ok wr wr.heap.size r := ((HA.out.next HO.out).ok r (List.mem_of_getElem? hr))
        have hMle := recB_le (HFIT.out k) HALL.out (by rw [List.length_map, List.length_take]; omega)
        have hrr := readR_recB (l := (rs.take k).map ER.x) (fun x hx => ⟨List.all_eq_true.1 HALL.out x hx, HFIT.out k x hx⟩)
        have hform := HOWN.out.form
        rw [HM.out] at hMle hform
        have happ := append_any Ab cb (recB ((rs.take k).map ER.x)) r wr HOWN.out.bs (by rw [HM.out]; omega) (by rw [HM.out]; exact hform.1) hok (by rw [hrr, List.length_map, List.length_take]; omega)
        rw [hrr, HM.out] at happ
        obtain ⟨b, off, rfl, _, hc⟩ := (HA.out.next HO.out).at_ hr
        have hki : (k : Int) < N := by omega
        have hmx : (rs.map ER.x)[k]? = some r.x := by rw [List.getElem?_map, hr]; rfl
        have HMX := Lib.hid hmx
        have HTK := Lib.hid htk
        have HAPP := Lib.hid happ
        obtain ⟨Ad, cd, ⟨kind, task, call, a0, a1, a2, result, data⟩⟩ := r
        unfold ER.cells at hc HAPP
        dsimp only at hc HAPP
        have e0 : wr.cell? ⟨b, off + k * 8, none⟩ = some (.int .i64 kind) := by have := hc 0 _ rfl; rwa [Nat.add_zero] at this
        have e1 : wr.cell? ⟨b, off + k * 8 + 1, none⟩ = some (.int .i64 task) := by have := hc 1 _ rfl; rwa [← Nat.add_assoc] at this
        have e2 : wr.cell? ⟨b, off + k * 8 + 2, none⟩ = some (.int .i64 call) := by have := hc 2 _ rfl; rwa [← Nat.add_assoc] at this
        have e3 : wr.cell? ⟨b, off + k * 8 + 3, none⟩ = some (.int .i64 a0) := by have := hc 3 _ rfl; rwa [← Nat.add_assoc] at this
        have e4 : wr.cell? ⟨b, off + k * 8 + 4, none⟩ = some (.int .i64 a1) := by have := hc 4 _ rfl; rwa [← Nat.add_assoc] at this
        have e5 : wr.cell? ⟨b, off + k * 8 + 5, none⟩ = some (.int .i64 a2) := by have := hc 5 _ rfl; rwa [← Nat.add_assoc] at this
        have e6 : wr.cell? ⟨b, off + k * 8 + 6, none⟩ = some (.int .i64 result) := by have := hc 6 _ rfl; rwa [← Nat.add_assoc] at this
        have e7 : wr.cell? ⟨b, off + k * 8 + 7, none⟩ = some (.slice Ad data.length cd) := by have := hc 7 _ rfl; rwa [← Nat.add_assoc] at this
        clear hc hr hkl hge htk hok hMle hrr hform happ hmx
        go_wp2_with fail
        refine HAPP.out.mono ?_
        rintro x w5 ⟨hO5, hpost⟩
        dsimp only at hpost
        rw [← HTK.out] at hpost
        have hp2 : (((rs.take (k + 1)).map ER.x).all vE = true ∧ ∃ Ab cb M, (recB ((rs.take (k + 1)).map ER.x)).length = M ∧ x = .returned (.tuple #[.slice Ab M cb, .int .i64 0]) ∧ ∃ base, OwnX w5 base Ab cb (recB ((rs.take (k + 1)).map ER.x))) ∨
            ((rs.map ER.x).all vE = false ∧ x = .returned (.tuple #[.slice none 0 0, .int .i64 1])) := by
          rcases hpost with ⟨h1, _⟩ | ⟨_, h1, h2⟩ | ⟨_, h1, h2⟩
          · exact absurd rfl h1
          · exact .inr ⟨all_take HMX.out h1, h2⟩
          · rcases h2.2 with ⟨h3, A3, c3, h4, h5⟩ | ⟨h3, _⟩
            · exact .inl ⟨h3, A3, c3, _, rfl, h4, _, h5⟩
            · exfalso
              rw [HTK.out, List.all_append, HALL.out] at h3
              simp [h1] at h3
        clear hpost
        have HO5 := Lib.hid (HO.out.thenNil hO5)
        clear hO5 e0 e1 e2 e3 e4 e5 e6 e7
        rcases hp2 with ⟨h1, A5, c5, M5, h2, rfl, base5, h3⟩ | ⟨h1, rfl⟩
        · have HH := Lib.hid (And.intro h1 (And.intro h2 h3))
          clear h1 h2 h3
          go_wp2_with fail
          go_roundw
          case rel => exact ⟨k + 1, by omega, by go_num, HO5.out, .inl ⟨HH.out.1, rfl, A5, c5, M5, HH.out.2.1, rfl, base5, HH.out.2.2⟩⟩
          case measure => simp [intOf]; omega
        · have HH := Lib.hid h1
          clear h1
          go_wp2_with fail
          go_roundw
          case rel => exact ⟨k + 1, by omega, by go_num, HO5.out, .inr ⟨HH.out, rfl, rfl⟩⟩
          case measure => simp [intOf]; omega
      · have hkN : k = N := by omega
        have hki : ¬ (k : Int) < N := by omega
        have htk : rs.take k = rs := List.take_of_length_le (by rw [HN.out]; omega)
        have hall := HALL.out
        have hM := HM.out
        have hown := HOWN.out
        rw [htk] at hall hM hown
        obtain ⟨B, hB⟩ : ∃ B, recB (rs.map ER.x) = B := ⟨_, rfl⟩
        have hw := HWL.out wr HO.out
        unfold WrPost at hw
        rw [hall] at hw
        rw [hB] at hM hown hw
        have HM2 := Lib.hid hM
        have HOW2 := Lib.hid hown
        have HW := Lib.hid hw
        clear hall hM hown hw hB htk hkN hlt
        go_wp2_with fail
        refine HW.out.mono ?_
        rintro x w5 ⟨hO5, hpost⟩
        have hp2 : ∃ A c, x = .returned (.tuple #[.slice A M c, .int .i64 0]) ∧ OwnX w5 wr.heap.size A c B := by
          rcases hpost with ⟨_, A, c, h1, h2⟩ | ⟨h1, _⟩
          · exact ⟨A, c, by rw [h1, HM2.out], h2⟩
          · cases h1
        clear hpost
        obtain ⟨A5, c5, rfl, hown5⟩ := hp2
        have ks1 := run_str (P := Try.prog) w5 26 9 5 Try.underlying26 Try.underlying5 Try.underlying9 (c := cb) (HOW2.out.onlyNil hO5).bs HM2.out.symm
        have ks2 := run_str (P := Try.prog) w5 26 9 5 Try.underlying26 Try.underlying5 Try.underlying9 (c := c5) hown5.bs HM2.out.symm
        have HO5 := Lib.hid (HO.out.thenNil hO5)
        clear hO5 hown5
        go_wp2_with fail
        refine bodyPost_ret (v := .bool true) (by simp [results, Try.results6, go_sem]) rfl ?_
        exact ⟨rfl, HO5.out⟩
    · have hw := HWL.out wr HO.out
      unfold WrPost at hw
      rw [hall] at hw
      have HW := Lib.hid hw
      clear hw hall
      obtain ⟨q, hq⟩ : ∃ q, decide ((k : Int) < (N : Int)) = q := ⟨_, rfl⟩
      have hqi : k < N ∨ k = N := by omega
      rcases hqi with hlt | hlt
      · have hki : (k : Int) < N := by omega
        clear hq hlt
        go_wp2_with fail
        refine HW.out.mono ?_
        rintro x w5 ⟨hO5, hpost⟩
        have hp2 : x = .returned (.tuple #[.slice none 0 0, .int .i64 1]) := by
          rcases hpost with ⟨h1, _⟩ | ⟨_, h1⟩
          · cases h1
          · exact h1
        clear hpost
        subst hp2
        have HO5 := Lib.hid (HO.out.thenNil hO5)
        clear hO5
        go_wp2_with fail
        refine bodyPost_ret (v := .bool true) (by simp [results, Try.results6, go_sem]) rfl ?_
        exact ⟨rfl, HO5.out⟩
      · have hki : ¬ (k : Int) < N := by omega
        clear hq hlt
        go_wp2_with fail
        refine HW.out.mono ?_
        rintro x w5 ⟨hO5, hpost⟩
        have hp2 : x = .returned (.tuple #[.slice none 0 0, .int .i64 1]) := by
          rcases hpost with ⟨h1, _⟩ | ⟨_, h1⟩
          · cases h1
          · exact h1
        clear hpost
        subst hp2
        have HO5 := Lib.hid (HO.out.thenNil hO5)
        clear hO5
        go_wp2_with fail
        refine bodyPost_ret (v := .bool true) (by simp [results, Try.results6, go_sem]) rfl ?_
        exact ⟨rfl, HO5.out⟩

set_option maxRecDepth 100000 in
theorem from_args {H : Type} {enc : TypeId × Value → H} (W : World) (base : Nat) (args : Array Value) (ds : List (DataW H)) (ps : List MemPlace)
    (hval0 : ∀ (j : Nat) t v, Try.f6.params[j]? = some t → args[j]? = some v → Value.okWide Try.prog W .any base t v)
    (hA : DataW.TrodAll enc Try.prog W 0 (fun _ => true) true Try.f6.params.toList args.toList ds ps) (_hlt : ∀ x ∈ ps, x.block < W.heap.size)
    (hsz : (DataW.weightsEach Try.prog Try.f6.params.toList ds).all (· ≤ reachBytes) = true) : Calls Try.prog 6 args W (LawPost W) := by
  have hval := hval0
  rw [Try.params6] at hA hval hsz
  obtain ⟨v0, vs0, d0, ds0, p0, q0, hargs, rfl, rfl, h0, r0⟩ := trodAll_cons hA
  obtain ⟨rfl, rfl, rfl⟩ := trodAll_nil r0
  obtain rfl : args = #[v0] := by cases args; simp_all
  obtain ⟨A, rs, ca, rfl, h1', h2', hE⟩ := open_entries (hval 0 _ v0 rfl rfl) h0
  exact walk A ca rs W hE (by omega)

set_option maxRecDepth 100000 in
theorem over : Rows.recordAppendsRow.holds Try.pinned (OpenSpec.ofChange Rows.recordAppendsSpec) :=
  OpenClaim.holds_of_wide 6 Try.f6 rfl rfl rfl rfl rfl rfl rfl ⟨rfl, rfl, rfl, rfl, rfl⟩ rfl rfl rfl rfl rfl (by kernel_rfl) Try.func6 (by kernel_rfl)
    (of_decide_eq_true (by kernel_rfl)) (by unfold Func.isWrapper; first | (rw [if_pos (by decide +kernel)]; kernel_rfl) | (rw [if_neg (by decide +kernel)]; exact ⟨rfl, rfl⟩))
    (fun os started H enc _ => law_lifted (f := 6) (F := Try.f6) (s := Rows.recordAppendsSpec) os started H enc (by kernel_rfl) Try.func6 rfl rfl (by kernel_rfl) (by kernel_rfl)
      (fun ds hd => by match ds, hd with | [_], _ => rfl)
      (ChangeSpec.witness6 (enc := enc) (C := Try.checked) false ⟨#[], #[.slice none 0 0], []⟩ 8 (by kernel_rfl) (by kernel_rfl) (by kernel_rfl) (by kernel_rfl))
      (fun W base args ds ps hv hA hlt hsz => from_args W base args ds ps hv hA hlt hsz))

/-- The statement. -/
theorem proved : Rows.RecordAppendsSaid := over

end recordAppends
end Go.Proofs.Ytkcmdibpndkfbaa
