/-
  The law RecordDamage: if one byte of the bytes of a list is changed, exactly the entries ahead of it are read, with an error.
  No conditions.
-/
import Derived.Test.YtkcmdibpndkfbaaRcL3
import Derived.BigQuiet
import Derived.Laws.Externs
namespace Go.Proofs.Ytkcmdibpndkfbaa
open Go.ChangeShapes Go.WideShapes Go.ChangeAt Go.RowKit Go.Deep

theorem OwnX.set {w : World} {base : Nat} {A : Option Addr} {c : Nat} {l : List UInt8} (h : OwnX w base A c l) {k : Nat} (hk : k < l.length) (b : UInt8) :
    ∃ g, A = some ⟨g, 0, none⟩ ∧ base ≤ g ∧ g < w.heap.size ∧ w.frozen? ⟨g, k, none⟩ = false ∧ OwnX (w.setCell ⟨g, k, none⟩ (.int .u8 (b.toNat : Int))) base A c (l.set k b) := by
  have hmap : (bcells l).set k (.int .u8 (b.toNat : Int)) = bcells (l.set k b) := by unfold bcells; rw [List.map_set]
  obtain ⟨g, hA⟩ := h.form.2.2 (by omega)
  subst hA
  have hlt := h.lt (q := g) rfl
  have hge := h.ge (q := g) rfl
  refine ⟨g, rfl, hge, hlt, ?_⟩
  rcases h with h | ⟨g', fz, e1, e2, hb, hg, h1, h2, h3⟩
  · refine ⟨h.frozenAt k, .inl ?_⟩
    have h1 := (h.stored k (.int .u8 (b.toNat : Int))).1
    rw [hmap] at h1
    rw [List.length_set]
    exact h1
  · injection e1 with e1
    injection e1 with e1
    subst e1
    refine ⟨?_, .inr ⟨g, fz, rfl, by rw [List.length_set]; exact e2, hb, ?_, by rw [List.length_set]; exact h1, by rw [List.length_set]; exact h2, by rw [List.length_set]; exact h3⟩⟩
    · unfold World.frozen?
      rw [hg]
      obtain ⟨lo, hi⟩ := fz
      have h1' : l.length ≤ lo := h1
      have h4 : ¬ lo ≤ k := by omega
      simp [h4]
    · rw [← hmap]
      unfold World.setCell
      simp only [Array.getElem?_modify, hg]
      simp

namespace recordDamage
set_option maxRecDepth 100000 in
set_option maxHeartbeats 8000000 in
theorem walk (A : Option Addr) (ca : Nat) (rs : List ER) (z t : Int) (w : World) (ha : Es w w.heap.size A rs) (hal : rs.length ≤ ca) (hca : ca ≤ maxLen) (hz : 0 ≤ z ∧ z ≤ 65535) (ht : 0 ≤ t ∧ t ≤ 255) :
    Calls Try.prog 4 #[.slice A rs.length ca, .int .u16 z, .int .u8 t] w (LawPost w) := by
  have hfa := fun w' (hO : Only Nil w w') => Ref.few_any A ca rs w' (ha.next hO) (by omega)
  have HA := Lib.hid ha
  obtain ⟨fa, hfa1⟩ : ∃ f, fewR (rs.map ER.x) = f := ⟨_, rfl⟩
  rw [hfa1] at hfa
  obtain ⟨N, hN⟩ : ∃ N, rs.length = N := ⟨_, rfl⟩
  rw [hN] at hfa hal ⊢
  have HFA := Lib.hid hfa
  have HFA1 := Lib.hid hfa1
  have HN := Lib.hid hN
  unfold maxLen at hca
  clear ha hfa hN hfa1
  go_enter Try.func4, Try.ntmps4
  go_wp2_with fail
  refine (awake_any _).mono ?_
  rintro x w1 ⟨rfl, hO1⟩
  have HO1 := Lib.hid hO1
  clear hO1
  go_wp2_with fail
  refine (HFA.out _ HO1.out).mono ?_
  rintro x w2 ⟨rfl, rfl⟩
  cases fa
  · go_wp2_with fail
    go_ret
    exact ⟨rfl, HO1.out⟩
  have h1 := fewR_of HFA1.out
  have hN20 : N ≤ 20 := by rw [← HN.out]; have := h1.2; rwa [List.length_map] at this
  have hfit : ∀ x ∈ rs.map ER.x, x.fits := fun x hx => by
    obtain ⟨q, hq, rfl⟩ := List.mem_map.1 hx
    exact (HA.out.ok q hq).fits
  have HFIT := Lib.hid hfit
  have HD2 := Lib.hid h1.1
  have hwl : Calls Try.prog 9 #[.slice A N ca] w2 (WrPost (rs.map ER.x) w2) := by
    have := write_any A ca rs w2 (HA.out.next HO1.out) (by rw [HN.out]; omega)
    rwa [HN.out] at this
  have HWL := Lib.hid hwl
  clear h1 hfit hwl
  go_wp2_with fail
  refine HWL.out.mono ?_
  rintro x w3 ⟨hO3, hpost⟩
  have HO3 := Lib.hid (HO1.out.thenNil hO3)
  clear hO3
  rcases hpost with ⟨hall, Ab, cb, rfl, hown⟩ | ⟨hall, rfl⟩
  rotate_left
  · clear hall
    go_wp2_with fail
    refine bodyPost_ret (v := .bool true) (by simp [results, Try.results4, go_sem]) rfl ?_
    exact ⟨rfl, HO3.out⟩
  have hv : ∀ x ∈ rs.map ER.x, vE x = true ∧ x.fits := fun x hx => ⟨List.all_eq_true.1 hall x hx, HFIT.out x hx⟩
  have hMle := recB_le HFIT.out hall (by rw [List.length_map, HN.out]; omega)
  have hlast := endR_last (rs.map ER.x)
  rw [List.length_map, HN.out] at hlast
  obtain ⟨M, hM⟩ : ∃ M, (recB (rs.map ER.x)).length = M := ⟨_, rfl⟩
  have hform := hown.form
  rw [hM] at hMle hlast hform
  have hM5 : 5 ≤ M := by rw [← hM, recB_len]; omega
  obtain ⟨k, hk⟩ : ∃ k : Nat, z % (M : Int) = k := Int.eq_ofNat_of_zero_le (Int.emod_nonneg _ (by omega))
  have hkl : k < M := by have := Int.emod_lt_of_pos z (show 0 < (M : Int) by omega); omega
  have htm : z.tmod (M : Int) = k := by rw [Int.tmod_eq_emod_of_nonneg hz.1, hk]
  have hwz : wrap64 z = z := wrap64_fit _ (by omega)
  have hwz2 : IntKind.i64.wrap z = z := IntWalk.i64_in _ (by omega)
  have hwk : IntKind.i64.wrap (k : Int) = k := IntWalk.i64_in _ (by omega)
  obtain ⟨bk, hbk⟩ : ∃ b, (recB (rs.map ER.x))[k]? = some b := ⟨(recB (rs.map ER.x))[k]'(by rw [hM]; exact hkl), List.getElem?_eq_getElem _⟩
  obtain ⟨tb, rfl⟩ : ∃ tb : UInt8, t = (tb.toNat : Int) := ⟨UInt8.ofNat t.toNat, by
    rw [UInt8.toNat_ofNat_of_lt' (show t.toNat < 256 by omega)]
    omega⟩
  obtain ⟨gb, rfl, hgb, hgl, hfz, hown2⟩ := hown.set (k := k) (by rw [hM]; exact hkl) tb
  have hcb := hown.cells (g := gb) rfl k (.int .u8 (bk.toNat : Int)) (by rw [bcells_get, hbk]; rfl)
  rw [add_at, Nat.zero_add] at hcb
  have hMcb : M ≤ cb := hform.1
  have hkM : (k : Int) < (M : Int) := by omega
  have hM0 : ¬ ((M : Int) = 0) := by omega
  have hM0b : ((M : Int) == 0) = false := beq_false_of_ne hM0
  by_cases heq : bk = tb
  · subst heq
    rw [hM]
    have HTM := Lib.hid htm
    clear hall hown hv hMle hlast hform hk hM hown2 hgb hbk
    go_wp2_with fail
    refine bodyPost_ret (v := .bool true) (by simp [results, Try.results4, go_sem]) rfl ?_
    exact ⟨rfl, HO3.out⟩
  have hne : ((bk.toNat : Int) == (tb.toNat : Int)) = false := beq_false_of_ne (fun h => heq (UInt8.toNat_inj.1 (by omega)))
  obtain ⟨cnt, hc1, hc2, hc3⟩ := readR_scan_set hv hbk heq
  rw [List.length_map, HN.out] at hc1 hc2
  obtain ⟨w9, hw9⟩ : ∃ w9, w9 = w3.setCell ⟨gb, k, none⟩ (.int .u8 (tb.toNat : Int)) := ⟨_, rfl⟩
  rw [← hw9] at hown2
  have hO9 : Only Nil w w9 := by
    rw [hw9]
    exact HO3.out.trans ((Only.refl (One gb) w3).setCell (.inl (show One gb gb from rfl)) _) (fun x hx => .inr (by unfold One at hx; have := HO1.out.size; omega))
  have htl : ((recB (rs.map ER.x)).set k tb).length = M := by rw [List.length_set, hM]
  have hrd := read_any _ cb ((recB (rs.map ER.x)).set k tb) w9 hown2.bs (by rw [htl]; omega) (by rw [htl]; omega)
  rw [htl] at hrd
  obtain ⟨R, hR⟩ : ∃ R, readR ((recB (rs.map ER.x)).set k tb) = R := ⟨_, rfl⟩
  rw [hR] at hrd hc3
  have HO9 := Lib.hid hO9
  have HW9 := Lib.hid hw9
  have hends : ∀ u, Only Nil w u → Calls Try.prog 11 #[.slice A N ca] u fun e w' => ∃ A2 c2, e = .returned (.slice A2 (N + 1) c2) ∧ N + 1 ≤ c2 ∧ w'.ownsRow u.heap.size 3 1 (.slice A2 (N + 1) c2) (N + 1) (endV (rs.map ER.x) (N + 1)) ∧ Only Nil u w' := fun u hO => by
    have := Ref.ends_any A ca rs u (HA.out.next hO) (by rw [HN.out]; exact hN20) HD2.out
    rwa [HN.out] at this
  have hendle : ∀ n, endR (rs.map ER.x) n ≤ 40000 := fun n => by
    have h1 := endR_le (l := rs.map ER.x) (fun x hx => ⟨HFIT.out x hx, HD2.out x hx⟩) n
    rw [List.length_map, HN.out] at h1
    omega
  have HRD := Lib.hid hrd
  have HC1 := Lib.hid hc1
  have HC2 := Lib.hid hc2
  have HC3 := Lib.hid hc3
  have HENDS := Lib.hid hends
  have HLAST := Lib.hid hlast
  have HLE := Lib.hid hendle
  have HTM := Lib.hid htm
  have HM := Lib.hid hM
  rw [hM]
  clear hall hown hv hMle hlast hform hc1 hc2 hc3 htl hrd hR hends hendle hk hM hown2 hgb hbk hO9 hw9 heq
  go_wp2_with fail
  rw [← HW9.out]
  refine HRD.out.mono ?_
  rintro x w4 ⟨A4, c4, rs4, hmap, rfl, hc4, hel, hO4⟩
  obtain ⟨es, U, f⟩ := R
  dsimp only at hmap
  obtain ⟨N4, hN4⟩ : ∃ N4, rs4.length = N4 := ⟨_, rfl⟩
  rw [hN4]
  have HN4 := Lib.hid hN4
  have HMAP := Lib.hid hmap
  have HEL := Lib.hid hel
  have HO4 := Lib.hid (HO9.out.thenNil hO4)
  clear hmap hel hc4 hO4 hN4
  go_wp2_with fail
  refine (HENDS.out _ HO4.out).mono ?_
  rintro x w5 ⟨A5, c5, rfl, hc5, hown5, hO5⟩
  have HEL5 := Lib.hid (HEL.out.onlyNil hO5)
  have HO5 := Lib.hid (HO4.out.thenNil hO5)
  obtain ⟨g5, o5, rfl, _, hcell⟩ := (Rd.of_own hown5).2 (by omega)
  have hcells : ∀ u, Only Nil w5 u → ∀ i, i ≤ N → u.cell? ⟨g5, o5 + i, none⟩ = some (.int .i64 (endR (rs.map ER.x) i : Nat)) := fun u hu i hi => by
    have h4 := hcell i _ (endV_get _ (by omega : i < N + 1))
    exact (hu.cell (lt_of_cell h4) (fun h => h)).trans h4
  have HCELLS := Lib.hid hcells
  clear hO5 hown5 hcell hcells hc5
  go_wp2_with fail
  go_loopw [14, 15] (fun vn vi wr => ∃ (i : Nat) (nv : Int), i ≤ N + 1 ∧ vi = .int .i64 i ∧ vn = .int .i64 nv ∧ nv = ((min i cnt : Nat) : Int) - 1 ∧ Only Nil w5 wr) (fun _ vi _ => N + 1 - (intOf vi).toNat)
  case atStart => exact ⟨0, -1, Nat.zero_le _, rfl, rfl, by rw [Nat.zero_min]; rfl, Only.refl _ _⟩
  case round =>
    obtain ⟨i, nv, hi, rfl, rfl, hnv, hO⟩ := hrel
    have HNV := Lib.hid hnv
    have HO := Lib.hid hO
    clear hnv hO
    by_cases hlt : i < N + 1
    · have hii : (i : Int) < (N : Int) + 1 := by omega
      have e0 := HCELLS.out wr HO.out i (by omega)
      have e1 := HCELLS.out wr.drew (HO.out.drew) i (by omega)
      have hcx := HC2.out i (by omega)
      have hle := HLE.out i
      obtain ⟨e, he⟩ : ∃ e, endR (rs.map ER.x) i = e := ⟨_, rfl⟩
      rw [he] at e0 e1 hcx hle
      have HE := Lib.hid he
      clear he
      by_cases hic : i < cnt
      · have hek : (e : Int) ≤ (k : Int) := by have := hcx.2 hic; omega
        have hm1 : min (i + 1) cnt = i + 1 := by omega
        have HM1 := Lib.hid hm1
        clear hcx hic hm1 hlt
        go_wp2_with fail
        go_roundw
        case rel => exact ⟨i + 1, i, by omega, by go_num, rfl, by rw [HM1.out]; omega, HO.out⟩
        case measure => simp [intOf]; omega
      · have hek : ¬ (e : Int) ≤ (k : Int) := fun h => hic (hcx.1 (by omega))
        have hm1 : min (i + 1) cnt = min i cnt := by omega
        have HM1 := Lib.hid hm1
        clear hcx hic hm1 hlt
        go_wp2_with fail
        go_roundw
        case rel => exact ⟨i + 1, nv, by omega, by go_num, rfl, by rw [HM1.out]; exact HNV.out, HO.out⟩
        case measure => simp [intOf]; omega
    · have hiN : i = N + 1 := by omega
      subst hiN
      have hii : ¬ ((N : Int) + 1) < (N : Int) + 1 := by omega
      have hmn : min (N + 1) cnt = cnt := by have := HC1.out; omega
      have hnv := HNV.out
      rw [hmn] at hnv
      have hOw := HO5.out.thenNil HO.out
      have HOW := Lib.hid hOw
      rcases HC3.out with ⟨hc0, hR⟩ | ⟨n, ee, hcn, hee, hR⟩
      · injection hR with hR1 hR2
        injection hR2 with hR2 hR3
        subst hR2 hR3
        subst hc0
        obtain rfl : nv = -1 := by rw [hnv]; rfl
        have hN40 : N4 = 0 := by rw [← HN4.out]; have := congrArg List.length HMAP.out; rw [List.length_map, hR1] at this; exact this
        subst hN40
        clear hnv hmn hOw hR1 hlt
        go_wp2_with fail
        refine bodyPost_ret (v := .bool true) (by simp [results, Try.results4, go_sem]) rfl ?_
        exact ⟨rfl, HOW.out⟩
      · injection hR with hR1 hR2
        injection hR2 with hR2 hR3
        have hnN : n ≤ N := by have := HC1.out; omega
        have en := HCELLS.out wr HO.out n hnN
        have hle := HLE.out n
        subst hcn
        obtain rfl : nv = (n : Int) := by rw [hnv]; omega
        obtain ⟨e, he⟩ : ∃ e, endR (rs.map ER.x) n = e := ⟨_, rfl⟩
        rw [he] at en hle hR2
        subst hR2 hR3
        have hsame := Ref.same_list A4 A c4 ca rs4 (rs.take n) wr (HEL5.out.onlyNil HO.out).es.ed ((HA.out.next HOW.out).take n (by rw [HN.out]; exact hnN)).ed (by rw [HN4.out]; have := congrArg List.length HMAP.out; rw [List.length_map, hR1, List.length_take, List.length_map, HN4.out] at this; omega)
        rw [HMAP.out, hR1, List.map_take, HN4.out, sameL_iff.2 rfl, show (rs.take n).length = n by rw [List.length_take, HN.out]; omega] at hsame
        have HSAME := Lib.hid hsame
        have hnca : (n : Int) ≤ (ca : Int) := by omega
        have hnN1 : (n : Int) < (N : Int) + 1 := by omega
        have hn0 : ¬ (n : Int) < 0 := by omega
        have hf0 : (f == 0) = false := beq_false_of_ne hee
        have hf1 : (f != 0) = true := by simp [hee]
        clear hnv hmn hOw hR1 hlt hsame he hee
        go_wp2_with fail
        refine HSAME.out.mono ?_
        rintro x w7 ⟨rfl, hO7⟩
        have HO7 := Lib.hid (HOW.out.thenNil hO7)
        clear hO7
        go_wp2_with fail
        refine bodyPost_ret (v := .bool true) (by simp [results, Try.results4, go_sem]) rfl ?_
        exact ⟨rfl, HO7.out⟩

set_option maxRecDepth 100000 in
theorem from_args {H : Type} {enc : TypeId × Value → H} (W : World) (base : Nat) (args : Array Value) (ds : List (DataW H)) (ps : List MemPlace)
    (hval0 : ∀ (j : Nat) t v, Try.f4.params[j]? = some t → args[j]? = some v → Value.okWide Try.prog W .any base t v)
    (hA : DataW.TrodAll enc Try.prog W 0 (fun _ => true) true Try.f4.params.toList args.toList ds ps) (_hlt : ∀ x ∈ ps, x.block < W.heap.size)
    (hsz : (DataW.weightsEach Try.prog Try.f4.params.toList ds).all (· ≤ reachBytes) = true) : Calls Try.prog 4 args W (LawPost W) := by
  have hval := hval0
  rw [Try.params4] at hA hval hsz
  obtain ⟨v0, vs0, d0, ds0, p0, q0, hargs, rfl, rfl, h0, r0⟩ := trodAll_cons hA
  obtain ⟨v1, vs1, d1, ds1, p1, q1, rfl, rfl, rfl, h1, r1⟩ := trodAll_cons r0
  obtain ⟨v2, vs2, d2, ds2, p2, q2, rfl, rfl, rfl, h2, r2⟩ := trodAll_cons r1
  obtain ⟨rfl, rfl, rfl⟩ := trodAll_nil r2
  obtain rfl : args = #[v0, v1, v2] := by cases args; simp_all
  obtain ⟨A, rs, ca, rfl, h1', h2', hE⟩ := open_entries (hval 0 _ v0 rfl rfl) h0
  obtain ⟨n, rfl, rfl, rfl, wn⟩ := open_int Try.underlying23 (hval 1 _ v1 rfl rfl) h1
  obtain ⟨n2, rfl, rfl, rfl, wn2⟩ := open_int Try.underlying5 (hval 2 _ v2 rfl rfl) h2
  exact walk A ca rs n n2 W hE h1' h2' (wf_u16 wn) (wf_u8 wn2)

set_option maxRecDepth 100000 in
theorem over : Rows.recordDamageRow.holds Try.pinned (OpenSpec.ofChange Rows.recordDamageSpec) :=
  OpenClaim.holds_of_wide 4 Try.f4 rfl rfl rfl rfl rfl rfl rfl ⟨rfl, rfl, rfl, rfl, rfl⟩ rfl rfl rfl rfl rfl (by kernel_rfl) Try.func4 (by kernel_rfl)
    (of_decide_eq_true (by kernel_rfl)) (by unfold Func.isWrapper; first | (rw [if_pos (by decide +kernel)]; kernel_rfl) | (rw [if_neg (by decide +kernel)]; exact ⟨rfl, rfl⟩))
    (fun os started H enc _ => law_lifted (f := 4) (F := Try.f4) (s := Rows.recordDamageSpec) os started H enc (by kernel_rfl) Try.func4 rfl rfl (by kernel_rfl) (by kernel_rfl)
      (fun ds hd => by match ds, hd with | [_, _, _], _ => rfl)
      (ChangeSpec.witness6 (enc := enc) (C := Try.checked) false ⟨#[], #[.slice none 0 0, .int .u16 0, .int .u8 0], []⟩ 8 (by kernel_rfl) (by kernel_rfl) (by kernel_rfl) (by kernel_rfl))
      (fun W base args ds ps hv hA hlt hsz => from_args W base args ds ps hv hA hlt hsz))

/-- The statement. -/
theorem proved : Rows.RecordDamageSaid := over

end recordDamage
end Go.Proofs.Ytkcmdibpndkfbaa
