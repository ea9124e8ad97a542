/-
  The law WirePrefix: no proper beginning of the encoding of an integer, a message or a list of effects is an encoding of one.
  No conditions.
-/
import Derived.Test.YtbhgaaendekghaaEfK
import Derived.Test.YtbhgaaendekghaaEfO
import Derived.Test.YtbhgaaendekghaaEfW
import Derived.Test.YtbhgaaendekghaaWnL
import Derived.Test.YtbhgaaendekghaaWmInt
import Derived.BigQuiet
import Derived.Laws.Externs
namespace Go.Proofs.Ytbhgaaendekghaa
open Go.ChangeShapes Go.WideShapes Go.ChangeAt Go.RowKit Go.Deep

theorem wf_u16 {z : Int} (h : (Lit.int .u16 z).wf = true) : 0 ≤ z ∧ z ≤ 65535 := by
  simp [Lit.wf, IntKind.min, IntKind.max, IntKind.signed, IntKind.bits] at h
  omega
theorem rInt_beginning {z : Int} (hz : J64 z) {k : Nat} (hk : k < (encI z).length) : rInt ((encI z).take k) 0 false = (0, 0, true) := by
  unfold rInt
  rw [if_neg (by simp), List.drop_zero, dec_beginning hz hk]
/-- A remainder as a number. -/
theorem rem_nat {t : Int} {L : Nat} (ht : 0 ≤ t ∧ t ≤ 65535) (hL : 0 < L) : ∃ j : Nat, t.tmod (L : Int) = j ∧ j < L ∧ j ≤ 65535 := by
  obtain ⟨n, rfl⟩ : ∃ n : Nat, t = n := Int.eq_ofNat_of_zero_le ht.1
  refine ⟨n % L, ?_, Nat.mod_lt _ hL, ?_⟩
  · rw [Int.tmod_eq_emod_of_nonneg (by omega)]
    rfl
  · have := Nat.mod_le n L
    omega

namespace wirePrefix
set_option maxRecDepth 100000 in
set_option maxHeartbeats 8000000 in
theorem walk (z : Int) (A : Option Addr) (ca : Nat) (rs : List FR) (t : Int) (B : Nat) (w : World) (hz : J64 z) (hE : Fs w w.heap.size A rs) (hal : rs.length ≤ ca) (hca : ca ≤ maxLen) (hB : B ≤ 140737488355328) (hd : ∀ r ∈ rs, r.x.data.length ≤ B ∧ r.x.msg.data.length ≤ B) (ht : 0 ≤ t ∧ t ≤ 65535) :
    Calls Try.prog 4 #[.int .i64 z, .slice A rs.length ca, .int .u16 t] w (LawPost w) := by
  have hfa := fun w' (hO : Only Nil w w') => Ref.few_any A ca rs w' (hE.next hO) (by omega) B hB (fun x hx => by
    obtain ⟨q, hq, rfl⟩ := List.mem_map.1 hx
    exact hd q hq)
  have HA := Lib.hid hE
  obtain ⟨fa, hfa1⟩ : ∃ f, fewF (rs.map FR.x) = f := ⟨_, rfl⟩
  rw [hfa1] at hfa
  obtain ⟨N, hN⟩ : ∃ N, rs.length = N := ⟨_, rfl⟩
  rw [hN] at hfa hal ⊢
  have HFA := Lib.hid hfa
  have HFA1 := Lib.hid hfa1
  have HN := Lib.hid hN
  have HZ := Lib.hid hz
  have hwt : wrap64 t = t := wrap64_fit _ (by omega)
  have hwt2 : IntKind.i64.wrap t = t := IntWalk.i64_in _ (by omega)
  unfold maxLen at hca
  clear hE hfa hN hfa1 hz hd hB
  go_enter Try.func4, Try.ntmps4
  go_wp2_with fail
  refine (awake_any _).mono ?_
  rintro x w1 ⟨rfl, hO1⟩
  have HO1 := Lib.hid hO1
  clear hO1
  go_wp2_with fail
  refine (HFA.out _ HO1.out).mono ?_
  rintro x w2 ⟨rfl, hO2⟩
  have HO2 := Lib.hid (HO1.out.thenNil hO2)
  clear hO2
  cases fa
  · go_wp2_with fail
    go_ret
    exact ⟨rfl, HO2.out⟩
  have h1 := fewF_of HFA1.out
  rw [List.length_map, HN.out] at h1
  have hok : ∀ r ∈ rs, r.x.okay ∧ r.x.msg.data.length ≤ 20000 ∧ r.x.data.length ≤ 20000 := fun r hr => by
    have h2 := sumD_mem (List.mem_map.2 ⟨r, hr, rfl⟩ : r.x ∈ rs.map FR.x)
    exact ⟨⟨(HA.out.ok r hr).fits, by omega, by omega⟩, by omega, by omega⟩
  have hoks : ∀ x ∈ rs.map FR.x, x.okay := fun x hx => by
    obtain ⟨q, hq, rfl⟩ := List.mem_map.1 hx
    exact (hok q hq).1
  have hLb := encFn_len hoks
  have hLi := encI_len (N : Int) (zig_lt (by omega))
  have hL2 : (encFs (rs.map FR.x)).length ≤ 100000 := by
    unfold encFs
    rw [List.length_append, List.length_map, HN.out]
    rw [List.length_map, HN.out] at hLb
    omega
  have hLz := encI_len z (zig_lt HZ.out)
  have hpz := encI_pos z
  have hpb := encFs_pos (rs.map FR.x)
  have hwe : ∀ u, Only Nil w u → Calls Try.prog 22 #[.slice none 0 0, .slice A N ca] u (BytesPost Nil (encFs (rs.map FR.x)) u) := fun u hO => by
    have := weffects_any A ca rs u (HA.out.next hO) (by rw [HN.out]; omega) (fun r hr => ⟨by have := (hok r hr).2.1; omega, by have := (hok r hr).2.2; omega⟩)
    rwa [HN.out] at this
  have hpf : ∀ k, k < (encFs (rs.map FR.x)).length → readFs ((encFs (rs.map FR.x)).take k) = ([], 4) := fun k hk => readFs_beginning (by rw [List.length_map, HN.out]; omega) hoks hk
  have hpi : ∀ k, k < (encI z).length → rInt ((encI z).take k) 0 false = (0, 0, true) := fun k hk => rInt_beginning HZ.out hk
  have hwi := int_any none 0 w2.heap.size [] z w2 (Nat.le_refl _) (World.ownsRow_nil _ _ _ _) (by simp) HZ.out
  rw [List.nil_append] at hwi
  obtain ⟨Ei, hEi⟩ : ∃ E, encI z = E := ⟨_, rfl⟩
  obtain ⟨Eb, hEb⟩ : ∃ E, encFs (rs.map FR.x) = E := ⟨_, rfl⟩
  rw [hEi] at hLz hpz hpi hwi
  rw [hEb] at hL2 hpb hwe hpf
  obtain ⟨Li, hLi1⟩ : ∃ L, Ei.length = L := ⟨_, rfl⟩
  obtain ⟨Lb, hLb1⟩ : ∃ L, Eb.length = L := ⟨_, rfl⟩
  rw [hLi1] at hLz hpz hpi
  rw [hLb1] at hL2 hpb hpf
  have HOK := Lib.hid hok
  have HWE := Lib.hid hwe
  have HPF := Lib.hid hpf
  have HPI := Lib.hid hpi
  have HWI := Lib.hid hwi
  have HLI := Lib.hid hLi1
  have HLB := Lib.hid hLb1
  clear h1 hok hoks hLb hLi hwe hpf hpi hwi hEi hEb hLi1 hLb1
  go_wp2_with fail
  refine HWI.out.mono ?_
  clear HWI
  rintro x w3 ⟨A3, c3, rfl, hc3, hown3, _, hO3⟩
  have hO3n : Only Nil w2 w3 := hO3.more (fun x hx => by have h0 : (none : Option Nat) = some x := hx; cases h0)
  have HB3 := Lib.hid (Bs.of_own hown3).1
  have HM3 := Lib.hid (cap_of_own hown3)
  rw [HLI.out] at hc3
  rw [HLI.out]
  have HO3 := Lib.hid (HO2.out.thenNil hO3n)
  clear hown3 hO3 hO3n
  go_wp2_with fail
  refine (HWE.out _ HO3.out).mono ?_
  clear HWE
  rintro x w4 ⟨A4, c4, rfl, hc4, hown4, hO4⟩
  have HB4 := Lib.hid (Bs.of_own hown4).1
  have HM4 := Lib.hid (cap_of_own hown4)
  rw [HLB.out] at hc4
  rw [HLB.out]
  have HB3 := Lib.hid ((HB3.out.onlyNil hO4 (Nat.le_refl _)).up hO4.size)
  have HO4 := Lib.hid (HO3.out.thenNil hO4)
  clear hown4 hO4
  obtain ⟨j, hj, hjL, hj16⟩ := rem_nat ht hpz
  obtain ⟨j2, hj2, hj2L, hj216⟩ := rem_nat ht hpb
  have hL0 : ¬ (Li : Int) = 0 := by omega
  have hL0b : ¬ (Lb : Int) = 0 := by omega
  have hLe : ((Li : Int) == 0) = false := beq_false_of_ne hL0
  have hLbe : ((Lb : Int) == 0) = false := beq_false_of_ne hL0b
  have hjc : (j : Int) ≤ (c3 : Int) := by omega
  have hj2c : (j2 : Int) ≤ (c4 : Int) := by omega
  have htl : (Ei.take j).length = j := by rw [List.length_take, HLI.out]; omega
  have htl2 : (Eb.take j2).length = j2 := by rw [List.length_take, HLB.out]; omega
  have hwj : IntKind.i64.wrap (j : Int) = j := IntWalk.i64_in _ (by omega)
  have hwj2 : IntKind.i64.wrap (j2 : Int) = j2 := IntWalk.i64_in _ (by omega)
  have hrd := rread_any A3 c3 (Ei.take j) w4 (HB3.out.take j (by rw [HLI.out]; omega)) (by rw [htl]; omega)
  rw [htl] at hrd
  have HRD := Lib.hid hrd
  have HTL := Lib.hid htl
  have HTL2 := Lib.hid htl2
  have HPF2 := Lib.hid (HPF.out j2 hj2L)
  have HPI2 := Lib.hid (HPI.out j hjL)
  clear htl htl2 hrd HPF HPI
  go_wp2_with fail
  refine HRD.out.mono ?_
  clear HRD
  rintro x w5 ⟨p, Ap, cp, rfl, hp, hrr, hcp, hO5⟩
  have HP := Lib.hid hp
  have hri := fun u (hO : Only Nil w5 u) => rInt_any p Ap cp (Ei.take j) 0 false u (hrr.onlyNil hO) (Nat.zero_le _) (by rw [HTL.out]; omega)
  rw [HPI2.out] at hri
  have HRI := Lib.hid hri
  have HO5 := Lib.hid hO5
  clear hp hrr hcp hO5 hri
  go_wp2_with fail
  refine (HRI.out _ (Only.refl _ _)).mono ?_
  rintro x w6 ⟨rfl, hrr, hO6⟩
  have HRE := Lib.hid (rEnd_any p Ap cp (Ei.take j) 0 true w6 hrr (Nat.zero_le _))
  have HO6 := Lib.hid (((HO5.out.any (S := One p)).then_ hO6).less (fun x hx => .inr (by unfold One at hx; rw [hx]; exact HP.out)) : Only Nil w4 w6)
  clear hrr hO6
  rw [if_pos (Or.inl rfl)] at HRE
  go_wp2_with fail
  refine HRE.out.mono ?_
  clear HRE
  rintro x w7 ⟨rfl, hO7⟩
  have HO7 := Lib.hid (HO6.out.thenNil hO7)
  clear hO7
  have hre := readEffects_any A4 c4 (Eb.take j2) w7 (((HB4.out.onlyNil HO7.out (Nat.le_refl _)).up HO7.out.size).take j2 (by rw [HLB.out]; omega)) (by rw [HTL2.out]; omega)
  rw [HTL2.out, HPF2.out] at hre
  have HRE := Lib.hid hre
  have HO7 := Lib.hid (HO4.out.thenNil HO7.out)
  clear hre
  go_wp2_with fail
  refine HRE.out.mono ?_
  clear HRE
  rintro x w8 ⟨Ax, cx, rs8, hmap, rfl, hcx, hfl, hO8⟩
  obtain rfl : rs8 = [] := List.map_eq_nil_iff.1 hmap
  have HO8 := Lib.hid (HO7.out.thenNil hO8)
  rw [List.length_nil]
  clear hmap hcx hfl hO8 hj hj2 hjL hj2L hj16 hj216 hL0 hL0b hLe hLbe hjc hj2c hwj hwj2 hc3 hc4 hL2 hpb hLz hpz
  go_wp2_with fail
  go_loopw [12] (fun i wr => ∃ k : Nat, k ≤ N ∧ i = .int .i64 k ∧ Only Nil w wr) (fun i _ => N - (intOf i).toNat)
  case atStart => exact ⟨0, Nat.zero_le _, rfl, HO8.out⟩
  case round =>
    obtain ⟨k, hk, rfl, hO⟩ := hrel
    have HO := Lib.hid hO
    clear hO
    by_cases hlt : k < N
    rotate_left
    · have hki : ¬ (k : Int) < N := by omega
      clear hlt
      go_wp2_with fail
      refine bodyPost_ret (v := .bool true) (by simp [results, Try.results4, go_sem]) rfl ?_
      exact ⟨rfl, HO.out⟩
    by_cases h3 : k < 3
    rotate_left
    · have hki : (k : Int) < N := by omega
      have hk3 : ¬ (k : Int) < 3 := by omega
      clear hlt h3
      go_wp2_with fail
      refine bodyPost_ret (v := .bool true) (by simp [results, Try.results4, go_sem]) rfl ?_
      exact ⟨rfl, HO.out⟩
    have hki : (k : Int) < N := by omega
    have hk3 : (k : Int) < 3 := by omega
    obtain ⟨q, hq⟩ : ∃ q, rs[k]? = some q := ⟨rs[k]'(by rw [HN.out]; exact hlt), List.getElem?_eq_getElem _⟩
    obtain ⟨b, off, rfl, _, hc⟩ := (HA.out.next HO.out).at_ hq
    have hokq := (HA.out.next HO.out).ok q (List.mem_of_getElem? hq)
    have hdq := HOK.out q (List.mem_of_getElem? hq)
    have hwm := wmsg_any none 0 wr.heap.size [] q.Am q.cm q.x.msg wr (Nat.le_refl _) (World.ownsRow_nil _ _ _ _) (Nat.le_refl _) hokq.fits.msg hokq.bm (by have := hdq.2.1; omega) (by simp)
    rw [List.nil_append] at hwm
    have hlm := encM_len hokq.fits.msg (by have := hdq.2.1; omega)
    have hpm := encM_pos q.x.msg
    have hpf : ∀ k, k < (encM q.x.msg).length → readMs ((encM q.x.msg).take k) = (zM, 4) := fun k hk => readMs_beginning hokq.fits.msg (by have := hdq.2.1; omega) hk
    have hd20 := hdq.2.1
    obtain ⟨Em, hEm⟩ : ∃ E, encM q.x.msg = E := ⟨_, rfl⟩
    rw [hEm] at hwm hlm hpm hpf
    obtain ⟨Lm, hLm⟩ : ∃ L, Em.length = L := ⟨_, rfl⟩
    rw [hLm] at hlm hpm hpf
    obtain ⟨j3, hj3, hj3L, hj316⟩ := rem_nat ht hpm
    have HWM := Lib.hid hwm
    have HLM := Lib.hid hLm
    have HPM := Lib.hid (hpf j3 hj3L)
    clear hwm hLm hEm hpf hokq hdq hq hlt h3
    obtain ⟨Am, cm, Ad, cd, ⟨kind, a0, a1, a2, a3, ⟨src, dst, mk, seq, b0, b1, b2, b3, md⟩, data⟩⟩ := q
    unfold FR.cells mcells at hc
    unfold mcells at HWM
    dsimp only at HWM hlm hd20
    simp only [List.cons_append, List.nil_append] at hc
    obtain ⟨X, hX⟩ : ∃ X, md.length = X := ⟨_, rfl⟩
    obtain ⟨Y, hY⟩ : ∃ Y, data.length = Y := ⟨_, rfl⟩
    rw [hX] at hc HWM hlm hd20
    rw [hY] at hc
    have e5 : wr.cell? ⟨b, off + k * 15 + 5, none⟩ = some (.int .i64 src) := by have := hc 5 _ rfl; rwa [← Nat.add_assoc] at this
    have e6 : wr.cell? ⟨b, off + k * 15 + 6, none⟩ = some (.int .i64 dst) := by have := hc 6 _ rfl; rwa [← Nat.add_assoc] at this
    have e7 : wr.cell? ⟨b, off + k * 15 + 7, none⟩ = some (.int .i64 mk) := by have := hc 7 _ rfl; rwa [← Nat.add_assoc] at this
    have e8 : wr.cell? ⟨b, off + k * 15 + 8, none⟩ = some (.int .i64 seq) := by have := hc 8 _ rfl; rwa [← Nat.add_assoc] at this
    have e9 : wr.cell? ⟨b, off + k * 15 + 9, none⟩ = some (.int .i64 b0) := by have := hc 9 _ rfl; rwa [← Nat.add_assoc] at this
    have e10 : wr.cell? ⟨b, off + k * 15 + 10, none⟩ = some (.int .i64 b1) := by have := hc 10 _ rfl; rwa [← Nat.add_assoc] at this
    have e11 : wr.cell? ⟨b, off + k * 15 + 11, none⟩ = some (.int .i64 b2) := by have := hc 11 _ rfl; rwa [← Nat.add_assoc] at this
    have e12 : wr.cell? ⟨b, off + k * 15 + 12, none⟩ = some (.int .i64 b3) := by have := hc 12 _ rfl; rwa [← Nat.add_assoc] at this
    have e13 : wr.cell? ⟨b, off + k * 15 + 13, none⟩ = some (.slice Am X cm) := by have := hc 13 _ rfl; rwa [← Nat.add_assoc] at this
    clear hc hX hY
    go_wp2_with fail
    refine HWM.out.mono ?_
    clear HWM e5 e6 e7 e8 e9 e10 e11 e12 e13
    rintro x w9 ⟨A9, c9, rfl, hc9, hown9, _, hO9⟩
    have hO9n : Only Nil wr w9 := hO9.more (fun x hx => by have h0 : (none : Option Nat) = some x := hx; cases h0)
    have hB9 := (Bs.of_own hown9).1
    have htl3 : (Em.take j3).length = j3 := by rw [List.length_take, HLM.out]; omega
    have hrm := readMsg_any A9 c9 (Em.take j3) w9 (hB9.take j3 (by rw [HLM.out]; omega)) (by rw [htl3]; omega)
    rw [htl3, HPM.out] at hrm
    have HRM := Lib.hid hrm
    have HO9 := Lib.hid (HO.out.thenNil hO9n)
    rw [HLM.out] at hc9
    rw [HLM.out]
    have hL0m : ¬ (Lm : Int) = 0 := by omega
    have hLme : ((Lm : Int) == 0) = false := beq_false_of_ne hL0m
    have hj3c : (j3 : Int) ≤ (c9 : Int) := by omega
    have hwj3 : IntKind.i64.wrap (j3 : Int) = j3 := IntWalk.i64_in _ (by omega)
    clear hown9 hO9 hO9n hB9 htl3 hrm
    go_wp2_with fail
    refine HRM.out.mono ?_
    clear HRM
    rintro x w10 ⟨Ax, cx, rfl, hcx, hown, hO10⟩
    have HO10 := Lib.hid (HO9.out.thenNil hO10)
    clear hcx hown hO10
    unfold mcells zM
    dsimp only
    rw [List.length_nil]
    go_wp2_with fail
    go_roundw
    case rel => exact ⟨k + 1, by omega, by go_num, HO10.out.thenNil (by (repeat' (first | with_reducible exact Only.refl _ _ | with_reducible refine Only.setCell ?_ (Or.inl ?_) _ | with_reducible refine Only.drewN ?_ _ | with_reducible refine Only.drew ?_ | with_reducible refine Only.alloc ?_ _ | (exact .inr (Nat.le_refl _)))))⟩
    case measure => simp [intOf]; omega

set_option maxRecDepth 100000 in
theorem from_args {H : Type} {enc : TypeId × Value → H} (W : World) (base : Nat) (args : Array Value) (ds : List (DataW H)) (ps : List MemPlace)
    (hval0 : ∀ (j : Nat) t v, Try.f4.params[j]? = some t → args[j]? = some v → Value.okWide Try.prog W .any base t v)
    (hA : DataW.TrodAll enc Try.prog W 0 (fun _ => true) true Try.f4.params.toList args.toList ds ps) (_hlt : ∀ x ∈ ps, x.block < W.heap.size)
    (hsz : (DataW.weightsEach Try.prog Try.f4.params.toList ds).all (· ≤ reachBytes) = true) : Calls Try.prog 4 args W (LawPost W) := by
  have hval := hval0
  rw [Try.params4] at hA hval hsz
  obtain ⟨v0, vs0, d0, ds0, p0, q0, hargs, rfl, rfl, h0, r0⟩ := trodAll_cons hA
  obtain ⟨v1, vs1, d1, ds1, p1, q1, rfl, rfl, rfl, h1, r1⟩ := trodAll_cons r0
  obtain ⟨v2, vs2, d2, ds2, p2, q2, rfl, rfl, rfl, h2, r2⟩ := trodAll_cons r1
  obtain ⟨rfl, rfl, rfl⟩ := trodAll_nil r2
  obtain rfl : args = #[v0, v1, v2] := by cases args; simp_all
  obtain ⟨z, rfl, rfl, rfl, wz⟩ := open_int Try.underlying3 (hval 0 _ v0 rfl rfl) h0
  obtain ⟨A, rs, ca, rfl, h1', h2', hE, hW⟩ := open_effects (R := reachBytes) (hval 1 _ v1 rfl rfl) h1 (fun n hn => of_decide_eq_true (List.all_eq_true.1 hsz n (DataW.weights_mem_each (j := 1) (t := 30) (d := d1) rfl rfl n hn)))
  obtain ⟨t, rfl, rfl, rfl, wn⟩ := open_int Try.underlying49 (hval 2 _ v2 rfl rfl) h2
  exact walk z A ca rs t reachBytes W (mwf_i64 wz) hE h1' h2' (by decide) hW (wf_u16 wn)

set_option maxRecDepth 100000 in
theorem over : Rows.wirePrefixRow.holds Try.pinned (OpenSpec.ofChange Rows.wirePrefixSpec) :=
  OpenClaim.holds_of_wide 4 Try.f4 rfl rfl rfl rfl rfl rfl rfl ⟨rfl, rfl, rfl, rfl, rfl⟩ rfl rfl rfl rfl rfl (by kernel_rfl) Try.func4 (by kernel_rfl)
    (of_decide_eq_true (by kernel_rfl)) (by unfold Func.isWrapper; first | (rw [if_pos (by decide +kernel)]; kernel_rfl) | (rw [if_neg (by decide +kernel)]; exact ⟨rfl, rfl⟩))
    (fun os started H enc _ => law_lifted (f := 4) (F := Try.f4) (s := Rows.wirePrefixSpec) os started H enc (by kernel_rfl) Try.func4 rfl rfl (by kernel_rfl) (by kernel_rfl)
      (fun ds hd => by match ds, hd with | [_, _, _], _ => rfl)
      (ChangeSpec.witness6 (enc := enc) (C := Try.checked) false ⟨#[], #[.int .i64 0, .slice none 0 0, .int .u16 0], []⟩ 8 (by kernel_rfl) (by kernel_rfl) (by kernel_rfl) (by kernel_rfl))
      (fun W base args ds ps hv hA hlt hsz => from_args W base args ds ps hv hA hlt hsz))

/-- The statement. -/
theorem proved : Rows.WirePrefixSaid := over

end wirePrefix
end Go.Proofs.Ytbhgaaendekghaa
