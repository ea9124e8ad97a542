/-
  The law SlotsRoom: on a new table of a size up to 60 exactly so many values can be put; each is found under its handle; when one is dropped there is room for another one.
  No conditions.
-/
import Derived.Test.YtoicdaoappiglaaSlL1
import Derived.Test.YtoicdaoappiglaaSlQ
import Derived.Test.YtoicdaoappiglaaOpen
namespace Go.Proofs.Ytoicdaoappiglaa
open Go.ChangeShapes Go.WideShapes Go.ChangeAt Go.RowKit

namespace slotsRoom

set_option maxRecDepth 100000 in
set_option maxHeartbeats 2000000 in
theorem walk (n a0 a1 : Int) (w : World) :
    Calls Try.prog 4 #[.int .i64 n, .agg #[.int .i64 a0, .int .i64 a1]] w (LawPost w) := by
  by_cases h1 : n < 1
  · go_enter Try.func4, Try.ntmps4
    go_wp2_with fail
    refine (awake_any _).mono ?_
    rintro e w1 ⟨rfl, hO1⟩
    go_wp2_with fail
    go_ret
    exact ⟨rfl, ((Only.refl _ _).alloc _).thenNil hO1⟩
  · by_cases h60 : 60 < n
    · go_enter Try.func4, Try.ntmps4
      go_wp2_with fail
      refine (awake_any _).mono ?_
      rintro e w1 ⟨rfl, hO1⟩
      go_wp2_with fail
      go_ret
      exact ⟨rfl, ((Only.refl _ _).alloc _).thenNil hO1⟩
    · obtain ⟨m, rfl⟩ := Int.eq_ofNat_of_zero_le (show 0 ≤ n by omega)
      have hm1 : 1 ≤ m := by omega
      have hm2 : m ≤ 60 := by omega
      clear h1 h60
      obtain ⟨X, hX⟩ : ∃ X : Nat → Int, ∀ i : Nat, X i = bits .xor .i64 a0 i := ⟨fun i => bits .xor .i64 a0 i, fun _ => rfl⟩
      go_enter Try.func4, Try.ntmps4
      go_wp2_with fail
      refine (awake_any _).mono ?_
      rintro e w1 ⟨rfl, hO1⟩
      have hV1 := (Blk.new w 36 #[.int .i64 a0, .int .i64 a1]).onlyNil hO1
      have HO1 := Lib.hid (((Only.refl Nil w).alloc (.cells #[.int .i64 a0, .int .i64 a1] 36)).thenNil hO1)
      have hsz : w.heap.size < w1.heap.size := by have := hO1.size; simp at this; omega
      have HX := Lib.hid hX
      have HV1 := Lib.hid hV1
      clear hO1 hX hV1
      go_wp2_with fail
      refine (new_any m _ (by omega) (by omega)).mono ?_
      rintro e w2 ⟨rfl, hT, hO2⟩
      have HO := Lib.hid (HO1.out.thenNil hO2)
      have HT := Lib.hid hT
      have HV2 := Lib.hid (HV1.out.onlyNil hO2)
      obtain ⟨p, hp⟩ : ∃ p, p = w1.heap.size + 1 := ⟨_, rfl⟩
      obtain ⟨g, hg⟩ : ∃ g, g = w1.heap.size := ⟨_, rfl⟩
      rw [← hp, ← hg] at HT
      rw [← hp]
      have hpw : w.heap.size < p := by omega
      have hgw : w.heap.size < g := by omega
      clear HO1 HV1 hO2 hT hp hg hsz
      have hxp : ∀ x, One g x → Nil x ∨ w.heap.size ≤ x := fun x hx => .inr (by unfold One at hx; omega)
      have HXP := Lib.hid hxp
      have hne : ¬ One g w.heap.size := by unfold One; omega
      have HNE := Lib.hid hne
      clear hxp hne
      go_wp2_with fail
      go_loopw [7] (fun i wr => ∃ (k : Nat) (l : Tbl), k ≤ m ∧ i = .int .i64 k ∧ Room m X k l ∧ Tab wr p g l ∧ Blk wr w.heap.size 36 #[.int .i64 a0, .int .i64 a1] ∧ Only Nil w wr) (fun i _ => m - (intOf i).toNat)
      case atStart => exact ⟨0, _, Nat.zero_le _, rfl, Room.new m X, HT.out, HV2.out, HO.out⟩
      case round =>
        obtain ⟨k, l, hk, rfl, hRm, hTr, hVr, hOr⟩ := hrel
        have HRm := Lib.hid hRm
        have HTr := Lib.hid hTr
        have HVr := Lib.hid hVr
        have HOr := Lib.hid hOr
        clear hRm hTr hVr hOr HT HO HV2
        by_cases hlt : k < m
        · have c0 : wr.cell? ⟨w.heap.size, 0, none⟩ = some (.int .i64 a0) := HVr.out.cell 0
          have hx := HX.out k
          go_wp2_with fail
          refine (put_any _ _ HTr.out).mono ?_
          rintro e w3 ⟨rfl, hT3, hO3⟩
          obtain ⟨hR3, hH3, hE3⟩ := HRm.out.put hlt
          rw [← hx] at hT3
          have HT3 := Lib.hid hT3
          have HR3 := Lib.hid hR3
          have HO3 := Lib.hid (HOr.out.trans hO3 HXP.out)
          have HV3 := Lib.hid (HVr.out.only hO3 HNE.out)
          clear hT3 hR3 hO3 hx
          go_wp2_with fail
          go_roundw
          case rel => exact ⟨k + 1, _, by omega, by go_num, HR3.out, HT3.out, HV3.out, HO3.out⟩
          case measure => simp [intOf] <;> omega
        · obtain rfl : k = m := by omega
          clear hlt hk
          go_wp2_with fail
          refine (put_any _ _ HTr.out).mono ?_
          rintro e w3 ⟨rfl, hT3, hO3⟩
          obtain ⟨hp3, hE3⟩ := HRm.out.full 1
          rw [hp3] at hT3
          have HT3 := Lib.hid hT3
          have HO3 := Lib.hid (HOr.out.trans hO3 HXP.out)
          have HV3 := Lib.hid (HVr.out.only hO3 HNE.out)
          clear hT3 hO3 hp3 HOr HVr HTr
          go_wp2_with fail
          go_loopw [12] (fun i wq => ∃ q : Nat, q ≤ k ∧ i = .int .i64 q ∧ Tab wq p g l ∧ Blk wq w.heap.size 36 #[.int .i64 a0, .int .i64 a1] ∧ Only Nil w wq) (fun i _ => k - (intOf i).toNat)
          case atStart => exact ⟨0, Nat.zero_le _, rfl, HT3.out, HV3.out, HO3.out⟩
          case round =>
            obtain ⟨q, hq, rfl, hTq, hVq, hOq⟩ := hrel
            have HTq := Lib.hid hTq
            have HVq := Lib.hid hVq
            have HOq := Lib.hid hOq
            clear hTq hVq hOq HT3 HV3 HO3
            by_cases hlt : q < k
            · have hfq := HRm.out.get HTq.out.fine hlt
              have hV : getV l q = X q := by unfold getV; rw [hfq]; simp only; rw [HRm.out.ats q hlt, if_pos hlt]
              have hO : getO l q = true := by unfold getO; rw [hfq]; rfl
              rw [HX.out q] at hV
              have c0 : wr.cell? ⟨w.heap.size, 0, none⟩ = some (.int .i64 a0) := HVq.out.cell 0
              clear hfq
              go_wp2_with fail
              refine (get_any _ _ HTq.out).mono ?_
              rintro e w4 ⟨rfl, n4, rfl⟩
              go_wp2_with fail
              go_roundw
              case rel => exact ⟨q + 1, by omega, by go_num, HTq.out.drewN _, HVq.out.drewN _, HOq.out.drewN _⟩
              case measure => simp [intOf] <;> omega
            · obtain rfl : q = k := by omega
              clear hlt hq
              obtain ⟨a, ha⟩ : ∃ a : Nat, (q : Int) / 2 = a := ⟨q / 2, by omega⟩
              have haq : a < q := by omega
              obtain ⟨e1, e2, e3, e4, e5, e6, e7⟩ := HRm.out.last HTq.out.fine hm2 haq a1
              have hxp2 := HXP.out
              have HE4 := Lib.hid e4
              have HE5 := Lib.hid e5
              have HE6 := Lib.hid e6
              have HE7 := Lib.hid e7
              clear e4 e5 e6 e7 hxp2
              go_wp2_with fail
              refine (drop_any _ _ HTq.out).mono ?_
              rintro e w4 ⟨rfl, hT4, hO4⟩
              have HT4 := Lib.hid hT4
              have HO4 := Lib.hid (HOq.out.trans hO4 HXP.out)
              have HV4 := Lib.hid (HVq.out.only hO4 HNE.out)
              have c1 : w4.cell? ⟨w.heap.size, 1, none⟩ = some (.int .i64 a1) := HV4.out.cell 1
              clear hT4 hO4
              go_wp2_with fail
              refine (put_any _ _ HT4.out).mono ?_
              rintro e w5 ⟨rfl, hT5, hO5⟩
              have HO5 := Lib.hid (HO4.out.trans hO5 HXP.out)
              have HV5 := Lib.hid (HV4.out.only hO5 HNE.out)
              generalize hl5 : putT (dropT l a) a1 = l5 at *
              have HT5 := Lib.hid hT5
              have HL5 := Lib.hid hl5
              clear hT5 hl5 hO5
              go_wp2_with fail
              refine (get_any _ _ HT5.out).mono ?_
              rintro e w6 ⟨rfl, n6, rfl⟩
              have hg1 : getO l5 (q + a) = true := HE4.out
              have hg2 : getV l5 (q + a) = a1 := HE5.out
              go_wp2_with fail
              refine (get_any _ _ (HT5.out.drewN _)).mono ?_
              rintro e w7 ⟨rfl, n7, rfl⟩
              have hg3 : getO l5 a = false := HE6.out
              have d1 : w5.cell? ⟨w.heap.size, 1, none⟩ = some (.int .i64 a1) := HV5.out.cell 1
              go_wp2_with fail
              refine (handles_any _ (HT5.out.drewN _)).mono ?_
              rintro e w8 ⟨A8, c8, rfl, _, hO8⟩
              have hg4 : (hdls l5).length = q := HE7.out
              go_wp2_with fail
              go_ret
              exact ⟨rfl, (HO5.out.drewN _).thenNil hO8⟩

theorem from_args {H : Type} {enc : TypeId × Value → H} (W : World) (base : Nat) (args : Array Value) (ds : List (DataW H)) (ps : List MemPlace)
    (hval0 : ∀ (j : Nat) t v, Try.f4.params[j]? = some t → args[j]? = some v → Value.okWide Try.prog W .any base t v)
    (hA : DataW.TrodAll enc Try.prog W 0 (fun _ => true) true Try.f4.params.toList args.toList ds ps) (_hlt : ∀ x ∈ ps, x.block < W.heap.size)
    (hsz : (DataW.weightsEach Try.prog Try.f4.params.toList ds).all (· ≤ reachBytes) = true) : Calls Try.prog 4 args W (LawPost W) := by
  have hval := hval0
  rw [Try.params4] at hA hval hsz
  obtain ⟨v0, vs0, d0, ds0, p0, q0, hargs, rfl, rfl, h0, r0⟩ := trodAll_cons hA
  obtain ⟨v1, vs1, d1, ds1, p1, q1, rfl, rfl, rfl, h1, r1⟩ := trodAll_cons r0
  obtain ⟨rfl, rfl, rfl⟩ := trodAll_nil r1
  obtain rfl : args = #[v0, v1] := by cases args; simp_all
  obtain ⟨n, rfl, rfl, rfl, _⟩ := open_int Try.underlying3 (hval 0 _ v0 rfl rfl) h0
  obtain ⟨cs, rfl, hcs⟩ := okWide_array Try.underlying36 (hval 1 _ v1 rfl rfl)
  obtain ⟨fuel, hf⟩ := h1
  obtain ⟨zs, hz, hc, _⟩ := ints_of_array Try.underlying36 Try.underlying3 (by kernel_rfl) (by kernel_rfl) hf
  match zs, hz with
  | [a0, a1], _ =>
    have hc' : cs = #[.int .i64 a0, .int .i64 a1] := by
      have : cs.toList = [.int .i64 a0, .int .i64 a1] := by simpa [Value.cells] using hc
      exact Array.toList_inj.1 this
    subst hc'
    exact walk n a0 a1 W

theorem over : Rows.slotsRoomRow.holds Try.pinned (OpenSpec.ofChange Rows.slotsRoomSpec) :=
  OpenClaim.holds_of_wide 4 Try.f4 rfl rfl rfl rfl rfl rfl rfl ⟨rfl, rfl, rfl, rfl, rfl⟩ rfl rfl rfl rfl rfl (by kernel_rfl) Try.func4 (by kernel_rfl)
    (of_decide_eq_true (by kernel_rfl)) (by unfold Func.isWrapper; first | (rw [if_pos (by decide +kernel)]; kernel_rfl) | (rw [if_neg (by decide +kernel)]; exact ⟨rfl, rfl⟩))
    (fun os started H enc _ => law_lifted (f := 4) (F := Try.f4) (s := Rows.slotsRoomSpec) os started H enc (by kernel_rfl) Try.func4 rfl rfl (by kernel_rfl) (by kernel_rfl)
      (fun ds hd => by match ds, hd with | [_, _], _ => rfl)
      (ChangeSpec.witness6 (enc := enc) (C := Try.checked) false ⟨#[], #[.int .i64 0, .agg #[.int .i64 0, .int .i64 0]], []⟩ 8 (by kernel_rfl) (by kernel_rfl) (by kernel_rfl) (by kernel_rfl))
      (fun W base args ds ps hv hA hlt hsz => from_args W base args ds ps hv hA hlt hsz))

/-- The statement. -/
theorem proved : Rows.SlotsRoomSaid := over

end slotsRoom
end Go.Proofs.Ytoicdaoappiglaa
