/-
  The law RingDecode: DecodeBytes and DecodeQueue return the specified queue or error for any up to 1000 bytes; a queue has the bytes as its encoding.
  No conditions.
-/
import Derived.Test.YtljfblnpgeconaaRiA
import Derived.Test.YtljfblnpgeconaaRiB
import Derived.Test.YtljfblnpgeconaaRiN
import Derived.Test.YtljfblnpgeconaaRiE
import Derived.Test.YtljfblnpgeconaaRiG7
import Derived.Test.YtljfblnpgeconaaRiM4
namespace Go.Proofs.Ytljfblnpgeconaa
open Go.ChangeShapes Go.WideShapes Go.ChangeAt Go.RowKit

namespace ringDecode
theorem rByt_ok {most : Int} {l : List UInt8} {pos : Nat} {f : Bool} (h : (rByt most l pos f).2.2 = false) : f = false ∧ l.drop pos = encI (rByt most l pos f).1.length ++ (rByt most l pos f).1 ++ l.drop (rByt most l pos f).2.1 := by
  unfold rByt at h ⊢
  split at h
  · cases h
  · rename_i h1
    refine ⟨by simpa using h1, ?_⟩
    rw [if_neg h1]
    split at h
    · rename_i hd
      have := decB_some hd
      simp only [hd]
      rw [← List.drop_drop]
      exact this.2.1
    · cases h
theorem decQ_enc {l : List UInt8} {n : Nat} {x : List UInt8} (h : decQ l = some (n, x)) : encI n ++ encI x.length ++ x = l := by
  unfold decQ at h
  dsimp only at h
  split at h
  · cases h
  · rename_i hc
    injection h with h
    injection h with e1 e2
    have hc1 : (rByt (rBnd 1 4096 l 0 false).1 l (rBnd 1 4096 l 0 false).2.1 (rBnd 1 4096 l 0 false).2.2).2.2 = false := by
      cases hh : (rByt (rBnd 1 4096 l 0 false).1 l (rBnd 1 4096 l 0 false).2.1 (rBnd 1 4096 l 0 false).2.2).2.2 with
      | false => rfl
      | true => exact absurd (.inl hh) hc
    obtain ⟨f1, d1⟩ := rByt_ok hc1
    have hc2 := fun h => hc (.inr h)
    simp only [ne_eq, Decidable.not_not] at hc2
    obtain ⟨_, d0⟩ := rBnd_ok f1
    have i0 := rBnd_in f1
    rw [e2] at d1
    generalize (rByt (rBnd 1 4096 l 0 false).1 l (rBnd 1 4096 l 0 false).2.1 (rBnd 1 4096 l 0 false).2.2).2.1 = q at hc2 d1
    generalize rBnd 1 4096 l 0 false = a at e1 d1 d0 i0
    have hq : q = l.length := Decidable.byContradiction hc2
    rw [hq, List.drop_length, List.append_nil] at d1
    rw [List.drop_zero] at d0
    conv => rhs; rw [d0, d1]
    rw [← e1, Int.toNat_of_nonneg (by omega), List.append_assoc]

set_option maxRecDepth 100000 in
set_option maxHeartbeats 4000000 in
theorem walk (Ab : Option Addr) (cb : Nat) (b : List UInt8) (w : World) (hbb : Bs w w.heap.size Ab b) (hbc : b.length ≤ cb) (hbm : cb ≤ maxLen) :
    Calls Try.prog 8 #[.slice Ab b.length cb] w (LawPost w) := by
  obtain ⟨N, hN⟩ : ∃ N, b.length = N := ⟨_, rfl⟩
  by_cases hbl : b.length ≤ 1000
  rotate_left
  · rw [hN] at hbl
    have hd : decide ((1000 : Int) < (N : Int)) = true := decide_eq_true (by omega)
    have hd' : (1000 : Int) < (N : Int) := by omega
    rw [hN]
    clear hbl hbb hbc hbm hN
    go_enter Try.func8, Try.ntmps8
    go_wp2_with fail
    refine (awake_any _).mono ?_
    rintro e w1 ⟨rfl, hO1⟩
    have HO1 := Lib.hid hO1
    clear hO1
    go_wp2_with fail
    go_ret
    exact ⟨rfl, HO1.out⟩
  have HDB := Lib.hid (fun u (hu : Only Nil w u) => decBytes_any Ab cb b u ((hbb.onlyNil hu (Nat.le_refl _)).up hu.size) (by omega))
  have HRB := Lib.hid (fun u (hu : Only Nil w u) => Ref.decBytes_any Ab cb b u ((hbb.onlyNil hu (Nat.le_refl _)).up hu.size) (by omega) hbc hbm)
  have HDQ := Lib.hid (fun u (hu : Only Nil w u) => decQueue_any Ab cb b u ((hbb.onlyNil hu (Nat.le_refl _)).up hu.size) (by omega))
  have HRQ := Lib.hid (fun u (hu : Only Nil w u) => Ref.decQueue_any Ab cb b u ((hbb.onlyNil hu (Nat.le_refl _)).up hu.size) (by omega) hbc hbm)
  have HSM := Lib.hid (fun (A : Option Addr) (c : Nat) u (hu : Only Nil w u) (hA : Bs u u.heap.size A b) => same_any A Ab c cb b b u hA ((hbb.onlyNil hu (Nat.le_refl _)).up hu.size))
  rw [beq_self_eq_true] at HSM
  have HEQ := Lib.hid (fun (n : Nat) (x : List UInt8) (h : decQ b = some (n, x)) => decQ_enc h)
  have HEU := Lib.hid (fun (n : Nat) (x : List M) (h : decQu b = some (n, x)) => decQu_enc h)
  have hd' : ¬ (1000 : Int) < (N : Int) := by omega
  rw [hN] at HDB HRB HDQ HRQ HSM ⊢
  have HN := Lib.hid hN
  obtain ⟨r, hr⟩ : ∃ r, decQ b = r := ⟨_, rfl⟩
  obtain ⟨s, hs⟩ : ∃ s, decQu b = s := ⟨_, rfl⟩
  rw [hr] at HDB HRB HEQ
  rw [hs] at HDQ HRQ HEU
  clear hr hs hbl hbb hbc hbm hN
  rcases r with _ | ⟨n, x⟩ <;> rcases s with _ | ⟨m, ms⟩
  · go_enter Try.func8, Try.ntmps8
    go_wp2_with fail
    refine (awake_any _).mono ?_
    rintro e w1 ⟨rfl, hO1⟩
    have HO1 := Lib.hid hO1
    clear hO1
    go_wp2_with fail
    refine (HDB.out _ HO1.out).mono ?_
    rintro e w2 ⟨rfl, hO2⟩
    have HO2 := Lib.hid (HO1.out.thenNil hO2)
    clear hO2
    go_wp2_with fail
    refine (HRB.out _ HO2.out).mono ?_
    rintro e w3 ⟨rfl, hO3⟩
    have HO3 := Lib.hid ((HO2.out.thenNil hO3).alloc (.cells #[.int .i64 0, .slice none 0 0] 61))
    clear hO3
    go_wp2_with fail
    refine (HDQ.out _ HO3.out).mono ?_
    rintro e w4 ⟨rfl, hO4⟩
    have HO4 := Lib.hid (HO3.out.thenNil hO4)
    clear hO4
    go_wp2_with fail
    refine (HRQ.out _ HO4.out).mono ?_
    rintro e w5 ⟨rfl, hO5⟩
    have hO5' := hO5.alloc (.cells #[.int .i64 0, .slice none 0 0] 73)
    have HO5 := Lib.hid (HO4.out.thenNil hO5')
    clear hO5 hO5'
    go_wp2_with fail
    go_ret
    exact ⟨rfl, HO5.out⟩
  · go_enter Try.func8, Try.ntmps8
    go_wp2_with fail
    refine (awake_any _).mono ?_
    rintro e w1 ⟨rfl, hO1⟩
    have HO1 := Lib.hid hO1
    clear hO1
    go_wp2_with fail
    refine (HDB.out _ HO1.out).mono ?_
    rintro e w2 ⟨rfl, hO2⟩
    have HO2 := Lib.hid (HO1.out.thenNil hO2)
    clear hO2
    go_wp2_with fail
    refine (HRB.out _ HO2.out).mono ?_
    rintro e w3 ⟨rfl, hO3⟩
    have HO3 := Lib.hid ((HO2.out.thenNil hO3).alloc (.cells #[.int .i64 0, .slice none 0 0] 61))
    clear hO3
    go_wp2_with fail
    refine (HDQ.out _ HO3.out).mono ?_
    rintro e w4 ⟨pq, rfl, hU, hO4⟩
    have HU := Lib.hid hU
    clear hU
    have HO4 := Lib.hid (HO3.out.thenNil hO4)
    clear hO4
    go_wp2_with fail
    refine (HRQ.out _ HO4.out).mono ?_
    rintro e w5 ⟨A5, c5, rfl, _, hO5⟩
    have HU5 := Lib.hid (HU.out.onlyNil (hO5.alloc (.cells #[.int .i64 m, .slice A5 ms.length c5] 73)))
    have hO5' := hO5.alloc (.cells #[.int .i64 m, .slice A5 ms.length c5] 73)
    have HO5 := Lib.hid (HO4.out.thenNil hO5')
    clear hO5 hO5'
    go_wp2_with fail
    refine (qencode_any _ HU5.out (fun y hy => ((HEU.out m ms rfl).2.2.2.2 y hy).1)).mono ?_
    rw [(HEU.out m ms rfl).1]
    rintro e w8 ⟨A8, c8, rfl, _, hown8, hO8⟩
    have HB8 := Lib.hid (Bs.of_own hown8).1
    have HO8 := Lib.hid (HO5.out.thenNil hO8)
    clear hO8 hown8
    rw [HN.out]
    go_wp2_with fail
    refine (HSM.out _ _ _ HO8.out HB8.out).mono ?_
    rintro e w9 ⟨rfl, rfl⟩
    go_wp2_with fail
    go_ret
    exact ⟨rfl, HO8.out⟩
  · go_enter Try.func8, Try.ntmps8
    go_wp2_with fail
    refine (awake_any _).mono ?_
    rintro e w1 ⟨rfl, hO1⟩
    have HO1 := Lib.hid hO1
    clear hO1
    go_wp2_with fail
    refine (HDB.out _ HO1.out).mono ?_
    rintro e w2 ⟨p, g, rfl, hp, hg, hQ, hO2⟩
    have HQ := Lib.hid hQ
    have HO2 := Lib.hid (HO1.out.thenNil hO2)
    clear hO2 hQ
    go_wp2_with fail
    refine (HRB.out _ HO2.out).mono ?_
    rintro e w3 ⟨A3, c3, rfl, _, _, hO3⟩
    have HQ3 := Lib.hid (HQ.out.onlyNil (hO3.alloc (.cells #[.int .i64 n, .slice A3 x.length c3] 61)))
    have HO3 := Lib.hid ((HO2.out.thenNil hO3).alloc (.cells #[.int .i64 n, .slice A3 x.length c3] 61))
    clear hO3
    go_wp2_with fail
    refine (HDQ.out _ HO3.out).mono ?_
    rintro e w4 ⟨rfl, hO4⟩
    have HQ4 := Lib.hid (HQ3.out.onlyNil hO4)
    have HO4 := Lib.hid (HO3.out.thenNil hO4)
    clear hO4
    go_wp2_with fail
    refine (HRQ.out _ HO4.out).mono ?_
    rintro e w5 ⟨rfl, hO5⟩
    have hO5' := hO5.alloc (.cells #[.int .i64 0, .slice none 0 0] 73)
    have HQ5 := Lib.hid (HQ4.out.onlyNil hO5')
    have HO5 := Lib.hid (HO4.out.thenNil hO5')
    clear hO5 hO5'
    go_wp2_with fail
    refine (encode_any _ HQ5.out).mono ?_
    rw [HEQ.out n x rfl]
    rintro e w6 ⟨A6, c6, rfl, _, hown6, hO6⟩
    have HB6 := Lib.hid (Bs.of_own hown6).1
    have HO6 := Lib.hid (HO5.out.thenNil hO6)
    clear hO6 hown6
    rw [HN.out]
    go_wp2_with fail
    refine (HSM.out _ _ _ HO6.out HB6.out).mono ?_
    rintro e w7 ⟨rfl, rfl⟩
    go_wp2_with fail
    go_ret
    exact ⟨rfl, HO6.out⟩
  · go_enter Try.func8, Try.ntmps8
    go_wp2_with fail
    refine (awake_any _).mono ?_
    rintro e w1 ⟨rfl, hO1⟩
    have HO1 := Lib.hid hO1
    clear hO1
    go_wp2_with fail
    refine (HDB.out _ HO1.out).mono ?_
    rintro e w2 ⟨p, g, rfl, hp, hg, hQ, hO2⟩
    have HQ := Lib.hid hQ
    have HO2 := Lib.hid (HO1.out.thenNil hO2)
    clear hO2 hQ
    go_wp2_with fail
    refine (HRB.out _ HO2.out).mono ?_
    rintro e w3 ⟨A3, c3, rfl, _, _, hO3⟩
    have HQ3 := Lib.hid (HQ.out.onlyNil (hO3.alloc (.cells #[.int .i64 n, .slice A3 x.length c3] 61)))
    have HO3 := Lib.hid ((HO2.out.thenNil hO3).alloc (.cells #[.int .i64 n, .slice A3 x.length c3] 61))
    clear hO3
    go_wp2_with fail
    refine (HDQ.out _ HO3.out).mono ?_
    rintro e w4 ⟨pq, rfl, hU, hO4⟩
    have HU := Lib.hid hU
    clear hU
    have HQ4 := Lib.hid (HQ3.out.onlyNil hO4)
    have HO4 := Lib.hid (HO3.out.thenNil hO4)
    clear hO4
    go_wp2_with fail
    refine (HRQ.out _ HO4.out).mono ?_
    rintro e w5 ⟨A5, c5, rfl, _, hO5⟩
    have HU5 := Lib.hid (HU.out.onlyNil (hO5.alloc (.cells #[.int .i64 m, .slice A5 ms.length c5] 73)))
    have hO5' := hO5.alloc (.cells #[.int .i64 m, .slice A5 ms.length c5] 73)
    have HQ5 := Lib.hid (HQ4.out.onlyNil hO5')
    have HO5 := Lib.hid (HO4.out.thenNil hO5')
    clear hO5 hO5'
    go_wp2_with fail
    refine (encode_any _ HQ5.out).mono ?_
    rw [HEQ.out n x rfl]
    rintro e w6 ⟨A6, c6, rfl, _, hown6, hO6⟩
    have HB6 := Lib.hid (Bs.of_own hown6).1
    have HO6 := Lib.hid (HO5.out.thenNil hO6)
    have HU6 := Lib.hid (HU5.out.onlyNil hO6)
    clear hO6 hown6
    rw [HN.out]
    go_wp2_with fail
    refine (HSM.out _ _ _ HO6.out HB6.out).mono ?_
    rintro e w7 ⟨rfl, rfl⟩
    go_wp2_with fail
    refine (qencode_any _ HU6.out (fun y hy => ((HEU.out m ms rfl).2.2.2.2 y hy).1)).mono ?_
    rw [(HEU.out m ms rfl).1]
    rintro e w8 ⟨A8, c8, rfl, _, hown8, hO8⟩
    have HB8 := Lib.hid (Bs.of_own hown8).1
    have HO8 := Lib.hid (HO6.out.thenNil hO8)
    clear hO8 hown8
    rw [HN.out]
    go_wp2_with fail
    refine (HSM.out _ _ _ HO8.out HB8.out).mono ?_
    rintro e w9 ⟨rfl, rfl⟩
    go_wp2_with fail
    go_ret
    exact ⟨rfl, HO8.out⟩

set_option maxRecDepth 100000 in
theorem from_args {H : Type} {enc : TypeId × Value → H} (W : World) (base : Nat) (args : Array Value) (ds : List (DataW H)) (ps : List MemPlace)
    (hval0 : ∀ (j : Nat) t v, Try.f8.params[j]? = some t → args[j]? = some v → Value.okWide Try.prog W .any base t v)
    (hA : DataW.TrodAll enc Try.prog W 0 (fun _ => true) true Try.f8.params.toList args.toList ds ps) (_hlt : ∀ x ∈ ps, x.block < W.heap.size)
    (hsz : (DataW.weightsEach Try.prog Try.f8.params.toList ds).all (· ≤ reachBytes) = true) : Calls Try.prog 8 args W (LawPost W) := by
  have hval := hval0
  rw [Try.params8] at hA hval hsz
  obtain ⟨v0, vs0, d0, ds0, p0, q0, hargs, rfl, rfl, h0, r0⟩ := trodAll_cons hA
  obtain ⟨rfl, rfl, rfl⟩ := trodAll_nil r0
  obtain rfl : args = #[v0] := by cases args; simp_all
  obtain ⟨Ab, b, cb, rfl, hb1, hb2, hb3⟩ := open_barg (hval 0 _ v0 rfl rfl) h0
  exact walk Ab cb b W hb3 hb1 hb2

set_option maxRecDepth 100000 in
theorem over : Rows.ringDecodeRow.holds Try.pinned (OpenSpec.ofChange Rows.ringDecodeSpec) :=
  OpenClaim.holds_of_wide 8 Try.f8 rfl rfl rfl rfl rfl rfl rfl ⟨rfl, rfl, rfl, rfl, rfl⟩ rfl rfl rfl rfl rfl (by kernel_rfl) Try.func8 (by kernel_rfl)
    (of_decide_eq_true (by kernel_rfl)) (by unfold Func.isWrapper; first | (rw [if_pos (by decide +kernel)]; kernel_rfl) | (rw [if_neg (by decide +kernel)]; exact ⟨rfl, rfl⟩))
    (fun os started H enc _ => law_lifted (f := 8) (F := Try.f8) (s := Rows.ringDecodeSpec) os started H enc (by kernel_rfl) Try.func8 rfl rfl (by kernel_rfl) (by kernel_rfl)
      (fun ds hd => by match ds, hd with | [_], _ => rfl)
      (ChangeSpec.witness6 (enc := enc) (C := Try.checked) false ⟨#[], #[.slice none 0 0], []⟩ 8 (by kernel_rfl) (by kernel_rfl) (by kernel_rfl) (by kernel_rfl))
      (fun W base args ds ps hv hA hlt hsz => from_args W base args ds ps hv hA hlt hsz))

/-- The statement. -/
theorem proved : Rows.RingDecodeSaid := over

end ringDecode
end Go.Proofs.Ytljfblnpgeconaa
