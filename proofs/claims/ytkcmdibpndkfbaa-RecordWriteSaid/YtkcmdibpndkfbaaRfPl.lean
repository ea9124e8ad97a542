/-
  ratoonref01.plain: the encodings of integers.
  Conditions: what is encoded can be read.
-/
import Derived.Test.YtkcmdibpndkfbaaWpP
import Derived.Test.YtkcmdibpndkfbaaRfI
import Derived.Test.YtkcmdibpndkfbaaInv
import Derived.Deep.RegionHeld3
namespace Go.Proofs.Ytkcmdibpndkfbaa
open Go.RowKit

set_option maxRecDepth 100000 in
set_option maxHeartbeats 1000000 in
theorem Ref.plain_any (A' : Option Addr) (c' : Nat) (zs : List Int) (w : World) (hx : Rd w w.heap.size 1 A' zs.length (zs.map (Value.int .i64))) (hzl : zs.length ≤ 1000) (hz : ∀ z ∈ zs, -9223372036854775808 ≤ z ∧ z ≤ 9223372036854775807) :
    Calls Try.prog 38 #[.slice A' zs.length c'] w (BytesPost Nil (encL zs) w) := by
  obtain ⟨i0, hi0, hz0, hz1, hz2⟩ := info_parts byte_info
  obtain ⟨N, hN⟩ : ∃ N, zs.length = N := ⟨_, rfl⟩
  rw [hN] at hx hzl ⊢
  have HX := Lib.hid hx
  have HN := Lib.hid hN
  have HZ := Lib.hid hz
  clear hx hN hz
  go_enter Try.func38, Try.ntmps38
  go_wp2_with fail
  go_loopw [4, 3] (fun i v wr => ∃ (k : Nat) (A1 : Option Addr) (c1 : Nat) (r : List UInt8), k ≤ N ∧ i = .int .i64 k ∧ v = .slice A1 r.length c1 ∧ r = encL (zs.take k) ∧ r.length ≤ c1 ∧ wr.ownsRow w.heap.size 5 1 (.slice A1 r.length c1) r.length (bcells r) ∧ Only Nil w wr) (fun i _ _ => N - (intOf i).toNat)
  case atStart => exact ⟨0, none, 0, [], Nat.zero_le _, rfl, rfl, by simp [encL], Nat.le_refl _, World.ownsRow_nil _ _ _ _, Only.refl _ _⟩
  case round =>
    obtain ⟨k, A1, c1, r, hk, rfl, rfl, hr, hrc, hown, hO⟩ := hrel
    have hRL : r.length ≤ 10 * k := by
      rw [hr]
      have h1 := encL_len (zs := zs.take k) (fun z hz => HZ.out z (List.mem_of_mem_take hz))
      rw [List.length_take] at h1
      omega
    have HRE := Lib.hid hr
    have HRC := Lib.hid hrc
    have HW1 := Lib.hid hown
    have HO := Lib.hid hO
    clear hr hrc hown hO
    by_cases hlt : k < N
    · obtain ⟨z, hzk⟩ : ∃ z, zs[k]? = some z := ⟨zs[k]'(by rw [HN.out]; exact hlt), List.getElem?_eq_getElem _⟩
      obtain ⟨b, off, rfl, _, hc⟩ := (HX.out.onlyNil HO.out (Nat.le_refl _)).2 (by omega)
      have c0 : wr.cell? ⟨b, off + k, none⟩ = some (.int .i64 z) := hc k _ (by rw [List.getElem?_map, hzk]; rfl)
      have hzz := HZ.out z (List.mem_of_getElem? hzk)
      have hr2 : r ++ encI z = encL (zs.take (k + 1)) := by
        obtain ⟨hkl, hge⟩ := List.getElem?_eq_some_iff.1 hzk
        rw [List.take_succ_eq_append_getElem hkl, hge, encL_snoc, HRE.out]
      have HR2 := Lib.hid hr2
      have HI2 := Lib.hid (Ref.int_any z wr hzz)
      have hez := encI_len z (zig_lt hzz)
      have hki : (k : Int) < N := by omega
      clear hc hzk hr2 hzz
      go_wp2_with fail
      refine HI2.out.mono ?_
      rintro e w2 ⟨A2, c2, rfl, hc2, hown2, hO2⟩
      obtain ⟨y, hy⟩ : ∃ y, r ++ encI z = y := ⟨_, rfl⟩
      obtain ⟨x, hx⟩ : ∃ x, encI z = x := ⟨_, rfl⟩
      have hyc : bcells r ++ bcells x = bcells y := by rw [← hy, ← hx, bcells_append]
      have hyl : r.length + x.length = y.length := by rw [← hy, ← hx, List.length_append]
      rw [hx] at hown2 hez ⊢
      rw [hy] at HR2
      have HW2 := Lib.hid (own_onlyNil HW1.out hO2)
      have HRD := Lib.hid (Rd.of_own hown2)
      have HYC := Lib.hid hyc
      have HYL := Lib.hid hyl
      have HO2 := Lib.hid (HO.out.thenNil hO2)
      have m63 : r.length + x.length ≤ maxLen := by unfold maxLen; omega
      have mby : (r.length + x.length) * 1 ≤ 140737488355328 := by omega
      have M63 := Lib.hid m63
      have MBY := Lib.hid mby
      clear hown2 hO2 hc2 hyc hyl hy hx m63 mby c0
      go_wp2_with (at_builtin; go_must (refine wpList_append_rd _ rfl (.tmp 11) (.tmp 16) _ rfl w.heap.size 5 i0 (.int .u8 0) 1 1 Try.underlying26 hi0 hz0 hz1 hz2 rfl (by omega) (.slice A1 r.length c1) r.length (bcells r) rfl HW2.out w2.heap.size A2 x.length c2 (bcells x) rfl HRD.out (bcells_one x) y.length HYL.out (bcells y) HYC.out M63.out MBY.out HO2.out.size ?_))
      intro A4 c4 w4 hc4 hown4 hgr4 hat4
      have HO4 := Lib.hid (HO2.out.grown hgr4 (fun q hq => .inr (ownBlock_ge HW2.out hq)))
      have HC4 := Lib.hid hc4
      have HW4 := Lib.hid hown4
      clear hc4 hown4 hgr4 hat4
      go_wp2_with fail
      go_roundw
      case rel => exact ⟨k + 1, A4, c4, y, by omega, by go_num, rfl, HR2.out, HC4.out, HW4.out, HO4.out⟩
      case measure => simp [intOf]; omega
    · have hkN : k = N := by omega
      subst hkN
      have hfin : r = encL zs := by
        rw [HRE.out, List.take_of_length_le (by rw [HN.out]; exact Nat.le_refl _)]
      have HF := Lib.hid hfin
      clear hfin
      go_wp2_with fail
      go_ret
      rw [← HF.out]
      exact ⟨A1, c1, rfl, HRC.out, HW1.out, HO.out⟩

end Go.Proofs.Ytkcmdibpndkfbaa
