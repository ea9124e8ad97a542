/-
  ratoonref01.plain, Msg: the encodings of integers, of a message.
  Conditions: what is encoded can be read.
-/
import Derived.Test.YtbhgaaendekghaaMqP
import Derived.Test.YtbhgaaendekghaaRfI
import Derived.Test.YtbhgaaendekghaaInv
import Derived.Deep.RegionHeld3
namespace Go.Proofs.Ytbhgaaendekghaa
open Go.RowKit

set_option maxRecDepth 100000 in
set_option maxHeartbeats 1000000 in
theorem Ref.plain_any (A' : Option Addr) (c' : Nat) (zs : List Int) (w : World) (hx : Rd w w.heap.size 1 A' zs.length (zs.map (Value.int .i64))) (hzl : zs.length ≤ 1000) (hz : ∀ z ∈ zs, -9223372036854775808 ≤ z ∧ z ≤ 9223372036854775807) :
    Calls Try.prog 71 #[.slice A' zs.length c'] w (BytesPost Nil (encL zs) w) := by
  obtain ⟨i0, hi0, hz0, hz1, hz2⟩ := info_parts byte_info
  obtain ⟨N, hN⟩ : ∃ N, zs.length = N := ⟨_, rfl⟩
  rw [hN] at hx hzl ⊢
  have HX := Lib.hid hx
  have HN := Lib.hid hN
  have HZ := Lib.hid hz
  clear hx hN hz
  go_enter Try.func71, Try.ntmps71
  go_wp2_with fail
  go_loopw [4, 3] (fun i v wr => ∃ (k : Nat) (A1 : Option Addr) (c1 : Nat) (r : List UInt8), k ≤ N ∧ i = .int .i64 k ∧ v = .slice A1 r.length c1 ∧ r = encL (zs.take k) ∧ r.length ≤ c1 ∧ wr.ownsRow w.heap.size 5 1 (.slice A1 r.length c1) r.length (bcells r) ∧ Only Nil w wr) (fun i _ _ => N - (intOf i).toNat)
  case atStart => exact ⟨0, none, 0, [], Nat.zero_le _, rfl, rfl, by simp [encL], Nat.le_refl _, World.ownsRow_nil _ _ _ _, Only.refl _ _⟩
  case round =>
    obtain ⟨k, A1, c1, r, hk, rfl, rfl, hr, hrc, hown, hO⟩ := hrel
    have hRL : r.length ≤ 10 * k := by
      rw [hr]
      have h1 := encL_len (zs := zs.take k) (fun z hz => HZ.out z (List.mem_of_mem_take hz))
      rw [List.length_take] at h1
      omega
    have HRE := Lib.hid hr
    have HRC := Lib.hid hrc
    have HW1 := Lib.hid hown
    have HO := Lib.hid hO
    clear hr hrc hown hO
    by_cases hlt : k < N
    · obtain ⟨z, hzk⟩ : ∃ z, zs[k]? = some z := ⟨zs[k]'(by rw [HN.out]; exact hlt), List.getElem?_eq_getElem _⟩
      obtain ⟨b, off, rfl, _, hc⟩ := (HX.out.onlyNil HO.out (Nat.le_refl _)).2 (by omega)
      have c0 : wr.cell? ⟨b, off + k, none⟩ = some (.int .i64 z) := hc k _ (by rw [List.getElem?_map, hzk]; rfl)
      have hzz := HZ.out z (List.mem_of_getElem? hzk)
      have hr2 : r ++ encI z = encL (zs.take (k + 1)) := by
        obtain ⟨hkl, hge⟩ := List.getElem?_eq_some_iff.1 hzk
        rw [List.take_succ_eq_append_getElem hkl, hge, encL_snoc, HRE.out]
      have HR2 := Lib.hid hr2
      have HI2 := Lib.hid (Ref.int_any z wr hzz)
      have hez := encI_len z (zig_lt hzz)
      have hki : (k : Int) < N := by omega
      clear hc hzk hr2 hzz
      go_wp2_with fail
      refine HI2.out.mono ?_
      rintro e w2 ⟨A2, c2, rfl, hc2, hown2, hO2⟩
      obtain ⟨y, hy⟩ : ∃ y, r ++ encI z = y := ⟨_, rfl⟩
      obtain ⟨x, hx⟩ : ∃ x, encI z = x := ⟨_, rfl⟩
      have hyc : bcells r ++ bcells x = bcells y := by rw [← hy, ← hx, bcells_append]
      have hyl : r.length + x.length = y.length := by rw [← hy, ← hx, List.length_append]
      rw [hx] at hown2 hez ⊢
      rw [hy] at HR2
      have HW2 := Lib.hid (own_onlyNil HW1.out hO2)
      have HRD := Lib.hid (Rd.of_own hown2)
      have HYC := Lib.hid hyc
      have HYL := Lib.hid hyl
      have HO2 := Lib.hid (HO.out.thenNil hO2)
      have m63 : r.length + x.length ≤ maxLen := by unfold maxLen; omega
      have mby : (r.length + x.length) * 1 ≤ 140737488355328 := by omega
      have M63 := Lib.hid m63
      have MBY := Lib.hid mby
      clear hown2 hO2 hc2 hyc hyl hy hx m63 mby c0
      go_wp2_with (at_builtin; go_must (refine wpList_append_rd _ rfl (.tmp 11) (.tmp 16) _ rfl w.heap.size 5 i0 (.int .u8 0) 1 1 Try.underlying22 hi0 hz0 hz1 hz2 rfl (by omega) (.slice A1 r.length c1) r.length (bcells r) rfl HW2.out w2.heap.size A2 x.length c2 (bcells x) rfl HRD.out (bcells_one x) y.length HYL.out (bcells y) HYC.out M63.out MBY.out HO2.out.size ?_))
      intro A4 c4 w4 hc4 hown4 hgr4 hat4
      have HO4 := Lib.hid (HO2.out.grown hgr4 (fun q hq => .inr (ownBlock_ge HW2.out hq)))
      have HC4 := Lib.hid hc4
      have HW4 := Lib.hid hown4
      clear hc4 hown4 hgr4 hat4
      go_wp2_with fail
      go_roundw
      case rel => exact ⟨k + 1, A4, c4, y, by omega, by go_num, rfl, HR2.out, HC4.out, HW4.out, HO4.out⟩
      case measure => simp [intOf]; omega
    · have hkN : k = N := by omega
      subst hkN
      have hfin : r = encL zs := by
        rw [HRE.out, List.take_of_length_le (by rw [HN.out]; exact Nat.le_refl _)]
      have HF := Lib.hid hfin
      clear hfin
      go_wp2_with fail
      go_ret
      rw [← HF.out]
      exact ⟨A1, c1, rfl, HRC.out, HW1.out, HO.out⟩

set_option maxRecDepth 100000 in
set_option maxHeartbeats 2000000 in
theorem Ref.msg_any (Am : Option Addr) (cm : Nat) (m : M) (w : World) (hf : m.fits) (hm : Bs w w.heap.size Am m.data) (hd : m.data.length ≤ 274877906944) :
    Calls Try.prog 45 #[.agg (mcells Am cm m).toArray] w (BytesPost Nil (encM m) w) := by
  obtain ⟨i0, hi0, hz0, hz1, hz2⟩ := info_parts byte_info
  have hn := hf.nums
  have hel := encL_len hn
  obtain ⟨src, dst, kind, seq, a0, a1, a2, a3, data⟩ := m
  unfold encM M.nums at *
  dsimp only at *
  obtain ⟨E1, hE1⟩ : ∃ E1, encL [src, dst, kind, seq, a0, a1, a2, a3] = E1 := ⟨_, rfl⟩
  obtain ⟨E2, hE2⟩ : ∃ E2, encI data.length ++ data = E2 := ⟨_, rfl⟩
  obtain ⟨E3, hE3⟩ : ∃ E3, E1 ++ E2 = E3 := ⟨_, rfl⟩
  have l2 : E2.length ≤ 274877906944 + 10 := by
    rw [← hE2, List.length_append]
    have := encI_len (data.length : Int) (zig_lt (by omega))
    omega
  rw [hE1, hE2, hE3]
  rw [hE1] at hel
  have l1 : E1.length ≤ 80 := by simpa using hel
  have hyl : E1.length + E2.length = E3.length := by rw [← hE3, List.length_append]
  have hyc : bcells E1 ++ bcells E2 = bcells E3 := by rw [← hE3, bcells_append]
  obtain ⟨CS, hCS⟩ : ∃ CS : Array Value, CS = #[Value.int .i64 src, .int .i64 dst, .int .i64 kind, .int .i64 seq, .int .i64 a0, .int .i64 a1, .int .i64 a2, .int .i64 a3, .slice Am data.length cm] := ⟨_, rfl⟩
  have hc1 : ∀ u g, Only Nil w u → Blk u g 3 #[Value.int .i64 src, .int .i64 dst, .int .i64 kind, .int .i64 seq, .int .i64 a0, .int .i64 a1, .int .i64 a2, .int .i64 a3] → Calls Try.prog 71 #[.slice (some ⟨g, 0, none⟩) 8 8] u fun x u' => ∃ A1 c1, x = .returned (.slice A1 E1.length c1) ∧ u'.ownsRow w.heap.size 5 1 (.slice A1 E1.length c1) E1.length (bcells E1) ∧ Only Nil u u' := fun u g hO hg => by
    refine (Ref.plain_any (some ⟨g, 0, none⟩) 8 [src, dst, kind, seq, a0, a1, a2, a3] u ⟨rfl, fun _ => ⟨g, 0, rfl, hg.lt, fun j v hj => ?_⟩⟩ (by simp) hn).mono ?_
    · rw [Nat.zero_add, hg.cell, ← hj]
      simp
    · rw [hE1]
      rintro x u' ⟨A1, c1, rfl, _, hown, hO2⟩
      exact ⟨A1, c1, rfl, own_base hown hO.size, hO2⟩
  have hc2 : ∀ u, Only Nil w u → Calls Try.prog 72 #[.slice Am data.length cm] u fun x u' => ∃ A2 c2, x = .returned (.slice A2 E2.length c2) ∧ Rd u' u'.heap.size 1 A2 E2.length (bcells E2) ∧ Only Nil u u' := fun u hO => by
    refine (Ref.bytes_any Am cm data u ((hm.onlyNil hO (Nat.le_refl _)).up hO.size) (by omega)).mono ?_
    rw [hE2]
    rintro x u' ⟨A2, c2, rfl, _, hown, hO2⟩
    exact ⟨A2, c2, rfl, Rd.of_own hown, hO2⟩
  obtain ⟨D, hD⟩ : ∃ D, data.length = D := ⟨_, rfl⟩
  obtain ⟨L1, hL1⟩ : ∃ L1, E1.length = L1 := ⟨_, rfl⟩
  obtain ⟨L2, hL2⟩ : ∃ L2, E2.length = L2 := ⟨_, rfl⟩
  rw [hL1] at hc1 hyl l1
  rw [hL2] at hc2 hyl l2
  rw [hD] at hc2 hCS
  have H1 := Lib.hid hc1
  have H2 := Lib.hid hc2
  have HCS := Lib.hid hCS
  have HYL := Lib.hid hyl
  have HYC := Lib.hid hyc
  have HLL := Lib.hid (And.intro l1 l2)
  unfold mcells
  dsimp only
  rw [hD]
  clear hc1 hc2 hE1 hE2 hE3 l1 l2 hL1 hL2 hm hd hn hf hD hCS hyl hyc hel
  go_enter Try.func45, Try.ntmps45
  go_upto_region 0 with fail
  go_cut [1, 2] (fun p v wd => v = .slice none 0 0 ∧ ∃ bx, p = .pointer (some ⟨bx, 0, none⟩) ∧ Blk wd bx 26 CS ∧ Only Nil w wd)
  case first =>
    go_wp2_with fail
    go_meet
    case rel => exact ⟨rfl, _, rfl, by rw [HCS.out]; exact Blk.new _ _ _, by (repeat' (first | with_reducible exact Only.refl _ _ | with_reducible refine Only.setCell ?_ (Or.inl ?_) _ | with_reducible refine Only.drewN ?_ _ | with_reducible refine Only.drew ?_ | with_reducible refine Only.alloc ?_ _ | (fail)))⟩
  case rest =>
  obtain ⟨rfl, bx, rfl, hb, hO⟩ := hcut
  have hks : ∀ u, Only Nil wc u → ∀ i, u.cell? ⟨bx, i, none⟩ = #[Value.int .i64 src, .int .i64 dst, .int .i64 kind, .int .i64 seq, .int .i64 a0, .int .i64 a1, .int .i64 a2, .int .i64 a3, .slice Am D cm][i]? := fun u hO i => by rw [(hb.onlyNil hO).cell, HCS.out]
  have HKS := Lib.hid hks
  have HO := Lib.hid hO
  have HB := Lib.hid hb
  have kd := hks wc.drew (Only.refl _ _).drew
  have kd0 := hks wc (Only.refl _ _)
  have hs4 : ∀ (u w4 : World) (A1 : Option Addr) (c1 : Nat), Only Nil wc u → u.ownsRow w.heap.size 5 1 (.slice A1 L1 c1) L1 (bcells E1) → u.grownBy w4 (Value.slice A1 L1 c1).ownBlock → ∀ i, w4.cell? ⟨bx, i, none⟩ = #[Value.int .i64 src, .int .i64 dst, .int .i64 kind, .int .i64 seq, .int .i64 a0, .int .i64 a1, .int .i64 a2, .int .i64 a3, .slice Am D cm][i]? := fun u w4 A1 c1 hu ho hg i => by
    have h1 := (hb.onlyNil hu).grown hg (fun e => own_blk_ne ho (hb.onlyNil hu) (by decide) e.symm)
    rw [h1.cell, HCS.out]
  have HS4 := Lib.hid hs4
  have m63 : L1 + L2 ≤ maxLen := by have := HLL.out; unfold maxLen; omega
  have mby : (L1 + L2) * 1 ≤ 140737488355328 := by have := HLL.out; omega
  have M63 := Lib.hid m63
  have MBY := Lib.hid mby
  have HOA := Lib.hid (((Only.refl Nil wc).alloc (.cells #[Value.int .i64 src, .int .i64 dst, .int .i64 kind, .int .i64 seq, .int .i64 a0, .int .i64 a1, .int .i64 a2, .int .i64 a3] 3)).drew)
  have HBA := Lib.hid ((Blk.new wc 3 #[Value.int .i64 src, .int .i64 dst, .int .i64 kind, .int .i64 seq, .int .i64 a0, .int .i64 a1, .int .i64 a2, .int .i64 a3]).drew)
  clear hks hb hO hs4 m63 mby
  go_upto_region 1 with fail
  go_region_held3 (fun w' => ∀ i, w'.cell? ⟨bx, i, none⟩ = #[Value.int .i64 src, .int .i64 dst, .int .i64 kind, .int .i64 seq, .int .i64 a0, .int .i64 a1, .int .i64 a2, .int .i64 a3, .slice Am D cm][i]?) (first | with_reducible assumption | exact HKS.out _ HOA.out | go_keep)
    (first
      | (go_simp; go_at_call 71; have hh := H1.out _ _ (HO.out.thenNil HOA.out) HBA.out; refine hh.mono ?_; rintro x w1 ⟨A1, c1, rfl, hown1, hOz⟩; have hO1 := HOA.out.thenNil hOz; have hs1 := HKS.out w1 hO1)
      | (go_simp; go_at_call 72; refine (H2.out _ (HO.out.thenNil hO1)).mono ?_; rintro x w2 ⟨A2, c2, rfl, hrd2, hO2⟩; have hs2 := HKS.out w2 (hO1.thenNil hO2))
      | (refine step_append_rd _ (by rfl) (.tmp 24) (.tmp 27) _ (by rfl) w.heap.size 5 i0 (.int .u8 0) 1 1 Try.underlying22 hi0 hz0 hz1 hz2 rfl Nat.zero_lt_one (.slice A1 L1 c1) L1 (bcells E1) (by simp [Act.eval]) (own_onlyNil hown1 hO2) w2.heap.size A2 L2 c2 (bcells E2) (by simp [Act.eval]) hrd2 (bcells_one E2) E3.length HYL.out _ HYC.out M63.out MBY.out (HO.out.thenNil (hO1.thenNil hO2)).size ?_; intro A4 c4 w4 hc4 hown4 hgr4 hat4; have hO4 := (HO.out.thenNil (hO1.thenNil hO2)).grown hgr4 (fun q hq => .inr (ownBlock_ge (own_onlyNil hown1 hO2) hq)); have hs4 := HS4.out _ _ _ _ (hO1.thenNil hO2) (own_onlyNil hown1 hO2) hgr4)
      | fail)
  all_goals
    go_wp2_with fail
    go_ret
    exact ⟨A4, c4, rfl, hc4, hown4, hO4⟩

end Go.Proofs.Ytbhgaaendekghaa
