/-
  Encode of the reference's queue of messages.
  Conditions: the queue's messages can be read; at most 200, with at most 1536 bytes of Data each.
-/
import Derived.Test.YtljfblnpgeconaaRiQ1
namespace Go.Proofs.Ytljfblnpgeconaa
open Go.RowKit

set_option maxRecDepth 100000 in
set_option maxHeartbeats 4000000 in
theorem Ref.qencode_any (n : Nat) (F : Nat → Prop) (A : Option Addr) (c : Nat) (rs : List (Option Addr × Nat × M)) (w : World) (h : ML w F A c rs) (hn : n ≤ 200) (hl : rs.length ≤ 200) (hd : ∀ r ∈ rs, r.2.2.data.length ≤ 1536) :
    Calls Try.prog 46 #[.agg #[.int .i64 n, .slice A rs.length c]] w (BytesPost Nil (encQ n (rs.map fun r => r.2.2)) w) := by
  obtain ⟨i0, hi0, hz0, hz1, hz2⟩ := info_parts byte_info
  obtain ⟨N, hN⟩ : ∃ N, rs.length = N := ⟨_, rfl⟩
  obtain ⟨W, hW⟩ : ∃ W, w.alloc (.cells #[.int .i64 n, .slice A N c] 73) = W := ⟨_, rfl⟩
  obtain ⟨bx, hbx⟩ : ∃ bx, bx = w.heap.size := ⟨_, rfl⟩
  have hO : Only Nil w W := by rw [← hW]; exact (Only.refl _ _).alloc _
  have hb : Blk W bx 73 #[.int .i64 n, .slice A N c] := by rw [← hW, hbx]; exact Blk.new _ _ _
  have hM := h.onlyNil hO
  have hd2 : ∀ r ∈ rs, r.2.2.fits ∧ r.2.2.data.length ≤ 1536 ∧ Bs w w.heap.size r.1 r.2.2.data := fun r hr => ⟨(h.data r hr).2.2.1, hd r hr, (h.data r hr).2.2.2.1⟩
  have hms : ∀ m ∈ rs.map (fun r => r.2.2), m.fits ∧ m.data.length ≤ 1536 := fun m hm => by
    obtain ⟨r, hr, rfl⟩ := List.mem_map.1 hm
    exact ⟨(hd2 r hr).1, (hd2 r hr).2.1⟩
  obtain ⟨E1, hE1⟩ : ∃ E, encI (n : Int) = E := ⟨_, rfl⟩
  obtain ⟨EN, hEN⟩ : ∃ E, encI (N : Int) = E := ⟨_, rfl⟩
  obtain ⟨E2, hE2⟩ : ∃ E, E1 ++ EN = E := ⟨_, rfl⟩
  have l1 : E1.length ≤ 10 := by rw [← hE1]; exact encI_len _ (zig_lt (by omega))
  have lN : EN.length ≤ 10 := by rw [← hEN]; exact encI_len _ (zig_lt (by omega))
  have hyl : E1.length + EN.length = E2.length := by rw [← hE2, List.length_append]
  have hyc : bcells E1 ++ bcells EN = bcells E2 := by rw [← hE2, bcells_append]
  have hfin : ∀ r, r = E2 ++ ((rs.map fun r => r.2.2).take N).flatMap encM → r = encQ n (rs.map fun r => r.2.2) := fun r hr => by
    rw [hr, List.take_of_length_le (by rw [List.length_map]; omega), ← hE2, ← hE1, ← hEN]
    unfold encQ
    rw [List.length_map, hN]
  have hc1 : ∀ u, Only Nil W u → Calls Try.prog 62 #[.int .i64 n] u fun x u' => ∃ A1 c1, x = .returned (.slice A1 E1.length c1) ∧ u'.ownsRow w.heap.size 5 1 (.slice A1 E1.length c1) E1.length (bcells E1) ∧ Only Nil u u' := fun u hu => by
    refine (Ref.int_any n u (by omega)).mono ?_
    rw [hE1]
    rintro x u' ⟨A1, c1, rfl, _, hown, hO2⟩
    exact ⟨A1, c1, rfl, own_base hown (hO.thenNil hu).size, hO2⟩
  have hc2 : ∀ u, Only Nil W u → Calls Try.prog 62 #[.int .i64 N] u fun x u' => ∃ A2 c2, x = .returned (.slice A2 EN.length c2) ∧ Rd u' u'.heap.size 1 A2 EN.length (bcells EN) ∧ Only Nil u u' := fun u hu => by
    refine (Ref.int_any N u (by omega)).mono ?_
    rw [hEN]
    rintro x u' ⟨A2, c2, rfl, _, hown, hO2⟩
    exact ⟨A2, c2, rfl, Rd.of_own hown, hO2⟩
  have hks : ∀ u, Only Nil W u → ∀ i, u.cell? ⟨bx, i, none⟩ = #[Value.int .i64 n, .slice A N c][i]? := fun u hu i => (hb.onlyNil hu).cell i
  have hs4 : ∀ (u w4 : World) (A1 : Option Addr) (c1 : Nat), Only Nil W u → u.ownsRow w.heap.size 5 1 (.slice A1 E1.length c1) E1.length (bcells E1) → u.grownBy w4 (Value.slice A1 E1.length c1).ownBlock → Blk w4 bx 73 #[.int .i64 n, .slice A N c] := fun u w4 A1 c1 hu ho hg =>
    (hb.onlyNil hu).grown hg (fun e => own_blk_ne ho (hb.onlyNil hu) (by decide) e.symm)
  obtain ⟨L1, hL1⟩ : ∃ L, E1.length = L := ⟨_, rfl⟩
  obtain ⟨LN, hLN⟩ : ∃ L, EN.length = L := ⟨_, rfl⟩
  rw [hL1] at hc1 hs4 hyl l1
  rw [hLN] at hc2 hyl lN
  have H1 := Lib.hid hc1
  have H2 := Lib.hid hc2
  have HKS := Lib.hid hks
  have HS4 := Lib.hid hs4
  have HYL := Lib.hid hyl
  have HYC := Lib.hid hyc
  have HFN := Lib.hid hfin
  have m63 : L1 + LN ≤ maxLen := by unfold maxLen; omega
  have mby : (L1 + LN) * 1 ≤ 140737488355328 := by omega
  have M63 := Lib.hid m63
  have MBY := Lib.hid mby
  have HL2 := Lib.hid (show E2.length ≤ 20 by rw [← hyl]; omega)
  have HN := Lib.hid hN
  have HM := Lib.hid h
  have HD := Lib.hid hd2
  have HMS := Lib.hid hms
  have HO := Lib.hid hO
  have HB := Lib.hid hb
  have HW := Lib.hid hW
  have HBX := Lib.hid hbx
  have kd := hks W.drew (Only.refl _ _).drew
  rw [hN] at hl ⊢
  clear hc1 hc2 hks hs4 hyl hyc hfin m63 mby hM hd2 hms hO hb hE1 hE2 hEN l1 lN hL1 hLN h hd hN hW hbx
  go_enter Try.func46, Try.ntmps46
  go_upto_region 1 with fail
  rw [HW.out, ← HBX.out]
  go_cut [3] (fun v wd => ∃ A2 c2, v = .slice A2 E2.length c2 ∧ E2.length ≤ c2 ∧ wd.ownsRow w.heap.size 5 1 (.slice A2 E2.length c2) E2.length (bcells E2) ∧ Blk wd bx 73 #[.int .i64 n, .slice A N c] ∧ Only Nil w wd)
  case first =>
    go_region_held3 (fun u => ∀ i, u.cell? ⟨bx, i, none⟩ = #[Value.int .i64 n, .slice A N c][i]?) (first | with_reducible assumption | go_keep)
      (first
        | (go_simp; go_at_call 62; have hh := H2.out _ hO1; refine hh.mono ?_; rintro x u2 ⟨A2, c2, rfl, hrd2, hOy⟩; have hO2 := hO1.thenNil hOy; have hs2 := HKS.out _ hO2; have hown2 := own_onlyNil hown1 hOy)
        | (go_simp; go_at_call 62; have hO0 := (Only.refl Nil W).drew; have hh := H1.out _ hO0; refine hh.mono ?_; rintro x u1 ⟨A1, c1, rfl, hown1, hOx⟩; have hO1 := hO0.thenNil hOx; have hs1 := HKS.out _ hO1)
        | (refine step_append_rd _ (by rfl) (.tmp 7) (.tmp 11) _ (by rfl) w.heap.size 5 i0 (.int .u8 0) 1 1 Try.underlying29 hi0 hz0 hz1 hz2 rfl Nat.zero_lt_one (.slice A1 L1 c1) L1 (bcells E1) (by simp [Act.eval]) hown2 u2.heap.size A2 LN c2 (bcells EN) (by simp [Act.eval]) hrd2 (bcells_one EN) E2.length HYL.out _ HYC.out M63.out MBY.out (HO.out.thenNil hO2).size ?_; intro A4 c4 w4 hc4 hown4 hgr4 hat4; have hO4 := (HO.out.thenNil hO2).grown hgr4 (fun q hq => .inr (ownBlock_ge hown2 hq)); have hb4 := HS4.out _ _ _ _ hO2 hown2 hgr4; have hs4 : ∀ i, w4.cell? ⟨bx, i, none⟩ = #[Value.int .i64 n, .slice A N c][i]? := fun i => hb4.cell i)
        | fail)
    all_goals
      go_wp2_with fail
      go_meet
      case rel => exact ⟨A4, c4, rfl, hc4, hown4, hb4, hO4⟩
  case rest =>
  obtain ⟨A2, c2, rfl, hcc2, hown2, hb2, hO2⟩ := hcut
  have HCC := Lib.hid hcc2
  have HW2 := Lib.hid hown2
  have HB2 := Lib.hid hb2
  have HO2 := Lib.hid hO2
  clear hcc2 hown2 hb2 hO2 kd
  go_wp2_with fail
  go_loopw [4, 3] (fun i v wr => ∃ (k : Nat) (A1 : Option Addr) (c1 : Nat) (r : List UInt8), k ≤ N ∧ i = .int .i64 k ∧ v = .slice A1 r.length c1 ∧ r = E2 ++ ((rs.map fun r => r.2.2).take k).flatMap encM ∧ r.length ≤ c1 ∧ wr.ownsRow w.heap.size 5 1 (.slice A1 r.length c1) r.length (bcells r) ∧ Blk wr bx 73 #[.int .i64 n, .slice A N c] ∧ Only Nil w wr) (fun i _ _ => N - (intOf i).toNat)
  case atStart => exact ⟨0, A2, c2, E2, Nat.zero_le _, rfl, rfl, by simp, HCC.out, HW2.out, HB2.out, HO2.out⟩
  case round =>
    obtain ⟨k, A1, c1, r, hk, rfl, rfl, hr, hrc, hown, hbr, hO⟩ := hrel
    have hRL : r.length ≤ 20 + 1626 * k := by
      rw [hr, List.length_append]
      have h1 := encMs_len (ms := (rs.map fun r => r.2.2).take k) (fun m hm => HMS.out m (List.mem_of_mem_take hm))
      rw [List.length_take] at h1
      have := HL2.out
      omega
    have HRE := Lib.hid hr
    have HRC := Lib.hid hrc
    have HW1 := Lib.hid hown
    have HBR := Lib.hid hbr
    have HO := Lib.hid hO
    have kb : ∀ i, wr.cell? ⟨bx, i, none⟩ = #[Value.int .i64 n, .slice A N c][i]? := fun i => hbr.cell i
    clear hr hrc hown hO hbr
    by_cases hlt : k < N
    · obtain ⟨⟨Am, cm, m⟩, hrk⟩ : ∃ r, rs[k]? = some r := ⟨rs[k]'(by rw [HN.out]; exact hlt), List.getElem?_eq_getElem _⟩
      obtain ⟨hmf, hmd, hmb⟩ := HD.out _ (List.mem_of_getElem? hrk)
      have hmk : (rs.map fun r => r.2.2)[k]? = some m := by rw [List.getElem?_map, hrk]; rfl
      have hr2 : r ++ encM m = E2 ++ ((rs.map fun r => r.2.2).take (k + 1)).flatMap encM := by
        obtain ⟨hkl, hge⟩ := List.getElem?_eq_some_iff.1 hmk
        rw [List.take_succ_eq_append_getElem hkl, hge, List.flatMap_append, ← List.append_assoc, ← HRE.out]
        simp
      obtain ⟨b, off, rfl, hbw, hc⟩ := (HM.out.onlyNil HO.out).at_ hrk
      dsimp only at hmf hmd hmb
      have hel := encM_len hmf (by omega)
      have HWM := Lib.hid (Ref.msg_any Am cm m wr hmf ((hmb.onlyNil HO.out (Nat.le_refl _)).up HO.out.size) (by omega))
      have HR2' := Lib.hid hr2
      obtain ⟨src, dst, kind, seq, a0, a1, a2, a3, data⟩ := m
      unfold rcl at hc
      unfold mcells at hc HWM
      dsimp only at hc HWM hmd hel
      obtain ⟨D, hD⟩ : ∃ D, data.length = D := ⟨_, rfl⟩
      rw [hD] at hc HWM hmd hel
      have e0 : wr.cell? ⟨b, off + k * 9, none⟩ = some (.int .i64 src) := hc 0 _ rfl
      have e1 : wr.cell? ⟨b, off + k * 9 + 1, none⟩ = some (.int .i64 dst) := hc 1 _ rfl
      have e2 : wr.cell? ⟨b, off + k * 9 + 2, none⟩ = some (.int .i64 kind) := hc 2 _ rfl
      have e3 : wr.cell? ⟨b, off + k * 9 + 3, none⟩ = some (.int .i64 seq) := hc 3 _ rfl
      have e4 : wr.cell? ⟨b, off + k * 9 + 4, none⟩ = some (.int .i64 a0) := hc 4 _ rfl
      have e5 : wr.cell? ⟨b, off + k * 9 + 5, none⟩ = some (.int .i64 a1) := hc 5 _ rfl
      have e6 : wr.cell? ⟨b, off + k * 9 + 6, none⟩ = some (.int .i64 a2) := hc 6 _ rfl
      have e7 : wr.cell? ⟨b, off + k * 9 + 7, none⟩ = some (.int .i64 a3) := hc 7 _ rfl
      have e8 : wr.cell? ⟨b, off + k * 9 + 8, none⟩ = some (.slice Am D cm) := hc 8 _ rfl
      have hki : (k : Int) < N := by omega
      clear hc hmf hmb hmk hrk hr2 hD
      go_wp2_with fail
      clear e0 e1 e2 e3 e4 e5 e6 e7 e8 kb
      refine HWM.out.mono ?_
      rintro e w2 ⟨A2', c2', rfl, hc2, hown2, hO2⟩
      obtain ⟨x, hx⟩ : ∃ x, encM ⟨src, dst, kind, seq, a0, a1, a2, a3, data⟩ = x := ⟨_, rfl⟩
      obtain ⟨y, hy⟩ : ∃ y, r ++ x = y := ⟨_, rfl⟩
      rw [hx] at HR2' hown2 hel ⊢
      rw [hy] at HR2'
      have hyc : bcells r ++ bcells x = bcells y := by rw [← hy, bcells_append]
      have hyl : r.length + x.length = y.length := by rw [← hy, List.length_append]
      have HWr := Lib.hid (own_onlyNil HW1.out hO2)
      have HBr := Lib.hid (HBR.out.onlyNil hO2)
      have HRD := Lib.hid (Rd.of_own hown2)
      have HYC := Lib.hid hyc
      have HYL := Lib.hid hyl
      have HO2 := Lib.hid (HO.out.thenNil hO2)
      have m63 : r.length + x.length ≤ maxLen := by unfold maxLen; omega
      have mby : (r.length + x.length) * 1 ≤ 140737488355328 := by omega
      have M63 := Lib.hid m63
      have MBY := Lib.hid mby
      clear hown2 hO2 hc2 hyc hyl hy hx m63 mby
      go_wp2_with (at_builtin; go_must (refine wpList_append_rd _ rfl (.tmp 20) (.tmp 26) _ rfl w.heap.size 5 i0 (.int .u8 0) 1 1 Try.underlying29 hi0 hz0 hz1 hz2 rfl (by omega) (.slice A1 r.length c1) r.length (bcells r) rfl HWr.out w2.heap.size A2' x.length c2' (bcells x) rfl HRD.out (bcells_one x) y.length HYL.out (bcells y) HYC.out M63.out MBY.out HO2.out.size ?_))
      intro A4 c4 w4 hc4 hown4 hgr4 hat4
      have HO4 := Lib.hid (HO2.out.grown hgr4 (fun q hq => .inr (ownBlock_ge HWr.out hq)))
      have HB4 := Lib.hid (HBr.out.grown hgr4 (fun e => own_blk_ne HWr.out HBr.out (by decide) e.symm))
      have HC4 := Lib.hid hc4
      have HW4 := Lib.hid hown4
      clear hc4 hown4 hgr4 hat4
      go_wp2_with fail
      go_roundw
      case rel => exact ⟨k + 1, A4, c4, y, by omega, by go_num, rfl, HR2'.out, HC4.out, HW4.out, HB4.out, HO4.out⟩
      case measure => simp [intOf]; omega
    · have hkN : k = N := by omega
      subst hkN
      have hfin := HFN.out r HRE.out
      have HFF := Lib.hid hfin
      clear hfin
      go_wp2_with fail
      go_ret
      rw [← HFF.out]
      exact ⟨A1, c1, rfl, HRC.out, HW1.out, HO.out⟩

end Go.Proofs.Ytljfblnpgeconaa
