/-
  The walk of ratoonref01.Effect: the encoding of an effect.
  Conditions: the effect can be read; its Data are not too long.
-/
import Derived.Test.YtbhgaaendekghaaEfA
import Derived.Test.YtbhgaaendekghaaRqE
namespace Go.Proofs.Ytbhgaaendekghaa
open Go.RowKit

set_option maxRecDepth 100000 in
set_option maxHeartbeats 4000000 in
theorem Ref.effect_any (r : FR) (w : World) (hr : FR.ok w w.heap.size r) (hdm : r.x.msg.data.length ≤ 134217728) (hdd : r.x.data.length ≤ 134217728) :
    Calls Try.prog 74 #[.agg r.cells.toArray] w (BytesPost Nil (encF r.x) w) := by
  obtain ⟨i0, hi0, hz0, hz1, hz2⟩ := info_parts byte_info
  have hn := hr.fits.nums
  have hel := encL_len hn
  have hlm := encM_len hr.fits.msg (by omega)
  have hmf := hr.fits.msg
  have hbm := hr.bm
  have hbd := hr.bd
  obtain ⟨Am, cm, Ad, cd, ⟨kind, a0, a1, a2, a3, m, data⟩⟩ := r
  clear hr
  unfold Ef.nums at hn hel
  dsimp only at hn hel hlm hmf hbm hbd hdm hdd
  unfold encF Ef.nums
  dsimp only
  obtain ⟨E1, hE1⟩ : ∃ E1, encL [kind, a0, a1, a2, a3] = E1 := ⟨_, rfl⟩
  obtain ⟨E2, hE2⟩ : ∃ E2, encM m = E2 := ⟨_, rfl⟩
  obtain ⟨E3, hE3⟩ : ∃ E3, encI data.length ++ data = E3 := ⟨_, rfl⟩
  have l3 : E3.length ≤ 134217728 + 10 := by
    rw [← hE3, List.length_append]
    have := encI_len (data.length : Int) (zig_lt (by omega))
    omega
  rw [hE1, hE2, hE3, ← List.append_assoc]
  rw [hE1] at hel
  rw [hE2] at hlm
  obtain ⟨E4, hE4⟩ : ∃ E4, E1 ++ E2 = E4 := ⟨_, rfl⟩
  obtain ⟨E5, hE5⟩ : ∃ E5, E4 ++ E3 = E5 := ⟨_, rfl⟩
  rw [hE4, hE5]
  have l1 : E1.length ≤ 50 := by simpa using hel
  have l2 : E2.length ≤ 134217728 + 90 := by omega
  have hyl : E1.length + E2.length = E4.length := by rw [← hE4, List.length_append]
  have hyc : bcells E1 ++ bcells E2 = bcells E4 := by rw [← hE4, bcells_append]
  have hyl2 : E4.length + E3.length = E5.length := by rw [← hE5, List.length_append]
  have hyc2 : bcells E4 ++ bcells E3 = bcells E5 := by rw [← hE5, bcells_append]
  have hc1 : ∀ u g, Only Nil w u → Blk u g 3 #[Value.int .i64 kind, .int .i64 a0, .int .i64 a1, .int .i64 a2, .int .i64 a3] → Calls Try.prog 71 #[.slice (some ⟨g, 0, none⟩) 5 5] u fun x u' => ∃ A1 c1, x = .returned (.slice A1 E1.length c1) ∧ u'.ownsRow w.heap.size 5 1 (.slice A1 E1.length c1) E1.length (bcells E1) ∧ Only Nil u u' := fun u g hO hg => by
    refine (Ref.plain_any (some ⟨g, 0, none⟩) 5 [kind, a0, a1, a2, a3] u ⟨rfl, fun _ => ⟨g, 0, rfl, hg.lt, fun j v hj => ?_⟩⟩ (by simp) hn).mono ?_
    · rw [Nat.zero_add, hg.cell, ← hj]
      simp
    · rw [hE1]
      rintro x u' ⟨A1, c1, rfl, _, hown, hO2⟩
      exact ⟨A1, c1, rfl, own_base hown hO.size, hO2⟩
  have hc2 : ∀ u, Only Nil w u → Calls Try.prog 45 #[.agg (mcells Am cm m).toArray] u fun x u' => ∃ A2 c2, x = .returned (.slice A2 E2.length c2) ∧ Rd u' u'.heap.size 1 A2 E2.length (bcells E2) ∧ Only Nil u u' := fun u hO => by
    refine (Ref.msg_any Am cm m u hmf ((hbm.onlyNil hO (Nat.le_refl _)).up hO.size) (by omega)).mono ?_
    rw [hE2]
    rintro x u' ⟨A2, c2, rfl, _, hown, hO2⟩
    exact ⟨A2, c2, rfl, Rd.of_own hown, hO2⟩
  have hc3 : ∀ u, Only Nil w u → Calls Try.prog 72 #[.slice Ad data.length cd] u fun x u' => ∃ A2 c2, x = .returned (.slice A2 E3.length c2) ∧ Rd u' u'.heap.size 1 A2 E3.length (bcells E3) ∧ Only Nil u u' := fun u hO => by
    refine (Ref.bytes_any Ad cd data u ((hbd.onlyNil hO (Nat.le_refl _)).up hO.size) (by omega)).mono ?_
    rw [hE3]
    rintro x u' ⟨A2, c2, rfl, _, hown, hO2⟩
    exact ⟨A2, c2, rfl, Rd.of_own hown, hO2⟩
  obtain ⟨src, dst, mk, seq, b0, b1, b2, b3, md⟩ := m
  unfold mcells at hc2
  dsimp only at hc2
  obtain ⟨X, hX⟩ : ∃ X, md.length = X := ⟨_, rfl⟩
  obtain ⟨Y, hY⟩ : ∃ Y, data.length = Y := ⟨_, rfl⟩
  obtain ⟨CS, hCS⟩ : ∃ CS : Array Value, CS = #[Value.int .i64 kind, .int .i64 a0, .int .i64 a1, .int .i64 a2, .int .i64 a3, .int .i64 src, .int .i64 dst, .int .i64 mk, .int .i64 seq, .int .i64 b0, .int .i64 b1, .int .i64 b2, .int .i64 b3, .slice Am X cm, .slice Ad Y cd] := ⟨_, rfl⟩
  obtain ⟨L1, hL1⟩ : ∃ L1, E1.length = L1 := ⟨_, rfl⟩
  obtain ⟨L2, hL2⟩ : ∃ L2, E2.length = L2 := ⟨_, rfl⟩
  obtain ⟨L3, hL3⟩ : ∃ L3, E3.length = L3 := ⟨_, rfl⟩
  rw [hL1] at hc1 hyl l1
  rw [hL2] at hc2 hyl l2
  rw [hL3] at hc3 hyl2 l3
  rw [hX] at hc2
  rw [hY] at hc3
  have H1 := Lib.hid hc1
  have H2 := Lib.hid hc2
  have H3 := Lib.hid hc3
  have HCS := Lib.hid hCS
  have HYL := Lib.hid hyl
  have HYC := Lib.hid hyc
  have HYL2 := Lib.hid hyl2
  have HYC2 := Lib.hid hyc2
  have HLL := Lib.hid (And.intro l1 (And.intro l2 l3))
  unfold FR.cells mcells
  simp only [List.cons_append, List.nil_append]
  rw [hX, hY]
  clear hc1 hc2 hc3 hE1 hE2 hE3 hE4 hE5 l1 l2 l3 hL1 hL2 hL3 hX hY hn hCS hyl hyc hyl2 hyc2 hel hlm hmf hbm hbd hdm hdd
  go_enter Try.func74, Try.ntmps74
  go_upto_region 0 with fail
  go_cut [1, 2] (fun p v wd => v = .slice none 0 0 ∧ ∃ bx, p = .pointer (some ⟨bx, 0, none⟩) ∧ Blk wd bx 58 CS ∧ Only Nil w wd)
  case first =>
    go_wp2_with fail
    go_meet
    case rel => exact ⟨rfl, _, rfl, by rw [HCS.out]; exact Blk.new _ _ _, by (repeat' (first | with_reducible exact Only.refl _ _ | with_reducible refine Only.setCell ?_ (Or.inl ?_) _ | with_reducible refine Only.drewN ?_ _ | with_reducible refine Only.drew ?_ | with_reducible refine Only.alloc ?_ _ | (fail)))⟩
  case rest =>
  obtain ⟨rfl, bx, rfl, hb, hO⟩ := hcut
  have hks : ∀ u, Only Nil wc u → ∀ i, u.cell? ⟨bx, i, none⟩ = #[Value.int .i64 kind, .int .i64 a0, .int .i64 a1, .int .i64 a2, .int .i64 a3, .int .i64 src, .int .i64 dst, .int .i64 mk, .int .i64 seq, .int .i64 b0, .int .i64 b1, .int .i64 b2, .int .i64 b3, .slice Am X cm, .slice Ad Y cd][i]? := fun u hO i => by rw [(hb.onlyNil hO).cell, HCS.out]
  have HKS := Lib.hid hks
  have HO := Lib.hid hO
  have HB := Lib.hid hb
  have kd := hks wc.drew (Only.refl _ _).drew
  have kd0 := hks wc (Only.refl _ _)
  have hs4 : ∀ (u w4 : World) (A1 : Option Addr) (c1 : Nat), Only Nil wc u → u.ownsRow w.heap.size 5 1 (.slice A1 L1 c1) L1 (bcells E1) → u.grownBy w4 (Value.slice A1 L1 c1).ownBlock → ∀ i, w4.cell? ⟨bx, i, none⟩ = #[Value.int .i64 kind, .int .i64 a0, .int .i64 a1, .int .i64 a2, .int .i64 a3, .int .i64 src, .int .i64 dst, .int .i64 mk, .int .i64 seq, .int .i64 b0, .int .i64 b1, .int .i64 b2, .int .i64 b3, .slice Am X cm, .slice Ad Y cd][i]? := fun u w4 A1 c1 hu ho hg i => by
    have h1 := (hb.onlyNil hu).grown hg (fun e => own_blk_ne ho (hb.onlyNil hu) (by decide) e.symm)
    rw [h1.cell, HCS.out]
  have HS4 := Lib.hid hs4
  have m63 : L1 + L2 ≤ maxLen := by have := HLL.out; unfold maxLen; omega
  have mby : (L1 + L2) * 1 ≤ 140737488355328 := by have := HLL.out; omega
  have M63 := Lib.hid m63
  have MBY := Lib.hid mby
  have HOA := Lib.hid (((Only.refl Nil wc).alloc (.cells #[Value.int .i64 kind, .int .i64 a0, .int .i64 a1, .int .i64 a2, .int .i64 a3] 3)).drew)
  have HBA := Lib.hid ((Blk.new wc 3 #[Value.int .i64 kind, .int .i64 a0, .int .i64 a1, .int .i64 a2, .int .i64 a3]).drew)
  clear hks hb hO hs4 m63 mby
  go_upto_region 1 with fail
  go_region_held3 (fun w' => ∀ i, w'.cell? ⟨bx, i, none⟩ = #[Value.int .i64 kind, .int .i64 a0, .int .i64 a1, .int .i64 a2, .int .i64 a3, .int .i64 src, .int .i64 dst, .int .i64 mk, .int .i64 seq, .int .i64 b0, .int .i64 b1, .int .i64 b2, .int .i64 b3, .slice Am X cm, .slice Ad Y cd][i]?) (first | with_reducible assumption | exact HKS.out _ HOA.out | go_keep)
    (first
      | (go_simp; go_at_call 71; have hh := H1.out _ _ (HO.out.thenNil HOA.out) HBA.out; refine hh.mono ?_; rintro x w1 ⟨A1, c1, rfl, hown1, hOz⟩; have hO1 := HOA.out.thenNil hOz; have hs1 := HKS.out w1 hO1)
      | (go_simp; go_at_call 45; refine (H2.out _ (HO.out.thenNil hO1)).mono ?_; rintro x w2 ⟨A2, c2, rfl, hrd2, hO2⟩; have hs2 := HKS.out w2 (hO1.thenNil hO2))
      | (refine step_append_rd _ (by rfl) (.tmp 19) (.tmp 22) _ (by rfl) w.heap.size 5 i0 (.int .u8 0) 1 1 Try.underlying22 hi0 hz0 hz1 hz2 rfl Nat.zero_lt_one (.slice A1 L1 c1) L1 (bcells E1) (by simp [Act.eval]) (own_onlyNil hown1 hO2) w2.heap.size A2 L2 c2 (bcells E2) (by simp [Act.eval]) hrd2 (bcells_one E2) E4.length HYL.out _ HYC.out M63.out MBY.out (HO.out.thenNil (hO1.thenNil hO2)).size ?_; intro A4 c4 w4 hc4 hown4 hgr4 hat4; have hO4 := (HO.out.thenNil (hO1.thenNil hO2)).grown hgr4 (fun q hq => .inr (ownBlock_ge (own_onlyNil hown1 hO2) hq)); have hs4 := HS4.out _ _ _ _ (hO1.thenNil hO2) (own_onlyNil hown1 hO2) hgr4)
      | fail)
  all_goals
    have HO4 := Lib.hid hO4
    have HW4 := Lib.hid hown4
    have HC4 := Lib.hid hc4
    clear hown1 hO1 hs1 hrd2 hO2 hs2 hgr4 hat4 hO4 hown4 hc4 hOz
    go_wp2_with fail
    refine (H3.out _ HO4.out).mono ?_
    rintro x w5 ⟨A5, c5, rfl, hrd5, hO5⟩
    have hown5 := own_onlyNil HW4.out hO5
    have HO5 := Lib.hid (HO4.out.thenNil hO5)
    have m63 : E4.length + L3 ≤ maxLen := by have := HLL.out; have := HYL.out; unfold maxLen; omega
    have mby : (E4.length + L3) * 1 ≤ 140737488355328 := by have := HLL.out; have := HYL.out; omega
    have HW5 := Lib.hid hown5
    have HR5 := Lib.hid hrd5
    have M63 := Lib.hid m63
    have MBY := Lib.hid mby
    clear hown5 hrd5 hO5 m63 mby hs4
    go_wp2_with (at_builtin; go_must (refine wpList_append_rd _ rfl (.tmp 24) (.tmp 27) _ rfl w.heap.size 5 i0 (.int .u8 0) 1 1 Try.underlying22 hi0 hz0 hz1 hz2 rfl (by omega) (.slice A4 E4.length c4) E4.length (bcells E4) rfl HW5.out w5.heap.size A5 L3 c5 (bcells E3) rfl HR5.out (bcells_one E3) E5.length HYL2.out _ HYC2.out M63.out MBY.out HO5.out.size ?_))
    intro A6 c6 w6 hc6 hown6 hgr6 hat6
    have hO6 := HO5.out.grown hgr6 (fun q hq => .inr (ownBlock_ge HW5.out hq))
    have HF : Hid (BytesPost Nil E5 w (.returned (.slice A6 E5.length c6)) w6) := Lib.hid ⟨A6, c6, rfl, hc6, hown6, hO6⟩
    clear hc6 hown6 hgr6 hat6 hO6
    go_wp2_with fail
    go_ret
    exact HF.out

end Go.Proofs.Ytbhgaaendekghaa
