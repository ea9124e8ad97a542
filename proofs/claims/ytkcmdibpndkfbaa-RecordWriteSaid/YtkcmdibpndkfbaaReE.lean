/-
  ratoonref01.Entry: the encoding of an entry.
  Conditions: the entry can be read.
-/
import Derived.Test.YtkcmdibpndkfbaaEqP
import Derived.Test.YtkcmdibpndkfbaaRfPl
namespace Go.Proofs.Ytkcmdibpndkfbaa
open Go.RowKit

set_option maxRecDepth 100000 in
set_option maxHeartbeats 2000000 in
theorem Ref.entry_any (r : ER) (w : World) (hr : ER.ok w w.heap.size r) (hd : r.x.data.length ≤ 274877906944) :
    Calls Try.prog 23 #[.agg r.cells.toArray] w (BytesPost Nil (encE r.x) w) := by
  obtain ⟨i0, hi0, hz0, hz1, hz2⟩ := info_parts byte_info
  have hn := hr.fits.nums
  have hel := encL_len hn
  have hm := hr.data
  rw [encE_eq]
  obtain ⟨Am, cm, ⟨kind, task, call, a0, a1, a2, result, data⟩⟩ := r
  clear hr
  unfold En.nums at *
  dsimp only at *
  obtain ⟨E1, hE1⟩ : ∃ E1, encL [kind, task, call, a0, a1, a2, result] = E1 := ⟨_, rfl⟩
  obtain ⟨E2, hE2⟩ : ∃ E2, encI data.length ++ data = E2 := ⟨_, rfl⟩
  obtain ⟨E3, hE3⟩ : ∃ E3, E1 ++ E2 = E3 := ⟨_, rfl⟩
  have l2 : E2.length ≤ 274877906944 + 10 := by
    rw [← hE2, List.length_append]
    have := encI_len (data.length : Int) (zig_lt (by omega))
    omega
  rw [hE1, hE2, hE3]
  rw [hE1] at hel
  have l1 : E1.length ≤ 70 := by simpa using hel
  have hyl : E1.length + E2.length = E3.length := by rw [← hE3, List.length_append]
  have hyc : bcells E1 ++ bcells E2 = bcells E3 := by rw [← hE3, bcells_append]
  obtain ⟨CS, hCS⟩ : ∃ CS : Array Value, CS = #[Value.int .i64 kind, .int .i64 task, .int .i64 call, .int .i64 a0, .int .i64 a1, .int .i64 a2, .int .i64 result, .slice Am data.length cm] := ⟨_, rfl⟩
  have hc1 : ∀ u g, Only Nil w u → Blk u g 3 #[Value.int .i64 kind, .int .i64 task, .int .i64 call, .int .i64 a0, .int .i64 a1, .int .i64 a2, .int .i64 result] → Calls Try.prog 38 #[.slice (some ⟨g, 0, none⟩) 7 7] u fun x u' => ∃ A1 c1, x = .returned (.slice A1 E1.length c1) ∧ u'.ownsRow w.heap.size 5 1 (.slice A1 E1.length c1) E1.length (bcells E1) ∧ Only Nil u u' := fun u g hO hg => by
    refine (Ref.plain_any (some ⟨g, 0, none⟩) 7 [kind, task, call, a0, a1, a2, result] u ⟨rfl, fun _ => ⟨g, 0, rfl, hg.lt, fun j v hj => ?_⟩⟩ (by simp) hn).mono ?_
    · rw [Nat.zero_add, hg.cell, ← hj]
      simp
    · rw [hE1]
      rintro x u' ⟨A1, c1, rfl, _, hown, hO2⟩
      exact ⟨A1, c1, rfl, own_base hown hO.size, hO2⟩
  have hc2 : ∀ u, Only Nil w u → Calls Try.prog 39 #[.slice Am data.length cm] u fun x u' => ∃ A2 c2, x = .returned (.slice A2 E2.length c2) ∧ Rd u' u'.heap.size 1 A2 E2.length (bcells E2) ∧ Only Nil u u' := fun u hO => by
    refine (Ref.bytes_any Am cm data u ((hm.onlyNil hO (Nat.le_refl _)).up hO.size) (by omega)).mono ?_
    rw [hE2]
    rintro x u' ⟨A2, c2, rfl, _, hown, hO2⟩
    exact ⟨A2, c2, rfl, Rd.of_own hown, hO2⟩
  obtain ⟨D, hD⟩ : ∃ D, data.length = D := ⟨_, rfl⟩
  obtain ⟨L1, hL1⟩ : ∃ L1, E1.length = L1 := ⟨_, rfl⟩
  obtain ⟨L2, hL2⟩ : ∃ L2, E2.length = L2 := ⟨_, rfl⟩
  rw [hL1] at hc1 hyl l1
  rw [hL2] at hc2 hyl l2
  rw [hD] at hc2 hCS
  have H1 := Lib.hid hc1
  have H2 := Lib.hid hc2
  have HCS := Lib.hid hCS
  have HYL := Lib.hid hyl
  have HYC := Lib.hid hyc
  have HLL := Lib.hid (And.intro l1 l2)
  unfold ER.cells
  dsimp only
  rw [hD]
  clear hc1 hc2 hE1 hE2 hE3 l1 l2 hL1 hL2 hm hd hn hD hCS hyl hyc hel
  go_enter Try.func23, Try.ntmps23
  go_upto_region 0 with fail
  go_cut [1, 2] (fun p v wd => v = .slice none 0 0 ∧ ∃ bx, p = .pointer (some ⟨bx, 0, none⟩) ∧ Blk wd bx 39 CS ∧ Only Nil w wd)
  case first =>
    go_wp2_with fail
    go_meet
    case rel => exact ⟨rfl, _, rfl, by rw [HCS.out]; exact Blk.new _ _ _, by (repeat' (first | with_reducible exact Only.refl _ _ | with_reducible refine Only.setCell ?_ (Or.inl ?_) _ | with_reducible refine Only.drewN ?_ _ | with_reducible refine Only.drew ?_ | with_reducible refine Only.alloc ?_ _ | (fail)))⟩
  case rest =>
  obtain ⟨rfl, bx, rfl, hb, hO⟩ := hcut
  have hks : ∀ u, Only Nil wc u → ∀ i, u.cell? ⟨bx, i, none⟩ = #[Value.int .i64 kind, .int .i64 task, .int .i64 call, .int .i64 a0, .int .i64 a1, .int .i64 a2, .int .i64 result, .slice Am D cm][i]? := fun u hO i => by rw [(hb.onlyNil hO).cell, HCS.out]
  have HKS := Lib.hid hks
  have HO := Lib.hid hO
  have HB := Lib.hid hb
  have kd := hks wc.drew (Only.refl _ _).drew
  have kd0 := hks wc (Only.refl _ _)
  have hs4 : ∀ (u w4 : World) (A1 : Option Addr) (c1 : Nat), Only Nil wc u → u.ownsRow w.heap.size 5 1 (.slice A1 L1 c1) L1 (bcells E1) → u.grownBy w4 (Value.slice A1 L1 c1).ownBlock → ∀ i, w4.cell? ⟨bx, i, none⟩ = #[Value.int .i64 kind, .int .i64 task, .int .i64 call, .int .i64 a0, .int .i64 a1, .int .i64 a2, .int .i64 result, .slice Am D cm][i]? := fun u w4 A1 c1 hu ho hg i => by
    have h1 := (hb.onlyNil hu).grown hg (fun e => own_blk_ne ho (hb.onlyNil hu) (by decide) e.symm)
    rw [h1.cell, HCS.out]
  have HS4 := Lib.hid hs4
  have m63 : L1 + L2 ≤ maxLen := by have := HLL.out; unfold maxLen; omega
  have mby : (L1 + L2) * 1 ≤ 140737488355328 := by have := HLL.out; omega
  have M63 := Lib.hid m63
  have MBY := Lib.hid mby
  have HOA := Lib.hid (((Only.refl Nil wc).alloc (.cells #[Value.int .i64 kind, .int .i64 task, .int .i64 call, .int .i64 a0, .int .i64 a1, .int .i64 a2, .int .i64 result] 3)).drew)
  have HBA := Lib.hid ((Blk.new wc 3 #[Value.int .i64 kind, .int .i64 task, .int .i64 call, .int .i64 a0, .int .i64 a1, .int .i64 a2, .int .i64 result]).drew)
  clear hks hb hO hs4 m63 mby
  go_upto_region 1 with fail
  go_region_held3 (fun w' => ∀ i, w'.cell? ⟨bx, i, none⟩ = #[Value.int .i64 kind, .int .i64 task, .int .i64 call, .int .i64 a0, .int .i64 a1, .int .i64 a2, .int .i64 result, .slice Am D cm][i]?) (first | with_reducible assumption | exact HKS.out _ HOA.out | go_keep)
    (first
      | (go_simp; go_at_call 38; have hh := H1.out _ _ (HO.out.thenNil HOA.out) HBA.out; refine hh.mono ?_; rintro x w1 ⟨A1, c1, rfl, hown1, hOz⟩; have hO1 := HOA.out.thenNil hOz; have hs1 := HKS.out w1 hO1)
      | (go_simp; go_at_call 39; refine (H2.out _ (HO.out.thenNil hO1)).mono ?_; rintro x w2 ⟨A2, c2, rfl, hrd2, hO2⟩; have hs2 := HKS.out w2 (hO1.thenNil hO2))
      | (refine step_append_rd _ (by rfl) (.tmp 21) (.tmp 24) _ (by rfl) w.heap.size 5 i0 (.int .u8 0) 1 1 Try.underlying26 hi0 hz0 hz1 hz2 rfl Nat.zero_lt_one (.slice A1 L1 c1) L1 (bcells E1) (by simp [Act.eval]) (own_onlyNil hown1 hO2) w2.heap.size A2 L2 c2 (bcells E2) (by simp [Act.eval]) hrd2 (bcells_one E2) E3.length HYL.out _ HYC.out M63.out MBY.out (HO.out.thenNil (hO1.thenNil hO2)).size ?_; intro A4 c4 w4 hc4 hown4 hgr4 hat4; have hO4 := (HO.out.thenNil (hO1.thenNil hO2)).grown hgr4 (fun q hq => .inr (ownBlock_ge (own_onlyNil hown1 hO2) hq)); have hs4 := HS4.out _ _ _ _ (hO1.thenNil hO2) (own_onlyNil hown1 hO2) hgr4)
      | fail)
  all_goals
    go_wp2_with fail
    go_ret
    exact ⟨A4, c4, rfl, hc4, hown4, hO4⟩

end Go.Proofs.Ytkcmdibpndkfbaa
