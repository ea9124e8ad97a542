/-
  Walks of ratoonref54.next, for kinds of entries.
  Conditions: the states lie in a block that is known; the entry can be read.
-/
import Derived.Test.YtdejceojhkdjnaaRpR2
namespace Go.Proofs.Ytdejceojhkdjnaa
open Go.RowKit

set_option maxRecDepth 100000 in
set_option maxHeartbeats 2000000 in
theorem next_k3 (A : Option Addr) (c : Nat) (k : Nat) (call a0 a1 a2 : Int) (rn : Nat) (data : List UInt8) {g cs : Nat} {s : List PS} {t : PS} {u : PS} (w : World) (hv : vE ⟨3, k, call, a0, a1, a2, (rn : Int), data⟩ = true) (h : SR w g s) (hcs : CallsOk s) (ht : s[k]? = some t) (hk : k < 32) (hu : s[rn]? = some u) (hr : rn < 32) :
    Calls Try.prog 26 #[.slice (some ⟨g, 0, none⟩) 32 cs, .agg #[.int .i64 3, .int .i64 k, .int .i64 call, .int .i64 a0, .int .i64 a1, .int .i64 a2, .int .i64 rn, .slice A data.length c]] w (NextPost s ⟨3, k, call, a0, a1, a2, (rn : Int), data⟩ w) := by
  obtain ⟨j0, hj0, hy0, hy1, hy2⟩ := info_parts rstate_info
  have hz := rstate_zero
  have hva := Ref.valid_any ⟨A, c, ⟨3, k, call, a0, a1, a2, (rn : Int), data⟩⟩
  rw [hv] at hva
  unfold ER.cells at hva
  dsimp only at hva
  obtain ⟨E, hE⟩ : ∃ E, entE s ⟨3, k, call, a0, a1, a2, (rn : Int), data⟩ = E := ⟨_, rfl⟩
  have hE1 : E = if (stepS s ⟨3, k, call, a0, a1, a2, (rn : Int), data⟩).2 then 0 else 7 := by rw [← hE]; unfold entE; rw [if_pos hv]
  have hS : entS s ⟨3, k, call, a0, a1, a2, (rn : Int), data⟩ = (stepS s ⟨3, k, call, a0, a1, a2, (rn : Int), data⟩).1 := by unfold entS; rw [if_pos hv]
  have hst : stepS s ⟨3, k, call, a0, a1, a2, (rn : Int), data⟩ = (s.set k ⟨true, false, false, 0⟩, !t.there && (u.there && (!u.closed && (u.calling && u.call == 1)))) := by
    unfold stepS inS
    dsimp only
    rw [Int.toNat_natCast, getD_of ht, Int.toNat_natCast, getD_of hu]
    simp [zPS]
  rw [hst] at hE1 hS
  try dsimp only at hE1 hS
  unfold NextPost
  rw [hE, hS]
  have hk' : (k : Int) < 32 := by omega
  have hr' : (rn : Int) < 32 := by omega
  have hcall : True := trivial
  have hct := hcs t (List.mem_of_getElem? ht)
  have hcu := hcs u (List.mem_of_getElem? hu)
  obtain ⟨q, hq⟩ : ∃ q, (u.call == 1) = q := ⟨_, rfl⟩
  rw [hq] at hE1
  have HVA := Lib.hid hva
  have HSB := Lib.hid h
  have HT := Lib.hid ht
  have HK := Lib.hid hk
  have HU := Lib.hid hu
  have HE := Lib.hid hE1
  have HCALL := Lib.hid hcall
  have HCT := Lib.hid hct
  have HCU := Lib.hid hcu
  skip
  clear hva h ht hv hE hS hst hk hcs hct hcall hE1 hu hr hcu
  obtain ⟨th, ca, cl, n⟩ := t
  obtain ⟨uh, ua, ul, un⟩ := u
  try dsimp only
  have hp0 : g < w.heap.size := HSB.out.lt
  have HP0 := Lib.hid hp0
  clear hp0
  obtain ⟨rcv, hrc⟩ : ∃ rcv, PS.rcall ⟨th, ca, cl, n⟩ = rcv := ⟨_, rfl⟩
  obtain ⟨ucv, huc⟩ : ∃ ucv, PS.rcall ⟨uh, ua, ul, un⟩ = ucv := ⟨_, rfl⟩
  have HRC := Lib.hid hrc
  have HUC := Lib.hid huc
  clear hrc huc
  go_enter Try.func26, Try.ntmps26
  go_wp2_with fail
  refine (HVA.out _).mono ?_
  rintro x w1 ⟨rfl, hO1⟩
  have hO01 : Only Nil w w1 := ((Only.refl _ _).alloc _).thenNil hO1
  have HBX := Lib.hid ((Blk.new w 42 _).onlyNil hO1)
  have HO1 := Lib.hid hO01
  have HS1 := Lib.hid (HSB.out.onlyNil hO01)
  clear hO1 hO01
  go_wp2_with (at_builtin; go_must (refine wpList_append_rd _ rfl (.tmp 15) (.tmp 16) _ rfl w1.heap.size 60 j0 _ 3 16 Try.underlying53 hj0 hy0 hy1 hy2 rfl (by omega) (.slice (some ⟨w1.heap.size, 0, none⟩) 0 0) 0 [] rfl ?qown w1.heap.size (some ⟨g, 0, none⟩) 32 cs (s.flatMap PS.rc) rfl ?qrd (flat_one PS.rc_one s) 32 rfl _ rfl (by unfold maxLen; omega) (by omega) ?qbase ?_))
  case qown => exact World.ownsRow_lit w1 #[] 0 (Nat.le_refl _) (by unfold maxLen; omega) rfl
  case qrd => exact Rd.onlyNil HS1.out.rd ((Only.refl _ _).alloc _) (Nat.le_refl _)
  case qbase => simp
  intro A4 c4 w4 hc4 hown4 hgr4 hat4
  have hO4 : Only Nil w1 w4 := ((Only.refl _ _).alloc _).grown hgr4 (fun z hz => .inr (Nat.le_of_eq (by simpa [Value.ownBlock] using hz)))
  obtain ⟨g4, rfl, hg4, hS4⟩ := SR.of_own (s := s) (by simpa using hown4) HSB.out.len
  have HO4 := Lib.hid hO4
  have HG4 := Lib.hid (Nat.le_trans HO1.out.size hg4)
  have HS4 := Lib.hid hS4
  have HBE := Lib.hid (HBX.out.onlyNil hO4)
  have HSG := Lib.hid (HS1.out.onlyNil hO4)
  obtain ⟨c0, c1, c2⟩ := HSG.out.cell HT.out
  rw [HRC.out] at c2
  dsimp only at c0 c1
  have k0 : ∀ i, w4.cell? ⟨w.heap.size, i, none⟩ = #[Value.int .i64 3, .int .i64 k, .int .i64 call, .int .i64 a0, .int .i64 a1, .int .i64 a2, .int .i64 rn, .slice A data.length c][i]? := fun i => HBE.out.cell i
  clear hO4 hg4 hS4 hown4 hgr4 hat4 hc4
  go_upto_region 4 with fail
  go_cut [7] (fun p wd => ∃ gb, p = .pointer (some ⟨gb, 0, none⟩) ∧ Blk wd gb 60 #[.bool th, .bool cl, .int .i64 rcv] ∧ Only Nil w4 wd)
  case first =>
    go_wp2_with fail
    go_meet
    case rel => exact ⟨_, rfl, Blk.new _ _ _, by (repeat' (first | with_reducible exact Only.refl _ _ | with_reducible refine Only.setCell ?_ (Or.inl ?_) _ | with_reducible refine Only.drewN ?_ _ | with_reducible refine Only.drew ?_ | with_reducible refine Only.alloc ?_ _ | (fail)))⟩
  case rest =>
  obtain ⟨gb, rfl, hb, hOb⟩ := hcut
  have kb : ∀ i, wc.cell? ⟨gb, i, none⟩ = #[Value.bool th, .bool cl, .int .i64 rcv][i]? := fun i => hb.cell i
  clear k0 c0 c1 c2
  have k0 : ∀ i, wc.cell? ⟨w.heap.size, i, none⟩ = #[Value.int .i64 3, .int .i64 k, .int .i64 call, .int .i64 a0, .int .i64 a1, .int .i64 a2, .int .i64 rn, .slice A data.length c][i]? := fun i => (HBE.out.onlyNil hOb).cell i
  have hS5 := HS4.out.onlyNil hOb
  obtain ⟨d0, d1, d2⟩ := hS5.cell HT.out
  dsimp only at d0 d1 d2
  have f4 : ∀ i, wc.frozen? ⟨g4, i, none⟩ = false := fun i => hS5.frozen i
  have HS5 := Lib.hid hS5
  have HOC := Lib.hid (((HO1.out.thenNil HO4.out)).thenNil hOb)
  have hb5 := hb
  have HBE5 := Lib.hid (HBE.out.onlyNil hOb)
  obtain ⟨v0, v1, v2⟩ := ((HS1.out.onlyNil HO4.out).onlyNil hOb).cell HU.out
  rw [HUC.out] at v2
  dsimp only at v0 v1
  clear hb hOb hS5
  have HL : Hid (k < s.length) := Lib.hid (by rw [HSB.out.len]; exact HK.out)
  go_upto_region 5 with fail
  go_cut [8] (fun v wd => v = .bool (th && !cl) ∧ wd = wc)
  case first =>
    cases th <;> cases cl
    all_goals go_wp2_with fail
    all_goals (go_meet <;> exact ⟨rfl, rfl⟩)
  case rest =>
  obtain ⟨rfl, hwc⟩ := hcut
  subst hwc
  obtain ⟨w5, rfl⟩ : ∃ w5, w5 = wc := ⟨_, rfl⟩
  have KB := Lib.hid hb5
  go_upto_region 15 with fail
  go_cut [10] (fun p wd => ∃ gc, p = .pointer (some ⟨gc, 0, none⟩) ∧ Blk wd gc 60 #[.bool uh, .bool ul, .int .i64 ucv] ∧ Only Nil w5 wd)
  case first =>
    go_wp2_with fail
    go_meet
    case rel => exact ⟨_, rfl, Blk.new _ _ _, by (repeat' (first | with_reducible exact Only.refl _ _ | with_reducible refine Only.setCell ?_ (Or.inl ?_) _ | with_reducible refine Only.drewN ?_ _ | with_reducible refine Only.drew ?_ | with_reducible refine Only.alloc ?_ _ | (fail)))⟩
  case rest =>
  obtain ⟨gc, rfl, hcc, hOc⟩ := hcut
  clear kb k0 d0 d1 d2 v0 v1 v2 f4
  have kc : ∀ i, wc.cell? ⟨gc, i, none⟩ = #[Value.bool uh, .bool ul, .int .i64 ucv][i]? := fun i => hcc.cell i
  have kb : ∀ i, wc.cell? ⟨gb, i, none⟩ = #[Value.bool th, .bool cl, .int .i64 rcv][i]? := fun i => (KB.out.onlyNil hOc).cell i
  have k0 : ∀ i, wc.cell? ⟨w.heap.size, i, none⟩ = #[Value.int .i64 3, .int .i64 k, .int .i64 call, .int .i64 a0, .int .i64 a1, .int .i64 a2, .int .i64 rn, .slice A data.length c][i]? := fun i => (HBE5.out.onlyNil hOc).cell i
  have hS6 := HS5.out.onlyNil hOc
  obtain ⟨d0, d1, d2⟩ := hS6.cell HT.out
  dsimp only at d0 d1 d2
  have f4 : ∀ i, wc.frozen? ⟨g4, i, none⟩ = false := fun i => hS6.frozen i
  have HS5 := Lib.hid hS6
  have HOC := Lib.hid (HOC.out.thenNil hOc)
  clear hcc hOc hS6
  cases ua
  · obtain rfl : ucv = -1 := by rw [← HUC.out]; rfl
    cases th <;> cases uh <;> cases ul
    all_goals go_wp2_with fail
    all_goals
      go_ret2
      refine ⟨_, by rw [HE.out]; rfl, fun h0 => ?_, HOC.out.trans (S' := fun x => w.heap.size ≤ x) (by (repeat' (first | with_reducible exact Only.refl _ _ | with_reducible refine Only.setCell ?_ (Or.inl ?_) _ | with_reducible refine Only.drewN ?_ _ | with_reducible refine Only.drew ?_ | with_reducible refine Only.alloc ?_ _ | (exact HG4.out)))) (fun x hx => .inr hx)⟩
      first
      | (exfalso; rw [HE.out] at h0; simp at h0; done)
      | exact ⟨g4, c4, rfl, HG4.out, SR.step (SR.step (SR.step (SR.start HS5.out HT.out) HL.out 0 (by omega) _ ⟨true, ca, _, n⟩ rfl) HL.out 1 (by omega) _ ⟨true, ca, false, n⟩ rfl) HL.out 2 (by omega) _ ⟨true, false, false, 0⟩ rfl⟩
  · obtain rfl : ucv = un := by rw [← HUC.out]; rfl
    cases th <;> cases uh <;> cases ul <;> cases q
    all_goals go_wp2_with fail
    all_goals
      go_ret2
      refine ⟨_, by rw [HE.out]; rfl, fun h0 => ?_, HOC.out.trans (S' := fun x => w.heap.size ≤ x) (by (repeat' (first | with_reducible exact Only.refl _ _ | with_reducible refine Only.setCell ?_ (Or.inl ?_) _ | with_reducible refine Only.drewN ?_ _ | with_reducible refine Only.drew ?_ | with_reducible refine Only.alloc ?_ _ | (exact HG4.out)))) (fun x hx => .inr hx)⟩
      first
      | (exfalso; rw [HE.out] at h0; simp at h0; done)
      | exact ⟨g4, c4, rfl, HG4.out, SR.step (SR.step (SR.step (SR.start HS5.out HT.out) HL.out 0 (by omega) _ ⟨true, ca, _, n⟩ rfl) HL.out 1 (by omega) _ ⟨true, ca, false, n⟩ rfl) HL.out 2 (by omega) _ ⟨true, false, false, 0⟩ rfl⟩


end Go.Proofs.Ytdejceojhkdjnaa
