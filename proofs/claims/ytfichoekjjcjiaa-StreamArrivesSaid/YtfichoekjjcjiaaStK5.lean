/-
  link.do: Send.
  Conditions: the link lies in memory as 'LK' says.
-/
import Derived.Test.YtfichoekjjcjiaaStKA
import Derived.Test.YtfichoekjjcjiaaStK2
import Derived.BigRegion
import Derived.Deep.Cut
import Derived.Deep.DeepCutAuto
namespace Go.Proofs.Ytfichoekjjcjiaa
open Go.RowKit

set_option maxRecDepth 100000 in
set_option maxHeartbeats 8000000 in
theorem do_send0 (kd sd nn : Int) (D : Option Addr) (cd : Nat) (d : List UInt8) (n : Nat) (B0 g : Nat) (x y : Sd) (sx sy : SC) (wrong : Bool) (w : World) (hk : kd % 6 = 3) (hs : sd % 2 = 0) (hkd : 0 ≤ kd ∧ kd ≤ 255) (hsd : 0 ≤ sd ∧ sd ≤ 255) (hn : nn = n) (hn8 : n ≤ 255)
    (h : LK w B0 g 0 x sx y sy wrong) (hB : B0 ≤ w.heap.size) (hd : Bs w w.heap.size D d) (hdl : d.length ≤ 200) (hv : VE x.e) (hsl : x.sent.length ≤ 1000000) :
    Calls Try.prog 30 #[.pointer (some ⟨g, 0, none⟩), .agg #[.int .u8 kd, .int .u8 sd, .int .u8 nn, .slice D d.length cd]] w (DoPost 3 n d 0 B0 g x y sy wrong w) := by
  have H := Lib.hid h
  have HD := Lib.hid hd
  have HBB := Lib.hid hB
  have HDL := Lib.hid hdl
  have HGL := Lib.hid h.box.lt
  have hE := h.fx.eb
  have hbx := h.box
  unfold larr at hbx
  rw [if_pos rfl] at hbx
  have HBX := Lib.hid hbx
  obtain ⟨w1, hw1⟩ : ∃ w1, w1 = w.alloc (.cells #[.int .u8 kd, .int .u8 sd, .int .u8 nn, .slice D d.length cd] 70) := ⟨_, rfl⟩
  have hO1 : Only Nil w w1 := by rw [hw1]; exact (Only.refl _ _).alloc _
  have HA := Lib.hid (show Blk w1 w.heap.size 70 #[.int .u8 kd, .int .u8 sd, .int .u8 nn, .slice D d.length cd] by rw [hw1]; exact Blk.new _ _ _)
  have HO1 := Lib.hid hO1
  have HN := Lib.hid hn
  have HN8 := Lib.hid hn8
  have ht1 : kd.tmod 6 = 3 := by rw [Int.tmod_eq_emod_of_nonneg hkd.1, hk]
  have ht2 : sd.tmod 2 = 0 := by rw [Int.tmod_eq_emod_of_nonneg hsd.1, hs]
  clear h hd hB hdl hbx hO1 hn hn8 hkd hsd
  obtain ⟨a, sp, sn, hsd⟩ : ∃ a q m, sendE x.e 1 (0 : Int) = (a, q, m) := ⟨_, _, _, rfl⟩
  have hsn : sn = 0 := by
    have h : (sendE x.e 1 (0 : Int)).2.2 = 0 := by
      unfold sendE
      rw [if_neg (fun hh => hh ⟨hv, by unfold VP; dsimp only [List.length_nil]; exact ⟨by omega, by omega, by omega, by omega, by omega⟩⟩)]
    rw [hsd] at h
    exact h
  subst hsn
  have HCL := Lib.hid (fun w' hE => send_any sx.l x.e 1 (0 : Int) w' hE)
  rw [hsd] at HCL
  have HSD := Lib.hid hsd
  have HSL := Lib.hid hsl
  obtain ⟨i0, hi0, hz0, hz1, hz2⟩ := info_parts pk_info
  clear hsd hsl hv
  go_enter Try.func30, Try.ntmps30
  go_upto_region 1 with fail
  rw [← hw1]
  clear hw1
  have ka : ∀ i, w1.cell? ⟨w.heap.size, i, none⟩ = #[Value.int .u8 kd, .int .u8 sd, .int .u8 nn, .slice D d.length cd][i]? := fun i => HA.out.cell i
  have kb : ∀ i, w1.cell? ⟨g, i, none⟩ = #[Value.slice sx.l.Ao x.e.out.length sx.l.co, .int .i64 x.e.base, .bool x.e.closed, .bool x.e.done, .slice sx.l.Ai x.e.inn.length sx.l.ci, .int .i64 x.e.next, .bool x.e.ended, .bool x.e.due, .slice sy.l.Ao y.e.out.length sy.l.co, .int .i64 y.e.base, .bool y.e.closed, .bool y.e.done, .slice sy.l.Ai y.e.inn.length sy.l.ci, .int .i64 y.e.next, .bool y.e.ended, .bool y.e.due, .slice sx.P x.sent.length sx.c, .slice sy.P y.sent.length sy.c, .string ⟨x.wr.toArray⟩, .string ⟨y.wr.toArray⟩, .string ⟨x.rd.toArray⟩, .string ⟨y.rd.toArray⟩, .bool x.over, .bool y.over, .bool wrong][i]? := fun i => (HBX.out.onlyNil HO1.out).cell i
  go_upto_region 2 with fail
  go_cut [5] (fun pe wd => ∃ ge, pe = .pointer (some ⟨ge, 0, none⟩) ∧ Blk wd ge 29 (earr sx.l x.e) ∧ w.heap.size ≤ ge ∧ Only Nil w1 wd)
  case first =>
    go_wp2_with fail
    go_meet
    case rel => exact ⟨w1.heap.size, rfl, Blk.new _ _ _, HO1.out.size, (Only.refl _ _).alloc _⟩
  case rest =>
  obtain ⟨ge, rfl, hY, hge, hOc⟩ := hcut
  have HY := Lib.hid hY
  have HC := Lib.hid (H.out.onlyNil (HO1.out.thenNil hOc))
  have HA2 := Lib.hid (HA.out.onlyNil hOc)
  have HO2 := Lib.hid (HO1.out.thenNil hOc)
  have HGE := Lib.hid (show ge ≠ g by have := HGL.out; omega)
  clear ka kb hOc hge
  have ka : ∀ i, wc.cell? ⟨w.heap.size, i, none⟩ = #[Value.int .u8 kd, .int .u8 sd, .int .u8 nn, .slice D d.length cd][i]? := fun i => HA2.out.cell i
  have ke : ∀ i, wc.cell? ⟨ge, i, none⟩ = #[Value.slice sx.l.Ao x.e.out.length sx.l.co, .int .i64 x.e.base, .bool x.e.closed, .bool x.e.done, .slice sx.l.Ai x.e.inn.length sx.l.ci, .int .i64 x.e.next, .bool x.e.ended, .bool x.e.due][i]? := fun i => hY.cell i
  clear hY
  have HST : Hid ((stepS 3 n d (0 : Nat) x y).1 = { x with e := a, sent := x.sent ++ [sp] }) := Lib.hid (by
    have h := HSD.out
    unfold stepS
    rw [if_neg (by decide), if_neg (by decide), if_neg (by decide), if_pos rfl]
    show ({ x with e := (sendE x.e 1 (0 : Int)).1, sent := x.sent ++ [(sendE x.e 1 (0 : Int)).2.1] } : Sd) = _
    rw [h])
  go_upto_region 21 with fail
  go_cut [13, 14, 15] (fun pe pq v wd => ∃ gf gp, pe = .pointer (some ⟨gf, 0, none⟩) ∧ pq = .pointer (some ⟨gp, 0, none⟩) ∧ v = .int .i64 0 ∧ EBox 29 wd gf a ∧ PBox 33 wd gp sp ∧ w.heap.size ≤ gf ∧ w.heap.size ≤ gp ∧ Only Nil wc wd)
  case first =>
    go_wp2_with fail
    refine (HCL.out _ HC.out.fx.eb).mono ?_
    rintro e5 u5 ⟨l5, A5, c5, rfl, hE5, hP5, hO5⟩
    have HE5 := Lib.hid hE5
    have HP5 := Lib.hid hP5
    have HO5 := Lib.hid hO5
    clear hE5 hP5 hO5
    go_wp2_with fail
    go_meet
    case rel =>
      have hE := (EBox.new 29 HE5.out).onlyNil ((Only.refl _ _).alloc (.cells (parr A5 c5 sp) 33))
      have hP := PBox.new 33 (HP5.out.next ((Only.refl _ u5).alloc (.cells (earr l5 a) 29)))
      rw [World.size_alloc] at hP
      have hO : Only Nil wc ((u5.alloc (.cells (earr l5 a) 29)).alloc (.cells (parr A5 c5 sp) 33)) := (HO5.out.alloc _).alloc _
      have hs := Nat.le_trans HO2.out.size HO5.out.size
      exact ⟨u5.heap.size, u5.heap.size + 1, rfl, rfl, rfl, hE, hP, hs, by omega, hO⟩
  case rest =>
  obtain ⟨gf, gp, rfl, rfl, rfl, hEf, hPp, hgf, hgp, hO5⟩ := hcut
  obtain ⟨lf, hbf, hlf⟩ := hEf
  have HGF := Lib.hid (show gf ≠ g by have := HGL.out; omega)
  have HGP := Lib.hid (show gp ≠ g by have := HGL.out; omega)
  have HGPW := Lib.hid hgp
  have HC3 := Lib.hid (HC.out.onlyNil hO5)
  have HO3' := Lib.hid (HO2.out.thenNil hO5)
  have HLF' := Lib.hid hlf
  have HBF' := Lib.hid hbf
  have HPP := Lib.hid hPp
  have kb : ∀ i, wc.cell? ⟨g, i, none⟩ = #[Value.slice sx.l.Ao x.e.out.length sx.l.co, .int .i64 x.e.base, .bool x.e.closed, .bool x.e.done, .slice sx.l.Ai x.e.inn.length sx.l.ci, .int .i64 x.e.next, .bool x.e.ended, .bool x.e.due, .slice sy.l.Ao y.e.out.length sy.l.co, .int .i64 y.e.base, .bool y.e.closed, .bool y.e.done, .slice sy.l.Ai y.e.inn.length sy.l.ci, .int .i64 y.e.next, .bool y.e.ended, .bool y.e.due, .slice sx.P x.sent.length sx.c, .slice sy.P y.sent.length sy.c, .string ⟨x.wr.toArray⟩, .string ⟨y.wr.toArray⟩, .string ⟨x.rd.toArray⟩, .string ⟨y.rd.toArray⟩, .bool x.over, .bool y.over, .bool wrong][i]? := fun i => (HBX.out.onlyNil HO3'.out).cell i
  have fb : ∀ i, wc.frozen? ⟨g, i, none⟩ = false := fun i => (HBX.out.onlyNil HO3'.out).frozen i
  clear ka ke hbf hlf hO5 hgf hgp hPp
  obtain ⟨u3, rfl⟩ : ∃ u3, u3 = wc := ⟨_, rfl⟩
  go_upto_region 22 with fail
  go_cut [] (fun wd => wd = u3.setCell ⟨g, 24, none⟩ (.bool wrong))
  case first =>
    cases wrong
    · go_wp2_with fail
      go_meet
      case rel => rfl
    · go_wp2_with fail
      go_meet
      case rel => rfl
  case rest =>
  have hOw : Only (One g) u3 wc := by rw [hcut]; (repeat' (first | with_reducible exact Only.refl _ _ | with_reducible refine Only.setCell ?_ (Or.inl ?_) _ | with_reducible refine Only.drewN ?_ _ | with_reducible refine Only.drew ?_ | with_reducible refine Only.alloc ?_ _ | (exact rfl)))
  have hbw : Blk wc g 68 (larr 0 x sx y sy wrong) := by
    have h := HC3.out.box.set_ 24 (.bool wrong)
    rw [hcut]
    unfold larr at h ⊢
    rw [if_pos rfl] at h ⊢
    simp only [List.setIfInBounds_toArray, List.set_cons_succ, List.set_cons_zero] at h
    exact h
  have hC4 : LK wc B0 g 0 x sx y sy wrong := HC3.out.turn hOw hbw rfl rfl rfl rfl HC3.out.fx.eb
  have HBW : Hid (Blk wc g 68 #[Value.slice sx.l.Ao x.e.out.length sx.l.co, .int .i64 x.e.base, .bool x.e.closed, .bool x.e.done, .slice sx.l.Ai x.e.inn.length sx.l.ci, .int .i64 x.e.next, .bool x.e.ended, .bool x.e.due, .slice sy.l.Ao y.e.out.length sy.l.co, .int .i64 y.e.base, .bool y.e.closed, .bool y.e.done, .slice sy.l.Ai y.e.inn.length sy.l.ci, .int .i64 y.e.next, .bool y.e.ended, .bool y.e.due, .slice sx.P x.sent.length sx.c, .slice sy.P y.sent.length sy.c, .string ⟨x.wr.toArray⟩, .string ⟨y.wr.toArray⟩, .string ⟨x.rd.toArray⟩, .string ⟨y.rd.toArray⟩, .bool x.over, .bool y.over, .bool wrong]) := Lib.hid (by
    unfold larr at hbw
    rw [if_pos rfl] at hbw
    exact hbw)
  have HC4 := Lib.hid hC4
  have HLF : Hid (EB wc wc.heap.size lf a) := Lib.hid ((HLF'.out.box HC3.out.box (larr_no _ _ _ _ _ _) hOw (Nat.le_refl _)).up hOw.size)
  have HBF : Hid (Blk wc gf 29 (earr lf a)) := Lib.hid (HBF'.out.only hOw HGF.out)
  have HPW := Lib.hid (HPP.out.far HC3.out.box (larr_no _ _ _ _ _ _) HGP.out hOw)
  have HO3 := Lib.hid (HO3'.out.any.trans (S := fun b => B0 ≤ b) hOw (fun x hx => .inl (by have := HC.out.new; unfold One at hx; omega)))
  clear hcut hOw hbw hC4 kb fb
  go_upto_region 23 with fail
  go_cut [] (fun wd => LK wd B0 g 0 { x with e := a } { sx with l := lf } y sy wrong ∧ Only (One g) wc wd)
  case first =>
    have HIN : Hid (∀ (L : Nat → Bool) (vs : Nat → Value) (u u' : World), Only Nil u u' → (fun _ _ u => Only Nil wc u) L vs u → (fun _ _ u => Only Nil wc u) L vs u') := Lib.hid (fun L vs u u' hO hI => by
      exact hI.thenNil hO)
    refine wp_region_inv (X := [(0, some 152, []), (1, some 153, []), (2, some 154, []), (3, some 155, [0]), (4, some 156, [3]), (5, some 157, [1, 4])]) (n := 6) (g := 1) (T := Nil) (Ps := [Cst (.pointer (some ⟨g, 0, none⟩)), Cst (.int .i64 0), Cst (.agg #[Value.slice lf.Ao a.out.length lf.co, .int .i64 a.base, .bool a.closed, .bool a.done, .slice lf.Ai a.inn.length lf.ci, .int .i64 a.next, .bool a.ended, .bool a.due]), Cst (.pointer (some ⟨g, 0, none⟩)), Cst (.pointer (some ⟨g, 0, none⟩)), Cst (.pointer (some ⟨g, 0, none⟩))])
      (I := fun _ _ u => Only Nil wc u)
      (by kernel_rfl) (by kernel_rfl) (by kernel_rfl) (by kernel_rfl) rfl ?st_11 ?i0_11 ?step_11 ?fin_11
    case st_11 =>
      have hT : ∀ x, (Nil) x → x < 0 := fun x h => h.elim
      intro p hp
      simp only [List.mem_cons, List.not_mem_nil, or_false] at hp
      rcases hp with rfl | rfl | rfl | rfl | rfl | rfl <;> first | exact Stays.cst _ | exact Stays.own hT | exact Stays.emp hT | exact Stays.any
    case i0_11 =>
      intro vs
      exact (Only.refl _ _).drew
    case step_11 =>
      intro x hx L vs u hI hA h0 hd
      simp only [List.mem_cons, List.not_mem_nil, or_false] at hx
      rcases hx with rfl | rfl | rfl | rfl | rfl | rfl
      · refine inv_step _ (by rfl) (by rfl) (fun K' hK => ?_)
        simp only [putAll, Act.put, List.setIfInBounds_toArray, List.set_cons_succ, List.set_cons_zero] at hK ⊢
        go_simp
        exact hK _ _ ⟨Only.refl _ _, hI, rfl⟩
      · refine inv_step _ (by rfl) (by rfl) (fun K' hK => ?_)
        simp only [putAll, Act.put, List.setIfInBounds_toArray, List.set_cons_succ, List.set_cons_zero] at hK ⊢
        go_simp
        exact hK _ _ ⟨Only.refl _ _, hI, rfl⟩
      · refine inv_step _ (by rfl) (by rfl) (fun K' hK => ?_)
        simp only [putAll, Act.put, List.setIfInBounds_toArray, List.set_cons_succ, List.set_cons_zero] at hK ⊢
        have kf : ∀ i, u.cell? ⟨gf, i, none⟩ = #[Value.slice lf.Ao a.out.length lf.co, .int .i64 a.base, .bool a.closed, .bool a.done, .slice lf.Ai a.inn.length lf.ci, .int .i64 a.next, .bool a.ended, .bool a.due][i]? := fun i => (HBF.out.onlyNil hI).cell i
        go_simp
        exact hK _ _ ⟨Only.refl _ _, hI, rfl⟩
      · refine inv_step _ (by rfl) (by rfl) (fun K' hK => ?_)
        simp only [putAll, Act.put, List.setIfInBounds_toArray, List.set_cons_succ, List.set_cons_zero] at hK ⊢
        have e0 := hA 0 (hd 0 (by simp))
        change vs 0 = (.pointer (some ⟨g, 0, none⟩)) at e0
        simp only [e0] at hK
        go_simp
        exact hK _ _ ⟨Only.refl _ _, hI, rfl⟩
      · refine inv_step _ (by rfl) (by rfl) (fun K' hK => ?_)
        simp only [putAll, Act.put, List.setIfInBounds_toArray, List.set_cons_succ, List.set_cons_zero] at hK ⊢
        have e3 := hA 3 (hd 3 (by simp))
        change vs 3 = (.pointer (some ⟨g, 0, none⟩)) at e3
        simp only [e3] at hK
        go_simp
        exact hK _ _ ⟨Only.refl _ _, hI, rfl⟩
      · refine inv_step _ (by rfl) (by rfl) (fun K' hK => ?_)
        simp only [putAll, Act.put, List.setIfInBounds_toArray, List.set_cons_succ, List.set_cons_zero] at hK ⊢
        have e1 := hA 1 (hd 1 (by simp))
        change vs 1 = (.int .i64 0) at e1
        have e4 := hA 4 (hd 4 (by simp))
        change vs 4 = (.pointer (some ⟨g, 0, none⟩)) at e4
        simp only [e1, e4] at hK
        go_simp
        exact hK _ _ ⟨Only.refl _ _, hI, rfl⟩
    case fin_11 =>
      intro L vs u hI hL hA
      simp only [putAll, Act.put, List.setIfInBounds_toArray, List.set_cons_succ, List.set_cons_zero, List.drop_succ_cons, List.drop_zero]
      have e2 := hA 2 (by omega)
      change vs 2 = .agg #[Value.slice lf.Ao a.out.length lf.co, .int .i64 a.base, .bool a.closed, .bool a.done, .slice lf.Ai a.inn.length lf.ci, .int .i64 a.next, .bool a.ended, .bool a.due] at e2
      have e5 := hA 5 (by omega)
      change vs 5 = .pointer (some ⟨g, 0, none⟩) at e5
      simp only [e2, e5]
      have kb : ∀ i, u.cell? ⟨g, i, none⟩ = #[Value.slice sx.l.Ao x.e.out.length sx.l.co, .int .i64 x.e.base, .bool x.e.closed, .bool x.e.done, .slice sx.l.Ai x.e.inn.length sx.l.ci, .int .i64 x.e.next, .bool x.e.ended, .bool x.e.due, .slice sy.l.Ao y.e.out.length sy.l.co, .int .i64 y.e.base, .bool y.e.closed, .bool y.e.done, .slice sy.l.Ai y.e.inn.length sy.l.ci, .int .i64 y.e.next, .bool y.e.ended, .bool y.e.due, .slice sx.P x.sent.length sx.c, .slice sy.P y.sent.length sy.c, .string ⟨x.wr.toArray⟩, .string ⟨y.wr.toArray⟩, .string ⟨x.rd.toArray⟩, .string ⟨y.rd.toArray⟩, .bool x.over, .bool y.over, .bool wrong][i]? := fun i => (HBW.out.onlyNil hI).cell i
      have fb : ∀ i, u.frozen? ⟨g, i, none⟩ = false := fun i => (HBW.out.onlyNil hI).frozen i
      have hL4 : LK (putE 0 u g lf a) B0 g 0 { x with e := a } { sx with l := lf } y sy wrong := (HC4.out.onlyNil hI).end_ (HLF.out.next hI)
      have hO4 : Only (One g) wc (putE 0 u g lf a) := hI.any.then_ (putE_only _ _ _ _ _)
      have HL4 := Lib.hid hL4
      have HO4 := Lib.hid hO4
      clear hL4 hO4 hA hL hI e2 e5
      go_wp2_with fail
      go_meet
      case rel => exact ⟨HL4.out, HO4.out⟩
  case rest =>
  have HL4 := Lib.hid hcut.1
  have HO4 := Lib.hid hcut.2
  clear hcut
  obtain ⟨Ap, cp, hbp, hpb⟩ := HPW.out.far HC4.out.box (larr_no _ _ _ _ _ _) HGP.out HO4.out
  obtain ⟨m, hm⟩ : ∃ m, x.sent.length = m := ⟨_, rfl⟩
  have hbx4 := HL4.out.box
  unfold larr at hbx4
  rw [if_pos rfl] at hbx4
  have HBX4 : Hid (Blk wc g 68 #[Value.slice lf.Ao a.out.length lf.co, .int .i64 a.base, .bool a.closed, .bool a.done, .slice lf.Ai a.inn.length lf.ci, .int .i64 a.next, .bool a.ended, .bool a.due, .slice sy.l.Ao y.e.out.length sy.l.co, .int .i64 y.e.base, .bool y.e.closed, .bool y.e.done, .slice sy.l.Ai y.e.inn.length sy.l.ci, .int .i64 y.e.next, .bool y.e.ended, .bool y.e.due, .slice sx.P m sx.c, .slice sy.P y.sent.length sy.c, .string ⟨x.wr.toArray⟩, .string ⟨y.wr.toArray⟩, .string ⟨x.rd.toArray⟩, .string ⟨y.rd.toArray⟩, .bool x.over, .bool y.over, .bool wrong]) := Lib.hid (by rw [← hm]; exact hbx4)
  have HROW : Hid (wc.ownsRow B0 33 6 (.slice sx.P m sx.c) m (sx.rows.flatMap PR.cells)) := Lib.hid (by rw [← hm]; exact HL4.out.fx.row)
  have HNO0 : Hid (NoB wc (.slice sx.P m sx.c)) := Lib.hid (by rw [← hm]; exact HL4.out.fx.no)
  have HBP : Hid (Blk wc gp 33 #[Value.int .i64 sp.pair, .int .i64 sp.side, .int .i64 sp.seq, .int .i64 sp.ack, .bool sp.fin, .slice Ap sp.data.length cp]) := Lib.hid hbp
  have HPB := Lib.hid hpb
  have HB0 : Hid (B0 ≤ wc.heap.size) := Lib.hid (Nat.le_trans (Nat.le_trans HBB.out HO3.out.size) HO4.out.size)
  have HO34 := Lib.hid (HO3.out.trans HO4.out (fun x hx => .inl (by have := HC.out.new; unfold One at hx; omega)))
  have RBL : Hid (∀ q, (Value.slice sx.P m sx.c).ownBlock = some q → q < wc.heap.size) := Lib.hid (fun q hq => own_lt HROW.out hq)
  have HNGP : Hid (¬ (Value.slice sx.P m sx.c).ownBlock = some gp) := Lib.hid (fun hq => by
    have h1 := own_lt H.out.fx.row (q := gp) (by rw [hm]; exact hq)
    have h2 := HGPW.out
    omega)
  have HSM : Hid (m ≤ 1000000) := Lib.hid (by rw [← hm]; exact HSL.out)
  have HM := Lib.hid hm
  clear hbx4 hbp hpb hm
  go_upto_region 24 with fail
  have HIN : Hid (∀ (L : Nat → Bool) (vs : Nat → Value) (u u' : World), Only Nil u u' → (fun L vs u => AppI B0 (.slice sx.P m sx.c) m (sx.rows.flatMap PR.cells) (pcells Ap cp sp) wc (L 10) (vs 10) u) L vs u → (fun L vs u => AppI B0 (.slice sx.P m sx.c) m (sx.rows.flatMap PR.cells) (pcells Ap cp sp) wc (L 10) (vs 10) u) L vs u') := Lib.hid (fun L vs u u' hO hI => by
    exact hI.keep hO)
  refine wp_region_any (by kernel_rfl) ?_
  change wpAny _ _ _ _ _ _ _ (World.drew _)
  refine take_first (i := 0) (v := ?v0_12) (some 158) rfl (by rfl) (by kernel_rfl) (by kernel_rfl) (by kernel_rfl) (fun _ _ _ h => h) (Or.inl ⟨by rfl, ?hy0_12⟩) ?rest0_12
  case hy0_12 => (intro w; go_simp <;> with_reducible rfl)
  refine take_first (i := 1) (v := ?v1_12) (some 159) rfl (by rfl) (by kernel_rfl) (by kernel_rfl) (by kernel_rfl) (fun _ _ _ h => h) (Or.inl ⟨by rfl, ?hy1_12⟩) ?rest1_12
  case hy1_12 => (intro w; go_simp <;> with_reducible rfl)
  refine take_first (i := 2) (v := ?v2_12) (some 160) rfl (by rfl) (by kernel_rfl) (by kernel_rfl) (by kernel_rfl) (fun _ _ _ h => h) (Or.inl ⟨by rfl, ?hy2_12⟩) ?rest2_12
  case hy2_12 => (intro w; go_simp <;> with_reducible rfl)
  refine take_first (i := 3) (v := ?v3_12) (some 161) rfl (by rfl) (by kernel_rfl) (by kernel_rfl) (by kernel_rfl) (fun _ _ _ h => h) (Or.inl ⟨by rfl, ?hy3_12⟩) ?rest3_12
  case hy3_12 => (intro w; go_simp <;> with_reducible rfl)
  refine take_first (i := 4) (v := ?v4_12) (some 162) rfl (by rfl) (by kernel_rfl) (by kernel_rfl) (by kernel_rfl) (fun _ _ _ h => h) (Or.inl ⟨by rfl, ?hy4_12⟩) ?rest4_12
  case hy4_12 => (intro w; go_simp <;> with_reducible rfl)
  refine take_first (i := 5) (v := ?v5_12) (some 163) rfl (by rfl) (by kernel_rfl) (by kernel_rfl) (by kernel_rfl) (fun _ _ _ h => h) (Or.inl ⟨by rfl, ?hy5_12⟩) ?rest5_12
  case hy5_12 => (intro w; go_simp <;> with_reducible rfl)
  refine take_first (i := 6) (v := ?v6_12) (some 164) rfl (by rfl) (by kernel_rfl) (by kernel_rfl) (by kernel_rfl) (fun _ _ _ h => h) (Or.inl ⟨by rfl, ?hy6_12⟩) ?rest6_12
  case hy6_12 => (intro w; go_simp <;> with_reducible rfl)
  refine take_first (i := 11) (v := ?v11_12) (some 169) rfl (by rfl) (by kernel_rfl) (by kernel_rfl) (by kernel_rfl) (fun _ _ _ h => h) (Or.inl ⟨by rfl, ?hy11_12⟩) ?rest11_12
  case hy11_12 => (intro w; go_simp <;> with_reducible rfl)
  refine take_first (i := 12) (v := ?v12_12) (some 170) rfl (by rfl) (by kernel_rfl) (by kernel_rfl) (by kernel_rfl) (fun _ _ _ h => h) (Or.inl ⟨by rfl, ?hy12_12⟩) ?rest12_12
  case hy12_12 => (intro w; go_simp <;> with_reducible rfl)
  refine wpAny_inv2 (X := [(7, some 165, []), (8, some 166, []), (9, some 167, [8]), (10, some 168, [7, 9]), (13, some 171, [])]) (n := 5) (g := 1) (m := 14) (l0 := [true, true, true, true, true, true, true, false, false, false, false, true, true, false, false]) (T := fun q => (Value.slice sx.P m sx.c).ownBlock = some q) (Ps := [Any, Any, Any, Any, Any, Any, Any, Cst (.slice sx.P m sx.c), Cst (.agg #[Value.int .i64 sp.pair, .int .i64 sp.side, .int .i64 sp.seq, .int .i64 sp.ack, .bool sp.fin, .slice Ap sp.data.length cp]), NewP wc.heap.size (pcells Ap cp sp), Any, Any, Any, Cst (.pointer (some ⟨g, 16, none⟩))])
    (I := fun L vs u => AppI B0 (.slice sx.P m sx.c) m (sx.rows.flatMap PR.cells) (pcells Ap cp sp) wc (L 10) (vs 10) u)
    (by kernel_rfl) rfl (by kernel_rfl) (by kernel_rfl) (by kernel_rfl) rfl ?h0_12 ?st_12 ?i0_12 ?step_12 ?fin_12
  case h0_12 =>
    intro j hj v u
    match j, hj with
    | 0, hj => trivial
    | 1, hj => trivial
    | 2, hj => trivial
    | 3, hj => trivial
    | 4, hj => trivial
    | 5, hj => trivial
    | 6, hj => trivial
    | 7, hj => exact absurd hj (by decide)
    | 8, hj => exact absurd hj (by decide)
    | 9, hj => exact absurd hj (by decide)
    | 10, hj => exact absurd hj (by decide)
    | 11, hj => trivial
    | 12, hj => trivial
    | 13, hj => exact absurd hj (by decide)
    | 14, hj => exact absurd hj (by decide)
    | n + 15, hj => exact absurd hj (by simp)
  case st_12 =>
    intro p hp
    simp only [List.mem_cons, List.not_mem_nil, or_false] at hp
    rcases hp with rfl | rfl | rfl | rfl | rfl | rfl | rfl | rfl | rfl | rfl | rfl | rfl | rfl | rfl <;> first | exact Stays.cst _ | exact Stays.any | exact Stays.newp RBL.out
  case i0_12 =>
    intro vs
    exact AppI.zero ((Only.refl _ _).drew)
  case step_12 =>
    intro x hx L vs u hI hA h0 hd
    simp only [List.mem_cons, List.not_mem_nil, or_false] at hx
    rcases hx with rfl | rfl | rfl | rfl | rfl
    · refine inv_step _ (by rfl) (by rfl) (fun K' hK => ?_)
      simp only [putAll, Act.put, List.setIfInBounds_toArray, List.set_cons_succ, List.set_cons_zero] at hK ⊢
      have kb : ∀ i, u.cell? ⟨g, i, none⟩ = #[Value.slice lf.Ao a.out.length lf.co, .int .i64 a.base, .bool a.closed, .bool a.done, .slice lf.Ai a.inn.length lf.ci, .int .i64 a.next, .bool a.ended, .bool a.due, .slice sy.l.Ao y.e.out.length sy.l.co, .int .i64 y.e.base, .bool y.e.closed, .bool y.e.done, .slice sy.l.Ai y.e.inn.length sy.l.ci, .int .i64 y.e.next, .bool y.e.ended, .bool y.e.due, .slice sx.P m sx.c, .slice sy.P y.sent.length sy.c, .string ⟨x.wr.toArray⟩, .string ⟨y.wr.toArray⟩, .string ⟨x.rd.toArray⟩, .string ⟨y.rd.toArray⟩, .bool x.over, .bool y.over, .bool wrong][i]? := fun i => (AppI.box hI HROW.out HBX4.out).cell i
      go_simp
      exact hK _ _ ⟨Only.refl _ _, hI, rfl⟩
    · refine inv_step _ (by rfl) (by rfl) (fun K' hK => ?_)
      simp only [putAll, Act.put, List.setIfInBounds_toArray, List.set_cons_succ, List.set_cons_zero] at hK ⊢
      have kp : ∀ i, u.cell? ⟨gp, i, none⟩ = #[Value.int .i64 sp.pair, .int .i64 sp.side, .int .i64 sp.seq, .int .i64 sp.ack, .bool sp.fin, .slice Ap sp.data.length cp][i]? := fun i => (HBP.out.only (AppI.only hI) HNGP.out).cell i
      go_simp
      exact hK _ _ ⟨Only.refl _ _, hI, rfl⟩
    · refine inv_step _ (by rfl) (by rfl) (fun K' hK => ?_)
      simp only [putAll, Act.put, List.setIfInBounds_toArray, List.set_cons_succ, List.set_cons_zero] at hK ⊢
      have e8 := hA 8 (hd 8 (by simp))
      change vs 8 = (.agg #[Value.int .i64 sp.pair, .int .i64 sp.side, .int .i64 sp.seq, .int .i64 sp.ack, .bool sp.fin, .slice Ap sp.data.length cp]) at e8
      simp only [e8] at hK
      go_simp
      exact hK _ _ ⟨(Only.refl _ _).alloc _, HIN.out L vs _ _ ((Only.refl _ _).alloc _) hI, ⟨_, rfl, hI.size, Blk.new _ _ _⟩⟩
    · refine inv_step _ (by rfl) (by rfl) (fun K' hK => ?_)
      simp only [putAll, Act.put, List.setIfInBounds_toArray, List.set_cons_succ, List.set_cons_zero] at hK
      have e7 := hA 7 (hd 7 (by simp))
      change vs 7 = (.slice sx.P m sx.c) at e7
      obtain ⟨gn, e9, hgn, hbn⟩ := hA 9 (hd 9 (by simp))
      have hI0 := hI
      rw [show L 10 = false from h0] at hI0
      have hON : Only Nil wc u := hI0
      refine step_append1_no _ (by rfl) (.tmp 165) (.tmp 167) _ (by rfl) B0 33 i0 _ 6 64 Try.underlying63 hi0 hz0 hz1 hz2 rfl (by decide) (.slice sx.P m sx.c) m (sx.rows.flatMap PR.cells) (by simp [Act.eval, putAll, Act.put, e7]) (own_onlyNil HROW.out hON) (HNO0.out.only HROW.out hON (fun _ _ hx => hx)) ⟨gn, 0, none⟩ 1 (pcells Ap cp sp) (by simp [Act.eval, putAll, Act.put, e9]) rfl (fun j u' hj => by rw [add_at, Nat.zero_add, hbn.cell]; simpa using hj) (PR.cells_one ⟨Ap, cp, sp⟩) (PR.cells_nu ⟨Ap, cp, sp⟩) zP_nu (m + 1) rfl (by have := HSM.out; unfold maxLen; omega) (by have := HSM.out; omega) (Nat.le_trans HB0.out hON.size) ?_
      intro A5 c5 u5 hc5 hown5 hgr5 hat5 hno5
      simp only [putAll, Act.put, List.setIfInBounds_toArray, List.set_cons_succ, List.set_cons_zero]
      exact hK _ _ ⟨Only.of_grown hgr5, AppI.new hON hc5 hown5 hgr5 hat5 hno5, trivial⟩
    · refine inv_step _ (by rfl) (by rfl) (fun K' hK => ?_)
      simp only [putAll, Act.put, List.setIfInBounds_toArray, List.set_cons_succ, List.set_cons_zero] at hK ⊢
      go_simp
      exact hK _ _ ⟨Only.refl _ _, hI, rfl⟩
  case fin_12 =>
    intro L vs u hI hL hA
    simp only [putAll, Act.put, List.setIfInBounds_toArray, List.set_cons_succ, List.set_cons_zero, List.drop_succ_cons, List.drop_zero]
    have e13 := hA 13 (by omega)
    change vs 13 = .pointer (some ⟨g, 16, none⟩) at e13
    have hI1 := hI
    rw [hL 10 (by omega)] at hI1
    obtain ⟨A5, c5, e10, hc5, hown5, hno5, hat5, hO5⟩ := hI1
    simp only [e10, e13]
    have hb5 := AppI.box hI HROW.out HBX4.out
    have kb : ∀ i, u.cell? ⟨g, i, none⟩ = #[Value.slice lf.Ao a.out.length lf.co, .int .i64 a.base, .bool a.closed, .bool a.done, .slice lf.Ai a.inn.length lf.ci, .int .i64 a.next, .bool a.ended, .bool a.due, .slice sy.l.Ao y.e.out.length sy.l.co, .int .i64 y.e.base, .bool y.e.closed, .bool y.e.done, .slice sy.l.Ai y.e.inn.length sy.l.ci, .int .i64 y.e.next, .bool y.e.ended, .bool y.e.due, .slice sx.P m sx.c, .slice sy.P y.sent.length sy.c, .string ⟨x.wr.toArray⟩, .string ⟨y.wr.toArray⟩, .string ⟨x.rd.toArray⟩, .string ⟨y.rd.toArray⟩, .bool x.over, .bool y.over, .bool wrong][i]? := fun i => hb5.cell i
    have fb : ∀ i, u.frozen? ⟨g, i, none⟩ = false := fun i => hb5.frozen i
    have hO6 : Only (One g) u (u.setCell ⟨g, 16, none⟩ (.slice A5 (m + 1) c5)) := by (repeat' (first | with_reducible exact Only.refl _ _ | with_reducible refine Only.setCell ?_ (Or.inl ?_) _ | with_reducible refine Only.drewN ?_ _ | with_reducible refine Only.drew ?_ | with_reducible refine Only.alloc ?_ _ | (exact rfl)))
    have hb6 : Blk (u.setCell ⟨g, 16, none⟩ (.slice A5 (m + 1) c5)) g 68 (larr 0 { x with e := a, sent := x.sent ++ [sp] } { sx with l := lf, P := A5, c := c5, rows := sx.rows ++ [⟨Ap, cp, sp⟩] } y sy wrong) := by
      have h := hb5.set_ 16 (.slice A5 (m + 1) c5)
      have hl : (x.sent ++ [sp]).length = m + 1 := by rw [List.length_append, HM.out]; rfl
      unfold larr
      rw [if_pos rfl]
      dsimp only
      rw [hl]
      simp only [List.setIfInBounds_toArray, List.set_cons_succ, List.set_cons_zero] at h
      exact h
    have hL6 := (HL4.out.post (by rw [HM.out]; exact hO5) (by rw [HM.out]; exact hown5) (by rw [HM.out]; exact hno5) (by rw [HM.out]; exact hat5) HPB.out hO6 hb6)
    have hO56 : Only (fun b => B0 ≤ b) w (u.setCell ⟨g, 16, none⟩ (.slice A5 (m + 1) c5)) := (HO34.out.trans hO5 (fun q hq => .inl (own_base_le HROW.out hq))).trans hO6 (fun x hx => .inl (by have := HC.out.new; unfold One at hx; omega))
    have HL6 := Lib.hid hL6
    have HO56 := Lib.hid hO56
    clear hA hL hI e10 e13 hb5 hown5 hno5 hat5 hO5 hc5 hO6 hb6 hL6 hO56
    go_wp2_with fail
    refine bodyPost_end (v := .tuple #[]) (by simp [results, Try.results30, go_sem]) rfl ?_
    have hfin : ∀ u', u' = u.setCell ⟨g, 16, none⟩ (.slice A5 (m + 1) c5) → DoPost 3 n d 0 B0 g x y sy wrong w (.returned (.tuple #[])) u' := fun u' hu => by
      rw [hu]
      exact ⟨⟨_, rfl⟩, ⟨_, by rw [HST.out]; exact HL6.out⟩, HO56.out⟩
    exact hfin _ rfl

set_option maxRecDepth 100000 in
set_option maxHeartbeats 8000000 in
theorem do_send1 (kd sd nn : Int) (D : Option Addr) (cd : Nat) (d : List UInt8) (n : Nat) (B0 g : Nat) (x y : Sd) (sx sy : SC) (wrong : Bool) (w : World) (hk : kd % 6 = 3) (hs : sd % 2 = 1) (hkd : 0 ≤ kd ∧ kd ≤ 255) (hsd : 0 ≤ sd ∧ sd ≤ 255) (hn : nn = n) (hn8 : n ≤ 255)
    (h : LK w B0 g 1 x sx y sy wrong) (hB : B0 ≤ w.heap.size) (hd : Bs w w.heap.size D d) (hdl : d.length ≤ 200) (hv : VE x.e) (hsl : x.sent.length ≤ 1000000) :
    Calls Try.prog 30 #[.pointer (some ⟨g, 0, none⟩), .agg #[.int .u8 kd, .int .u8 sd, .int .u8 nn, .slice D d.length cd]] w (DoPost 3 n d 1 B0 g x y sy wrong w) := by
  have H := Lib.hid h
  have HD := Lib.hid hd
  have HBB := Lib.hid hB
  have HDL := Lib.hid hdl
  have HGL := Lib.hid h.box.lt
  have hE := h.fx.eb
  have hbx := h.box
  unfold larr at hbx
  rw [if_neg (by decide)] at hbx
  have HBX := Lib.hid hbx
  obtain ⟨w1, hw1⟩ : ∃ w1, w1 = w.alloc (.cells #[.int .u8 kd, .int .u8 sd, .int .u8 nn, .slice D d.length cd] 70) := ⟨_, rfl⟩
  have hO1 : Only Nil w w1 := by rw [hw1]; exact (Only.refl _ _).alloc _
  have HA := Lib.hid (show Blk w1 w.heap.size 70 #[.int .u8 kd, .int .u8 sd, .int .u8 nn, .slice D d.length cd] by rw [hw1]; exact Blk.new _ _ _)
  have HO1 := Lib.hid hO1
  have HN := Lib.hid hn
  have HN8 := Lib.hid hn8
  have ht1 : kd.tmod 6 = 3 := by rw [Int.tmod_eq_emod_of_nonneg hkd.1, hk]
  have ht2 : sd.tmod 2 = 1 := by rw [Int.tmod_eq_emod_of_nonneg hsd.1, hs]
  clear h hd hB hdl hbx hO1 hn hn8 hkd hsd
  obtain ⟨a, sp, sn, hsd⟩ : ∃ a q m, sendE x.e 1 (1 : Int) = (a, q, m) := ⟨_, _, _, rfl⟩
  have hsn : sn = 0 := by
    have h : (sendE x.e 1 (1 : Int)).2.2 = 0 := by
      unfold sendE
      rw [if_neg (fun hh => hh ⟨hv, by unfold VP; dsimp only [List.length_nil]; exact ⟨by omega, by omega, by omega, by omega, by omega⟩⟩)]
    rw [hsd] at h
    exact h
  subst hsn
  have HCL := Lib.hid (fun w' hE => send_any sx.l x.e 1 (1 : Int) w' hE)
  rw [hsd] at HCL
  have HSD := Lib.hid hsd
  have HSL := Lib.hid hsl
  obtain ⟨i0, hi0, hz0, hz1, hz2⟩ := info_parts pk_info
  clear hsd hsl hv
  go_enter Try.func30, Try.ntmps30
  go_upto_region 1 with fail
  rw [← hw1]
  clear hw1
  have ka : ∀ i, w1.cell? ⟨w.heap.size, i, none⟩ = #[Value.int .u8 kd, .int .u8 sd, .int .u8 nn, .slice D d.length cd][i]? := fun i => HA.out.cell i
  have kb : ∀ i, w1.cell? ⟨g, i, none⟩ = #[Value.slice sy.l.Ao y.e.out.length sy.l.co, .int .i64 y.e.base, .bool y.e.closed, .bool y.e.done, .slice sy.l.Ai y.e.inn.length sy.l.ci, .int .i64 y.e.next, .bool y.e.ended, .bool y.e.due, .slice sx.l.Ao x.e.out.length sx.l.co, .int .i64 x.e.base, .bool x.e.closed, .bool x.e.done, .slice sx.l.Ai x.e.inn.length sx.l.ci, .int .i64 x.e.next, .bool x.e.ended, .bool x.e.due, .slice sy.P y.sent.length sy.c, .slice sx.P x.sent.length sx.c, .string ⟨y.wr.toArray⟩, .string ⟨x.wr.toArray⟩, .string ⟨y.rd.toArray⟩, .string ⟨x.rd.toArray⟩, .bool y.over, .bool x.over, .bool wrong][i]? := fun i => (HBX.out.onlyNil HO1.out).cell i
  go_upto_region 2 with fail
  go_cut [5] (fun pe wd => ∃ ge, pe = .pointer (some ⟨ge, 0, none⟩) ∧ Blk wd ge 29 (earr sx.l x.e) ∧ w.heap.size ≤ ge ∧ Only Nil w1 wd)
  case first =>
    go_wp2_with fail
    go_meet
    case rel => exact ⟨w1.heap.size, rfl, Blk.new _ _ _, HO1.out.size, (Only.refl _ _).alloc _⟩
  case rest =>
  obtain ⟨ge, rfl, hY, hge, hOc⟩ := hcut
  have HY := Lib.hid hY
  have HC := Lib.hid (H.out.onlyNil (HO1.out.thenNil hOc))
  have HA2 := Lib.hid (HA.out.onlyNil hOc)
  have HO2 := Lib.hid (HO1.out.thenNil hOc)
  have HGE := Lib.hid (show ge ≠ g by have := HGL.out; omega)
  clear ka kb hOc hge
  have ka : ∀ i, wc.cell? ⟨w.heap.size, i, none⟩ = #[Value.int .u8 kd, .int .u8 sd, .int .u8 nn, .slice D d.length cd][i]? := fun i => HA2.out.cell i
  have ke : ∀ i, wc.cell? ⟨ge, i, none⟩ = #[Value.slice sx.l.Ao x.e.out.length sx.l.co, .int .i64 x.e.base, .bool x.e.closed, .bool x.e.done, .slice sx.l.Ai x.e.inn.length sx.l.ci, .int .i64 x.e.next, .bool x.e.ended, .bool x.e.due][i]? := fun i => hY.cell i
  clear hY
  have HST : Hid ((stepS 3 n d (1 : Nat) x y).1 = { x with e := a, sent := x.sent ++ [sp] }) := Lib.hid (by
    have h := HSD.out
    unfold stepS
    rw [if_neg (by decide), if_neg (by decide), if_neg (by decide), if_pos rfl]
    show ({ x with e := (sendE x.e 1 (1 : Int)).1, sent := x.sent ++ [(sendE x.e 1 (1 : Int)).2.1] } : Sd) = _
    rw [h])
  go_upto_region 21 with fail
  go_cut [13, 14, 15] (fun pe pq v wd => ∃ gf gp, pe = .pointer (some ⟨gf, 0, none⟩) ∧ pq = .pointer (some ⟨gp, 0, none⟩) ∧ v = .int .i64 0 ∧ EBox 29 wd gf a ∧ PBox 33 wd gp sp ∧ w.heap.size ≤ gf ∧ w.heap.size ≤ gp ∧ Only Nil wc wd)
  case first =>
    go_wp2_with fail
    refine (HCL.out _ HC.out.fx.eb).mono ?_
    rintro e5 u5 ⟨l5, A5, c5, rfl, hE5, hP5, hO5⟩
    have HE5 := Lib.hid hE5
    have HP5 := Lib.hid hP5
    have HO5 := Lib.hid hO5
    clear hE5 hP5 hO5
    go_wp2_with fail
    go_meet
    case rel =>
      have hE := (EBox.new 29 HE5.out).onlyNil ((Only.refl _ _).alloc (.cells (parr A5 c5 sp) 33))
      have hP := PBox.new 33 (HP5.out.next ((Only.refl _ u5).alloc (.cells (earr l5 a) 29)))
      rw [World.size_alloc] at hP
      have hO : Only Nil wc ((u5.alloc (.cells (earr l5 a) 29)).alloc (.cells (parr A5 c5 sp) 33)) := (HO5.out.alloc _).alloc _
      have hs := Nat.le_trans HO2.out.size HO5.out.size
      exact ⟨u5.heap.size, u5.heap.size + 1, rfl, rfl, rfl, hE, hP, hs, by omega, hO⟩
  case rest =>
  obtain ⟨gf, gp, rfl, rfl, rfl, hEf, hPp, hgf, hgp, hO5⟩ := hcut
  obtain ⟨lf, hbf, hlf⟩ := hEf
  have HGF := Lib.hid (show gf ≠ g by have := HGL.out; omega)
  have HGP := Lib.hid (show gp ≠ g by have := HGL.out; omega)
  have HGPW := Lib.hid hgp
  have HC3 := Lib.hid (HC.out.onlyNil hO5)
  have HO3' := Lib.hid (HO2.out.thenNil hO5)
  have HLF' := Lib.hid hlf
  have HBF' := Lib.hid hbf
  have HPP := Lib.hid hPp
  have kb : ∀ i, wc.cell? ⟨g, i, none⟩ = #[Value.slice sy.l.Ao y.e.out.length sy.l.co, .int .i64 y.e.base, .bool y.e.closed, .bool y.e.done, .slice sy.l.Ai y.e.inn.length sy.l.ci, .int .i64 y.e.next, .bool y.e.ended, .bool y.e.due, .slice sx.l.Ao x.e.out.length sx.l.co, .int .i64 x.e.base, .bool x.e.closed, .bool x.e.done, .slice sx.l.Ai x.e.inn.length sx.l.ci, .int .i64 x.e.next, .bool x.e.ended, .bool x.e.due, .slice sy.P y.sent.length sy.c, .slice sx.P x.sent.length sx.c, .string ⟨y.wr.toArray⟩, .string ⟨x.wr.toArray⟩, .string ⟨y.rd.toArray⟩, .string ⟨x.rd.toArray⟩, .bool y.over, .bool x.over, .bool wrong][i]? := fun i => (HBX.out.onlyNil HO3'.out).cell i
  have fb : ∀ i, wc.frozen? ⟨g, i, none⟩ = false := fun i => (HBX.out.onlyNil HO3'.out).frozen i
  clear ka ke hbf hlf hO5 hgf hgp hPp
  obtain ⟨u3, rfl⟩ : ∃ u3, u3 = wc := ⟨_, rfl⟩
  go_upto_region 22 with fail
  go_cut [] (fun wd => wd = u3.setCell ⟨g, 24, none⟩ (.bool wrong))
  case first =>
    cases wrong
    · go_wp2_with fail
      go_meet
      case rel => rfl
    · go_wp2_with fail
      go_meet
      case rel => rfl
  case rest =>
  have hOw : Only (One g) u3 wc := by rw [hcut]; (repeat' (first | with_reducible exact Only.refl _ _ | with_reducible refine Only.setCell ?_ (Or.inl ?_) _ | with_reducible refine Only.drewN ?_ _ | with_reducible refine Only.drew ?_ | with_reducible refine Only.alloc ?_ _ | (exact rfl)))
  have hbw : Blk wc g 68 (larr 1 x sx y sy wrong) := by
    have h := HC3.out.box.set_ 24 (.bool wrong)
    rw [hcut]
    unfold larr at h ⊢
    rw [if_neg (by decide)] at h ⊢
    simp only [List.setIfInBounds_toArray, List.set_cons_succ, List.set_cons_zero] at h
    exact h
  have hC4 : LK wc B0 g 1 x sx y sy wrong := HC3.out.turn hOw hbw rfl rfl rfl rfl HC3.out.fx.eb
  have HBW : Hid (Blk wc g 68 #[Value.slice sy.l.Ao y.e.out.length sy.l.co, .int .i64 y.e.base, .bool y.e.closed, .bool y.e.done, .slice sy.l.Ai y.e.inn.length sy.l.ci, .int .i64 y.e.next, .bool y.e.ended, .bool y.e.due, .slice sx.l.Ao x.e.out.length sx.l.co, .int .i64 x.e.base, .bool x.e.closed, .bool x.e.done, .slice sx.l.Ai x.e.inn.length sx.l.ci, .int .i64 x.e.next, .bool x.e.ended, .bool x.e.due, .slice sy.P y.sent.length sy.c, .slice sx.P x.sent.length sx.c, .string ⟨y.wr.toArray⟩, .string ⟨x.wr.toArray⟩, .string ⟨y.rd.toArray⟩, .string ⟨x.rd.toArray⟩, .bool y.over, .bool x.over, .bool wrong]) := Lib.hid (by
    unfold larr at hbw
    rw [if_neg (by decide)] at hbw
    exact hbw)
  have HC4 := Lib.hid hC4
  have HLF : Hid (EB wc wc.heap.size lf a) := Lib.hid ((HLF'.out.box HC3.out.box (larr_no _ _ _ _ _ _) hOw (Nat.le_refl _)).up hOw.size)
  have HBF : Hid (Blk wc gf 29 (earr lf a)) := Lib.hid (HBF'.out.only hOw HGF.out)
  have HPW := Lib.hid (HPP.out.far HC3.out.box (larr_no _ _ _ _ _ _) HGP.out hOw)
  have HO3 := Lib.hid (HO3'.out.any.trans (S := fun b => B0 ≤ b) hOw (fun x hx => .inl (by have := HC.out.new; unfold One at hx; omega)))
  clear hcut hOw hbw hC4 kb fb
  go_upto_region 23 with fail
  go_cut [] (fun wd => LK wd B0 g 1 { x with e := a } { sx with l := lf } y sy wrong ∧ Only (One g) wc wd)
  case first =>
    have HIN : Hid (∀ (L : Nat → Bool) (vs : Nat → Value) (u u' : World), Only Nil u u' → (fun _ _ u => Only Nil wc u) L vs u → (fun _ _ u => Only Nil wc u) L vs u') := Lib.hid (fun L vs u u' hO hI => by
      exact hI.thenNil hO)
    refine wp_region_inv (X := [(0, some 152, []), (1, some 153, []), (2, some 154, []), (3, some 155, [0]), (4, some 156, [3]), (5, some 157, [1, 4])]) (n := 6) (g := 1) (T := Nil) (Ps := [Cst (.pointer (some ⟨g, 0, none⟩)), Cst (.int .i64 1), Cst (.agg #[Value.slice lf.Ao a.out.length lf.co, .int .i64 a.base, .bool a.closed, .bool a.done, .slice lf.Ai a.inn.length lf.ci, .int .i64 a.next, .bool a.ended, .bool a.due]), Cst (.pointer (some ⟨g, 0, none⟩)), Cst (.pointer (some ⟨g, 0, none⟩)), Cst (.pointer (some ⟨g, 8, none⟩))])
      (I := fun _ _ u => Only Nil wc u)
      (by kernel_rfl) (by kernel_rfl) (by kernel_rfl) (by kernel_rfl) rfl ?st_13 ?i0_13 ?step_13 ?fin_13
    case st_13 =>
      have hT : ∀ x, (Nil) x → x < 0 := fun x h => h.elim
      intro p hp
      simp only [List.mem_cons, List.not_mem_nil, or_false] at hp
      rcases hp with rfl | rfl | rfl | rfl | rfl | rfl <;> first | exact Stays.cst _ | exact Stays.own hT | exact Stays.emp hT | exact Stays.any
    case i0_13 =>
      intro vs
      exact (Only.refl _ _).drew
    case step_13 =>
      intro x hx L vs u hI hA h0 hd
      simp only [List.mem_cons, List.not_mem_nil, or_false] at hx
      rcases hx with rfl | rfl | rfl | rfl | rfl | rfl
      · refine inv_step _ (by rfl) (by rfl) (fun K' hK => ?_)
        simp only [putAll, Act.put, List.setIfInBounds_toArray, List.set_cons_succ, List.set_cons_zero] at hK ⊢
        go_simp
        exact hK _ _ ⟨Only.refl _ _, hI, rfl⟩
      · refine inv_step _ (by rfl) (by rfl) (fun K' hK => ?_)
        simp only [putAll, Act.put, List.setIfInBounds_toArray, List.set_cons_succ, List.set_cons_zero] at hK ⊢
        go_simp
        exact hK _ _ ⟨Only.refl _ _, hI, rfl⟩
      · refine inv_step _ (by rfl) (by rfl) (fun K' hK => ?_)
        simp only [putAll, Act.put, List.setIfInBounds_toArray, List.set_cons_succ, List.set_cons_zero] at hK ⊢
        have kf : ∀ i, u.cell? ⟨gf, i, none⟩ = #[Value.slice lf.Ao a.out.length lf.co, .int .i64 a.base, .bool a.closed, .bool a.done, .slice lf.Ai a.inn.length lf.ci, .int .i64 a.next, .bool a.ended, .bool a.due][i]? := fun i => (HBF.out.onlyNil hI).cell i
        go_simp
        exact hK _ _ ⟨Only.refl _ _, hI, rfl⟩
      · refine inv_step _ (by rfl) (by rfl) (fun K' hK => ?_)
        simp only [putAll, Act.put, List.setIfInBounds_toArray, List.set_cons_succ, List.set_cons_zero] at hK ⊢
        have e0 := hA 0 (hd 0 (by simp))
        change vs 0 = (.pointer (some ⟨g, 0, none⟩)) at e0
        simp only [e0] at hK
        go_simp
        exact hK _ _ ⟨Only.refl _ _, hI, rfl⟩
      · refine inv_step _ (by rfl) (by rfl) (fun K' hK => ?_)
        simp only [putAll, Act.put, List.setIfInBounds_toArray, List.set_cons_succ, List.set_cons_zero] at hK ⊢
        have e3 := hA 3 (hd 3 (by simp))
        change vs 3 = (.pointer (some ⟨g, 0, none⟩)) at e3
        simp only [e3] at hK
        go_simp
        exact hK _ _ ⟨Only.refl _ _, hI, rfl⟩
      · refine inv_step _ (by rfl) (by rfl) (fun K' hK => ?_)
        simp only [putAll, Act.put, List.setIfInBounds_toArray, List.set_cons_succ, List.set_cons_zero] at hK ⊢
        have e1 := hA 1 (hd 1 (by simp))
        change vs 1 = (.int .i64 1) at e1
        have e4 := hA 4 (hd 4 (by simp))
        change vs 4 = (.pointer (some ⟨g, 0, none⟩)) at e4
        simp only [e1, e4] at hK
        go_simp
        exact hK _ _ ⟨Only.refl _ _, hI, rfl⟩
    case fin_13 =>
      intro L vs u hI hL hA
      simp only [putAll, Act.put, List.setIfInBounds_toArray, List.set_cons_succ, List.set_cons_zero, List.drop_succ_cons, List.drop_zero]
      have e2 := hA 2 (by omega)
      change vs 2 = .agg #[Value.slice lf.Ao a.out.length lf.co, .int .i64 a.base, .bool a.closed, .bool a.done, .slice lf.Ai a.inn.length lf.ci, .int .i64 a.next, .bool a.ended, .bool a.due] at e2
      have e5 := hA 5 (by omega)
      change vs 5 = .pointer (some ⟨g, 8, none⟩) at e5
      simp only [e2, e5]
      have kb : ∀ i, u.cell? ⟨g, i, none⟩ = #[Value.slice sy.l.Ao y.e.out.length sy.l.co, .int .i64 y.e.base, .bool y.e.closed, .bool y.e.done, .slice sy.l.Ai y.e.inn.length sy.l.ci, .int .i64 y.e.next, .bool y.e.ended, .bool y.e.due, .slice sx.l.Ao x.e.out.length sx.l.co, .int .i64 x.e.base, .bool x.e.closed, .bool x.e.done, .slice sx.l.Ai x.e.inn.length sx.l.ci, .int .i64 x.e.next, .bool x.e.ended, .bool x.e.due, .slice sy.P y.sent.length sy.c, .slice sx.P x.sent.length sx.c, .string ⟨y.wr.toArray⟩, .string ⟨x.wr.toArray⟩, .string ⟨y.rd.toArray⟩, .string ⟨x.rd.toArray⟩, .bool y.over, .bool x.over, .bool wrong][i]? := fun i => (HBW.out.onlyNil hI).cell i
      have fb : ∀ i, u.frozen? ⟨g, i, none⟩ = false := fun i => (HBW.out.onlyNil hI).frozen i
      have hL4 : LK (putE 1 u g lf a) B0 g 1 { x with e := a } { sx with l := lf } y sy wrong := (HC4.out.onlyNil hI).end_ (HLF.out.next hI)
      have hO4 : Only (One g) wc (putE 1 u g lf a) := hI.any.then_ (putE_only _ _ _ _ _)
      have HL4 := Lib.hid hL4
      have HO4 := Lib.hid hO4
      clear hL4 hO4 hA hL hI e2 e5
      go_wp2_with fail
      go_meet
      case rel => exact ⟨HL4.out, HO4.out⟩
  case rest =>
  have HL4 := Lib.hid hcut.1
  have HO4 := Lib.hid hcut.2
  clear hcut
  obtain ⟨Ap, cp, hbp, hpb⟩ := HPW.out.far HC4.out.box (larr_no _ _ _ _ _ _) HGP.out HO4.out
  obtain ⟨m, hm⟩ : ∃ m, x.sent.length = m := ⟨_, rfl⟩
  have hbx4 := HL4.out.box
  unfold larr at hbx4
  rw [if_neg (by decide)] at hbx4
  have HBX4 : Hid (Blk wc g 68 #[Value.slice sy.l.Ao y.e.out.length sy.l.co, .int .i64 y.e.base, .bool y.e.closed, .bool y.e.done, .slice sy.l.Ai y.e.inn.length sy.l.ci, .int .i64 y.e.next, .bool y.e.ended, .bool y.e.due, .slice lf.Ao a.out.length lf.co, .int .i64 a.base, .bool a.closed, .bool a.done, .slice lf.Ai a.inn.length lf.ci, .int .i64 a.next, .bool a.ended, .bool a.due, .slice sy.P y.sent.length sy.c, .slice sx.P m sx.c, .string ⟨y.wr.toArray⟩, .string ⟨x.wr.toArray⟩, .string ⟨y.rd.toArray⟩, .string ⟨x.rd.toArray⟩, .bool y.over, .bool x.over, .bool wrong]) := Lib.hid (by rw [← hm]; exact hbx4)
  have HROW : Hid (wc.ownsRow B0 33 6 (.slice sx.P m sx.c) m (sx.rows.flatMap PR.cells)) := Lib.hid (by rw [← hm]; exact HL4.out.fx.row)
  have HNO0 : Hid (NoB wc (.slice sx.P m sx.c)) := Lib.hid (by rw [← hm]; exact HL4.out.fx.no)
  have HBP : Hid (Blk wc gp 33 #[Value.int .i64 sp.pair, .int .i64 sp.side, .int .i64 sp.seq, .int .i64 sp.ack, .bool sp.fin, .slice Ap sp.data.length cp]) := Lib.hid hbp
  have HPB := Lib.hid hpb
  have HB0 : Hid (B0 ≤ wc.heap.size) := Lib.hid (Nat.le_trans (Nat.le_trans HBB.out HO3.out.size) HO4.out.size)
  have HO34 := Lib.hid (HO3.out.trans HO4.out (fun x hx => .inl (by have := HC.out.new; unfold One at hx; omega)))
  have RBL : Hid (∀ q, (Value.slice sx.P m sx.c).ownBlock = some q → q < wc.heap.size) := Lib.hid (fun q hq => own_lt HROW.out hq)
  have HNGP : Hid (¬ (Value.slice sx.P m sx.c).ownBlock = some gp) := Lib.hid (fun hq => by
    have h1 := own_lt H.out.fx.row (q := gp) (by rw [hm]; exact hq)
    have h2 := HGPW.out
    omega)
  have HSM : Hid (m ≤ 1000000) := Lib.hid (by rw [← hm]; exact HSL.out)
  have HM := Lib.hid hm
  clear hbx4 hbp hpb hm
  go_upto_region 24 with fail
  have HIN : Hid (∀ (L : Nat → Bool) (vs : Nat → Value) (u u' : World), Only Nil u u' → (fun L vs u => AppI B0 (.slice sx.P m sx.c) m (sx.rows.flatMap PR.cells) (pcells Ap cp sp) wc (L 10) (vs 10) u) L vs u → (fun L vs u => AppI B0 (.slice sx.P m sx.c) m (sx.rows.flatMap PR.cells) (pcells Ap cp sp) wc (L 10) (vs 10) u) L vs u') := Lib.hid (fun L vs u u' hO hI => by
    exact hI.keep hO)
  refine wp_region_any (by kernel_rfl) ?_
  change wpAny _ _ _ _ _ _ _ (World.drew _)
  refine take_first (i := 0) (v := ?v0_14) (some 158) rfl (by rfl) (by kernel_rfl) (by kernel_rfl) (by kernel_rfl) (fun _ _ _ h => h) (Or.inl ⟨by rfl, ?hy0_14⟩) ?rest0_14
  case hy0_14 => (intro w; go_simp <;> with_reducible rfl)
  refine take_first (i := 1) (v := ?v1_14) (some 159) rfl (by rfl) (by kernel_rfl) (by kernel_rfl) (by kernel_rfl) (fun _ _ _ h => h) (Or.inl ⟨by rfl, ?hy1_14⟩) ?rest1_14
  case hy1_14 => (intro w; go_simp <;> with_reducible rfl)
  refine take_first (i := 2) (v := ?v2_14) (some 160) rfl (by rfl) (by kernel_rfl) (by kernel_rfl) (by kernel_rfl) (fun _ _ _ h => h) (Or.inl ⟨by rfl, ?hy2_14⟩) ?rest2_14
  case hy2_14 => (intro w; go_simp <;> with_reducible rfl)
  refine take_first (i := 3) (v := ?v3_14) (some 161) rfl (by rfl) (by kernel_rfl) (by kernel_rfl) (by kernel_rfl) (fun _ _ _ h => h) (Or.inl ⟨by rfl, ?hy3_14⟩) ?rest3_14
  case hy3_14 => (intro w; go_simp <;> with_reducible rfl)
  refine take_first (i := 4) (v := ?v4_14) (some 162) rfl (by rfl) (by kernel_rfl) (by kernel_rfl) (by kernel_rfl) (fun _ _ _ h => h) (Or.inl ⟨by rfl, ?hy4_14⟩) ?rest4_14
  case hy4_14 => (intro w; go_simp <;> with_reducible rfl)
  refine take_first (i := 5) (v := ?v5_14) (some 163) rfl (by rfl) (by kernel_rfl) (by kernel_rfl) (by kernel_rfl) (fun _ _ _ h => h) (Or.inl ⟨by rfl, ?hy5_14⟩) ?rest5_14
  case hy5_14 => (intro w; go_simp <;> with_reducible rfl)
  refine take_first (i := 6) (v := ?v6_14) (some 164) rfl (by rfl) (by kernel_rfl) (by kernel_rfl) (by kernel_rfl) (fun _ _ _ h => h) (Or.inl ⟨by rfl, ?hy6_14⟩) ?rest6_14
  case hy6_14 => (intro w; go_simp <;> with_reducible rfl)
  refine take_first (i := 11) (v := ?v11_14) (some 169) rfl (by rfl) (by kernel_rfl) (by kernel_rfl) (by kernel_rfl) (fun _ _ _ h => h) (Or.inl ⟨by rfl, ?hy11_14⟩) ?rest11_14
  case hy11_14 => (intro w; go_simp <;> with_reducible rfl)
  refine take_first (i := 12) (v := ?v12_14) (some 170) rfl (by rfl) (by kernel_rfl) (by kernel_rfl) (by kernel_rfl) (fun _ _ _ h => h) (Or.inl ⟨by rfl, ?hy12_14⟩) ?rest12_14
  case hy12_14 => (intro w; go_simp <;> with_reducible rfl)
  refine wpAny_inv2 (X := [(7, some 165, []), (8, some 166, []), (9, some 167, [8]), (10, some 168, [7, 9]), (13, some 171, [])]) (n := 5) (g := 1) (m := 14) (l0 := [true, true, true, true, true, true, true, false, false, false, false, true, true, false, false]) (T := fun q => (Value.slice sx.P m sx.c).ownBlock = some q) (Ps := [Any, Any, Any, Any, Any, Any, Any, Cst (.slice sx.P m sx.c), Cst (.agg #[Value.int .i64 sp.pair, .int .i64 sp.side, .int .i64 sp.seq, .int .i64 sp.ack, .bool sp.fin, .slice Ap sp.data.length cp]), NewP wc.heap.size (pcells Ap cp sp), Any, Any, Any, Cst (.pointer (some ⟨g, 17, none⟩))])
    (I := fun L vs u => AppI B0 (.slice sx.P m sx.c) m (sx.rows.flatMap PR.cells) (pcells Ap cp sp) wc (L 10) (vs 10) u)
    (by kernel_rfl) rfl (by kernel_rfl) (by kernel_rfl) (by kernel_rfl) rfl ?h0_14 ?st_14 ?i0_14 ?step_14 ?fin_14
  case h0_14 =>
    intro j hj v u
    match j, hj with
    | 0, hj => trivial
    | 1, hj => trivial
    | 2, hj => trivial
    | 3, hj => trivial
    | 4, hj => trivial
    | 5, hj => trivial
    | 6, hj => trivial
    | 7, hj => exact absurd hj (by decide)
    | 8, hj => exact absurd hj (by decide)
    | 9, hj => exact absurd hj (by decide)
    | 10, hj => exact absurd hj (by decide)
    | 11, hj => trivial
    | 12, hj => trivial
    | 13, hj => exact absurd hj (by decide)
    | 14, hj => exact absurd hj (by decide)
    | n + 15, hj => exact absurd hj (by simp)
  case st_14 =>
    intro p hp
    simp only [List.mem_cons, List.not_mem_nil, or_false] at hp
    rcases hp with rfl | rfl | rfl | rfl | rfl | rfl | rfl | rfl | rfl | rfl | rfl | rfl | rfl | rfl <;> first | exact Stays.cst _ | exact Stays.any | exact Stays.newp RBL.out
  case i0_14 =>
    intro vs
    exact AppI.zero ((Only.refl _ _).drew)
  case step_14 =>
    intro x hx L vs u hI hA h0 hd
    simp only [List.mem_cons, List.not_mem_nil, or_false] at hx
    rcases hx with rfl | rfl | rfl | rfl | rfl
    · refine inv_step _ (by rfl) (by rfl) (fun K' hK => ?_)
      simp only [putAll, Act.put, List.setIfInBounds_toArray, List.set_cons_succ, List.set_cons_zero] at hK ⊢
      have kb : ∀ i, u.cell? ⟨g, i, none⟩ = #[Value.slice sy.l.Ao y.e.out.length sy.l.co, .int .i64 y.e.base, .bool y.e.closed, .bool y.e.done, .slice sy.l.Ai y.e.inn.length sy.l.ci, .int .i64 y.e.next, .bool y.e.ended, .bool y.e.due, .slice lf.Ao a.out.length lf.co, .int .i64 a.base, .bool a.closed, .bool a.done, .slice lf.Ai a.inn.length lf.ci, .int .i64 a.next, .bool a.ended, .bool a.due, .slice sy.P y.sent.length sy.c, .slice sx.P m sx.c, .string ⟨y.wr.toArray⟩, .string ⟨x.wr.toArray⟩, .string ⟨y.rd.toArray⟩, .string ⟨x.rd.toArray⟩, .bool y.over, .bool x.over, .bool wrong][i]? := fun i => (AppI.box hI HROW.out HBX4.out).cell i
      go_simp
      exact hK _ _ ⟨Only.refl _ _, hI, rfl⟩
    · refine inv_step _ (by rfl) (by rfl) (fun K' hK => ?_)
      simp only [putAll, Act.put, List.setIfInBounds_toArray, List.set_cons_succ, List.set_cons_zero] at hK ⊢
      have kp : ∀ i, u.cell? ⟨gp, i, none⟩ = #[Value.int .i64 sp.pair, .int .i64 sp.side, .int .i64 sp.seq, .int .i64 sp.ack, .bool sp.fin, .slice Ap sp.data.length cp][i]? := fun i => (HBP.out.only (AppI.only hI) HNGP.out).cell i
      go_simp
      exact hK _ _ ⟨Only.refl _ _, hI, rfl⟩
    · refine inv_step _ (by rfl) (by rfl) (fun K' hK => ?_)
      simp only [putAll, Act.put, List.setIfInBounds_toArray, List.set_cons_succ, List.set_cons_zero] at hK ⊢
      have e8 := hA 8 (hd 8 (by simp))
      change vs 8 = (.agg #[Value.int .i64 sp.pair, .int .i64 sp.side, .int .i64 sp.seq, .int .i64 sp.ack, .bool sp.fin, .slice Ap sp.data.length cp]) at e8
      simp only [e8] at hK
      go_simp
      exact hK _ _ ⟨(Only.refl _ _).alloc _, HIN.out L vs _ _ ((Only.refl _ _).alloc _) hI, ⟨_, rfl, hI.size, Blk.new _ _ _⟩⟩
    · refine inv_step _ (by rfl) (by rfl) (fun K' hK => ?_)
      simp only [putAll, Act.put, List.setIfInBounds_toArray, List.set_cons_succ, List.set_cons_zero] at hK
      have e7 := hA 7 (hd 7 (by simp))
      change vs 7 = (.slice sx.P m sx.c) at e7
      obtain ⟨gn, e9, hgn, hbn⟩ := hA 9 (hd 9 (by simp))
      have hI0 := hI
      rw [show L 10 = false from h0] at hI0
      have hON : Only Nil wc u := hI0
      refine step_append1_no _ (by rfl) (.tmp 165) (.tmp 167) _ (by rfl) B0 33 i0 _ 6 64 Try.underlying63 hi0 hz0 hz1 hz2 rfl (by decide) (.slice sx.P m sx.c) m (sx.rows.flatMap PR.cells) (by simp [Act.eval, putAll, Act.put, e7]) (own_onlyNil HROW.out hON) (HNO0.out.only HROW.out hON (fun _ _ hx => hx)) ⟨gn, 0, none⟩ 1 (pcells Ap cp sp) (by simp [Act.eval, putAll, Act.put, e9]) rfl (fun j u' hj => by rw [add_at, Nat.zero_add, hbn.cell]; simpa using hj) (PR.cells_one ⟨Ap, cp, sp⟩) (PR.cells_nu ⟨Ap, cp, sp⟩) zP_nu (m + 1) rfl (by have := HSM.out; unfold maxLen; omega) (by have := HSM.out; omega) (Nat.le_trans HB0.out hON.size) ?_
      intro A5 c5 u5 hc5 hown5 hgr5 hat5 hno5
      simp only [putAll, Act.put, List.setIfInBounds_toArray, List.set_cons_succ, List.set_cons_zero]
      exact hK _ _ ⟨Only.of_grown hgr5, AppI.new hON hc5 hown5 hgr5 hat5 hno5, trivial⟩
    · refine inv_step _ (by rfl) (by rfl) (fun K' hK => ?_)
      simp only [putAll, Act.put, List.setIfInBounds_toArray, List.set_cons_succ, List.set_cons_zero] at hK ⊢
      go_simp
      exact hK _ _ ⟨Only.refl _ _, hI, rfl⟩
  case fin_14 =>
    intro L vs u hI hL hA
    simp only [putAll, Act.put, List.setIfInBounds_toArray, List.set_cons_succ, List.set_cons_zero, List.drop_succ_cons, List.drop_zero]
    have e13 := hA 13 (by omega)
    change vs 13 = .pointer (some ⟨g, 17, none⟩) at e13
    have hI1 := hI
    rw [hL 10 (by omega)] at hI1
    obtain ⟨A5, c5, e10, hc5, hown5, hno5, hat5, hO5⟩ := hI1
    simp only [e10, e13]
    have hb5 := AppI.box hI HROW.out HBX4.out
    have kb : ∀ i, u.cell? ⟨g, i, none⟩ = #[Value.slice sy.l.Ao y.e.out.length sy.l.co, .int .i64 y.e.base, .bool y.e.closed, .bool y.e.done, .slice sy.l.Ai y.e.inn.length sy.l.ci, .int .i64 y.e.next, .bool y.e.ended, .bool y.e.due, .slice lf.Ao a.out.length lf.co, .int .i64 a.base, .bool a.closed, .bool a.done, .slice lf.Ai a.inn.length lf.ci, .int .i64 a.next, .bool a.ended, .bool a.due, .slice sy.P y.sent.length sy.c, .slice sx.P m sx.c, .string ⟨y.wr.toArray⟩, .string ⟨x.wr.toArray⟩, .string ⟨y.rd.toArray⟩, .string ⟨x.rd.toArray⟩, .bool y.over, .bool x.over, .bool wrong][i]? := fun i => hb5.cell i
    have fb : ∀ i, u.frozen? ⟨g, i, none⟩ = false := fun i => hb5.frozen i
    have hO6 : Only (One g) u (u.setCell ⟨g, 17, none⟩ (.slice A5 (m + 1) c5)) := by (repeat' (first | with_reducible exact Only.refl _ _ | with_reducible refine Only.setCell ?_ (Or.inl ?_) _ | with_reducible refine Only.drewN ?_ _ | with_reducible refine Only.drew ?_ | with_reducible refine Only.alloc ?_ _ | (exact rfl)))
    have hb6 : Blk (u.setCell ⟨g, 17, none⟩ (.slice A5 (m + 1) c5)) g 68 (larr 1 { x with e := a, sent := x.sent ++ [sp] } { sx with l := lf, P := A5, c := c5, rows := sx.rows ++ [⟨Ap, cp, sp⟩] } y sy wrong) := by
      have h := hb5.set_ 17 (.slice A5 (m + 1) c5)
      have hl : (x.sent ++ [sp]).length = m + 1 := by rw [List.length_append, HM.out]; rfl
      unfold larr
      rw [if_neg (by decide)]
      dsimp only
      rw [hl]
      simp only [List.setIfInBounds_toArray, List.set_cons_succ, List.set_cons_zero] at h
      exact h
    have hL6 := (HL4.out.post (by rw [HM.out]; exact hO5) (by rw [HM.out]; exact hown5) (by rw [HM.out]; exact hno5) (by rw [HM.out]; exact hat5) HPB.out hO6 hb6)
    have hO56 : Only (fun b => B0 ≤ b) w (u.setCell ⟨g, 17, none⟩ (.slice A5 (m + 1) c5)) := (HO34.out.trans hO5 (fun q hq => .inl (own_base_le HROW.out hq))).trans hO6 (fun x hx => .inl (by have := HC.out.new; unfold One at hx; omega))
    have HL6 := Lib.hid hL6
    have HO56 := Lib.hid hO56
    clear hA hL hI e10 e13 hb5 hown5 hno5 hat5 hO5 hc5 hO6 hb6 hL6 hO56
    go_wp2_with fail
    refine bodyPost_end (v := .tuple #[]) (by simp [results, Try.results30, go_sem]) rfl ?_
    have hfin : ∀ u', u' = u.setCell ⟨g, 17, none⟩ (.slice A5 (m + 1) c5) → DoPost 3 n d 1 B0 g x y sy wrong w (.returned (.tuple #[])) u' := fun u' hu => by
      rw [hu]
      exact ⟨⟨_, rfl⟩, ⟨_, by rw [HST.out]; exact HL6.out⟩, HO56.out⟩
    exact hfin _ rfl


end Go.Proofs.Ytfichoekjjcjiaa
