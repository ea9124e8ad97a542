/-
  link.do: Write.
  Conditions: the link lies in memory as 'LK' says.
-/
import Derived.Test.YtfichoekjjcjiaaStK2
import Derived.BigRegion
import Derived.Deep.Cut
import Derived.Deep.DeepCutAuto
namespace Go.Proofs.Ytfichoekjjcjiaa
open Go.RowKit

set_option maxRecDepth 100000 in
set_option maxHeartbeats 8000000 in
theorem do_write0 (kd sd nn : Int) (D : Option Addr) (cd : Nat) (d : List UInt8) (n : Nat) (B0 g : Nat) (x y : Sd) (sx sy : SC) (wrong : Bool) (w : World) (hk : kd % 6 = 0) (hs : sd % 2 = 0) (hkd : 0 ≤ kd ∧ kd ≤ 255) (hsd : 0 ≤ sd ∧ sd ≤ 255) (hn : nn = n) (hn8 : n ≤ 255)
    (h : LK w B0 g 0 x sx y sy wrong) (hB : B0 ≤ w.heap.size) (hd : Bs w w.heap.size D d) (hdl : d.length ≤ 200) (hwl : x.wr.length ≤ 1000000) :
    Calls Try.prog 30 #[.pointer (some ⟨g, 0, none⟩), .agg #[.int .u8 kd, .int .u8 sd, .int .u8 nn, .slice D d.length cd]] w (DoPost 0 n d 0 B0 g x y sy wrong w) := by
  have H := Lib.hid h
  have HD := Lib.hid hd
  have HBB := Lib.hid hB
  have HDL := Lib.hid hdl
  have HGL := Lib.hid h.box.lt
  have hE := h.fx.eb
  have hbx := h.box
  unfold larr at hbx
  rw [if_pos rfl] at hbx
  have HBX := Lib.hid hbx
  obtain ⟨w1, hw1⟩ : ∃ w1, w1 = w.alloc (.cells #[.int .u8 kd, .int .u8 sd, .int .u8 nn, .slice D d.length cd] 70) := ⟨_, rfl⟩
  have hO1 : Only Nil w w1 := by rw [hw1]; exact (Only.refl _ _).alloc _
  have HA := Lib.hid (show Blk w1 w.heap.size 70 #[.int .u8 kd, .int .u8 sd, .int .u8 nn, .slice D d.length cd] by rw [hw1]; exact Blk.new _ _ _)
  have HO1 := Lib.hid hO1
  have HN := Lib.hid hn
  have HN8 := Lib.hid hn8
  have ht1 : kd.tmod 6 = 0 := by rw [Int.tmod_eq_emod_of_nonneg hkd.1, hk]
  have ht2 : sd.tmod 2 = 0 := by rw [Int.tmod_eq_emod_of_nonneg hsd.1, hs]
  clear h hd hB hdl hbx hO1 hn hn8 hkd hsd
  obtain ⟨a, cn, hce⟩ : ∃ a cn, writeE x.e d = (a, cn) := ⟨_, _, rfl⟩
  have HCE := Lib.hid hce
  have HCL := Lib.hid (fun w' hE hD => write_any sx.l x.e D cd d w' hE hD (by have := HDL.out; omega))
  rw [hce] at HCL
  have HWL := Lib.hid hwl
  clear hce hwl
  go_enter Try.func30, Try.ntmps30
  go_upto_region 1 with fail
  rw [← hw1]
  clear hw1
  have ka : ∀ i, w1.cell? ⟨w.heap.size, i, none⟩ = #[Value.int .u8 kd, .int .u8 sd, .int .u8 nn, .slice D d.length cd][i]? := fun i => HA.out.cell i
  have kb : ∀ i, w1.cell? ⟨g, i, none⟩ = #[Value.slice sx.l.Ao x.e.out.length sx.l.co, .int .i64 x.e.base, .bool x.e.closed, .bool x.e.done, .slice sx.l.Ai x.e.inn.length sx.l.ci, .int .i64 x.e.next, .bool x.e.ended, .bool x.e.due, .slice sy.l.Ao y.e.out.length sy.l.co, .int .i64 y.e.base, .bool y.e.closed, .bool y.e.done, .slice sy.l.Ai y.e.inn.length sy.l.ci, .int .i64 y.e.next, .bool y.e.ended, .bool y.e.due, .slice sx.P x.sent.length sx.c, .slice sy.P y.sent.length sy.c, .string ⟨x.wr.toArray⟩, .string ⟨y.wr.toArray⟩, .string ⟨x.rd.toArray⟩, .string ⟨y.rd.toArray⟩, .bool x.over, .bool y.over, .bool wrong][i]? := fun i => (HBX.out.onlyNil HO1.out).cell i
  go_upto_region 2 with fail
  go_cut [5] (fun pe wd => ∃ ge, pe = .pointer (some ⟨ge, 0, none⟩) ∧ Blk wd ge 29 (earr sx.l x.e) ∧ w.heap.size ≤ ge ∧ Only Nil w1 wd)
  case first =>
    go_wp2_with fail
    go_meet
    case rel => exact ⟨w1.heap.size, rfl, Blk.new _ _ _, HO1.out.size, (Only.refl _ _).alloc _⟩
  case rest =>
  obtain ⟨ge, rfl, hY, hge, hOc⟩ := hcut
  have HY := Lib.hid hY
  have HC := Lib.hid (H.out.onlyNil (HO1.out.thenNil hOc))
  have HA2 := Lib.hid (HA.out.onlyNil hOc)
  have HO2 := Lib.hid (HO1.out.thenNil hOc)
  have HGE := Lib.hid (show ge ≠ g by have := HGL.out; omega)
  clear ka kb hOc hge
  have ka : ∀ i, wc.cell? ⟨w.heap.size, i, none⟩ = #[Value.int .u8 kd, .int .u8 sd, .int .u8 nn, .slice D d.length cd][i]? := fun i => HA2.out.cell i
  have ke : ∀ i, wc.cell? ⟨ge, i, none⟩ = #[Value.slice sx.l.Ao x.e.out.length sx.l.co, .int .i64 x.e.base, .bool x.e.closed, .bool x.e.done, .slice sx.l.Ai x.e.inn.length sx.l.ci, .int .i64 x.e.next, .bool x.e.ended, .bool x.e.due][i]? := fun i => hY.cell i
  clear hY
  go_upto_region 6 with fail
  go_cut [6, 7] (fun pe q wd => ∃ gf, pe = .pointer (some ⟨gf, 0, none⟩) ∧ q = .int .i64 cn ∧ EBox 29 wd gf a ∧ w.heap.size ≤ gf ∧ Only Nil wc wd)
  case first =>
    go_wp2_with fail
    refine (HCL.out _ HC.out.fx.eb ((HD.out.onlyNil HO2.out (Nat.le_refl _)).up HO2.out.size)).mono ?_
    rintro e5 u5 ⟨l5, rfl, hE5, hO5⟩
    go_wp2_with fail
    go_meet
    case rel => exact ⟨u5.heap.size, rfl, rfl, EBox.new _ hE5, Nat.le_trans HO2.out.size hO5.size, hO5.alloc _⟩
  case rest =>
  obtain ⟨gf, rfl, rfl, hEf, hgf, hO5⟩ := hcut
  obtain ⟨lf, hbf, hlf⟩ := hEf
  have HGF := Lib.hid (show gf ≠ g by have := HGL.out; omega)
  have HC3 := Lib.hid (HC.out.onlyNil hO5)
  have HA3 := Lib.hid (HA2.out.onlyNil hO5)
  have HO3 := Lib.hid (HO2.out.thenNil hO5)
  have HLF := Lib.hid hlf
  have HBF := Lib.hid hbf
  clear ka ke hbf hlf hO5 hgf
  by_cases hcn : cn = 0
  rotate_left
  · have HST : Hid ((stepS 0 n d (0 : Nat) x y).1 = x) := Lib.hid (by
      unfold stepS
      rw [if_pos rfl, HCE.out]
      dsimp only
      rw [if_neg hcn])
    have hcb : (cn == 0) = false := beq_false_of_ne hcn
    go_wp2_with fail
    refine bodyPost_end (v := .tuple #[]) (by simp [results, Try.results30, go_sem]) rfl ?_
    exact ⟨⟨_, rfl⟩, ⟨sx, by rw [HST.out]; exact HC3.out⟩, HO3.out.any⟩
  have HST : Hid ((stepS 0 n d (0 : Nat) x y).1 = { x with e := a, wr := x.wr ++ d }) := Lib.hid (by
      unfold stepS
      rw [if_pos rfl, HCE.out]
      dsimp only
      rw [if_pos hcn])
  subst hcn
  have HBW : Hid (Blk wc g 68 #[Value.slice sx.l.Ao x.e.out.length sx.l.co, .int .i64 x.e.base, .bool x.e.closed, .bool x.e.done, .slice sx.l.Ai x.e.inn.length sx.l.ci, .int .i64 x.e.next, .bool x.e.ended, .bool x.e.due, .slice sy.l.Ao y.e.out.length sy.l.co, .int .i64 y.e.base, .bool y.e.closed, .bool y.e.done, .slice sy.l.Ai y.e.inn.length sy.l.ci, .int .i64 y.e.next, .bool y.e.ended, .bool y.e.due, .slice sx.P x.sent.length sx.c, .slice sy.P y.sent.length sy.c, .string ⟨x.wr.toArray⟩, .string ⟨y.wr.toArray⟩, .string ⟨x.rd.toArray⟩, .string ⟨y.rd.toArray⟩, .bool x.over, .bool y.over, .bool wrong]) := Lib.hid (HBX.out.onlyNil HO3.out)
  go_upto_region 8 with fail
  go_cut [] (fun wd => LK wd B0 g 0 { x with e := a } { sx with l := lf } y sy wrong ∧ Only (One g) wc wd)
  case first =>
    have HIN : Hid (∀ (L : Nat → Bool) (vs : Nat → Value) (u u' : World), Only Nil u u' → (fun _ _ u => Only Nil wc u) L vs u → (fun _ _ u => Only Nil wc u) L vs u') := Lib.hid (fun L vs u u' hO hI => by
      exact hI.thenNil hO)
    refine wp_region_inv (X := [(0, some 50, []), (1, some 51, []), (2, some 52, []), (3, some 53, [0]), (4, some 54, [3]), (5, some 55, [1, 4])]) (n := 6) (g := 1) (T := Nil) (Ps := [Cst (.pointer (some ⟨g, 0, none⟩)), Cst (.int .i64 0), Cst (.agg #[Value.slice lf.Ao a.out.length lf.co, .int .i64 a.base, .bool a.closed, .bool a.done, .slice lf.Ai a.inn.length lf.ci, .int .i64 a.next, .bool a.ended, .bool a.due]), Cst (.pointer (some ⟨g, 0, none⟩)), Cst (.pointer (some ⟨g, 0, none⟩)), Cst (.pointer (some ⟨g, 0, none⟩))])
      (I := fun _ _ u => Only Nil wc u)
      (by kernel_rfl) (by kernel_rfl) (by kernel_rfl) (by kernel_rfl) rfl ?st_3 ?i0_3 ?step_3 ?fin_3
    case st_3 =>
      have hT : ∀ x, (Nil) x → x < 0 := fun x h => h.elim
      intro p hp
      simp only [List.mem_cons, List.not_mem_nil, or_false] at hp
      rcases hp with rfl | rfl | rfl | rfl | rfl | rfl <;> first | exact Stays.cst _ | exact Stays.own hT | exact Stays.emp hT | exact Stays.any
    case i0_3 =>
      intro vs
      exact (Only.refl _ _).drew
    case step_3 =>
      intro x hx L vs u hI hA h0 hd
      simp only [List.mem_cons, List.not_mem_nil, or_false] at hx
      rcases hx with rfl | rfl | rfl | rfl | rfl | rfl
      · refine inv_step _ (by rfl) (by rfl) (fun K' hK => ?_)
        simp only [putAll, Act.put, List.setIfInBounds_toArray, List.set_cons_succ, List.set_cons_zero] at hK ⊢
        go_simp
        exact hK _ _ ⟨Only.refl _ _, hI, rfl⟩
      · refine inv_step _ (by rfl) (by rfl) (fun K' hK => ?_)
        simp only [putAll, Act.put, List.setIfInBounds_toArray, List.set_cons_succ, List.set_cons_zero] at hK ⊢
        go_simp
        exact hK _ _ ⟨Only.refl _ _, hI, rfl⟩
      · refine inv_step _ (by rfl) (by rfl) (fun K' hK => ?_)
        simp only [putAll, Act.put, List.setIfInBounds_toArray, List.set_cons_succ, List.set_cons_zero] at hK ⊢
        have kf : ∀ i, u.cell? ⟨gf, i, none⟩ = #[Value.slice lf.Ao a.out.length lf.co, .int .i64 a.base, .bool a.closed, .bool a.done, .slice lf.Ai a.inn.length lf.ci, .int .i64 a.next, .bool a.ended, .bool a.due][i]? := fun i => (HBF.out.onlyNil hI).cell i
        go_simp
        exact hK _ _ ⟨Only.refl _ _, hI, rfl⟩
      · refine inv_step _ (by rfl) (by rfl) (fun K' hK => ?_)
        simp only [putAll, Act.put, List.setIfInBounds_toArray, List.set_cons_succ, List.set_cons_zero] at hK ⊢
        have e0 := hA 0 (hd 0 (by simp))
        change vs 0 = (.pointer (some ⟨g, 0, none⟩)) at e0
        simp only [e0] at hK
        go_simp
        exact hK _ _ ⟨Only.refl _ _, hI, rfl⟩
      · refine inv_step _ (by rfl) (by rfl) (fun K' hK => ?_)
        simp only [putAll, Act.put, List.setIfInBounds_toArray, List.set_cons_succ, List.set_cons_zero] at hK ⊢
        have e3 := hA 3 (hd 3 (by simp))
        change vs 3 = (.pointer (some ⟨g, 0, none⟩)) at e3
        simp only [e3] at hK
        go_simp
        exact hK _ _ ⟨Only.refl _ _, hI, rfl⟩
      · refine inv_step _ (by rfl) (by rfl) (fun K' hK => ?_)
        simp only [putAll, Act.put, List.setIfInBounds_toArray, List.set_cons_succ, List.set_cons_zero] at hK ⊢
        have e1 := hA 1 (hd 1 (by simp))
        change vs 1 = (.int .i64 0) at e1
        have e4 := hA 4 (hd 4 (by simp))
        change vs 4 = (.pointer (some ⟨g, 0, none⟩)) at e4
        simp only [e1, e4] at hK
        go_simp
        exact hK _ _ ⟨Only.refl _ _, hI, rfl⟩
    case fin_3 =>
      intro L vs u hI hL hA
      simp only [putAll, Act.put, List.setIfInBounds_toArray, List.set_cons_succ, List.set_cons_zero, List.drop_succ_cons, List.drop_zero]
      have e2 := hA 2 (by omega)
      change vs 2 = .agg #[Value.slice lf.Ao a.out.length lf.co, .int .i64 a.base, .bool a.closed, .bool a.done, .slice lf.Ai a.inn.length lf.ci, .int .i64 a.next, .bool a.ended, .bool a.due] at e2
      have e5 := hA 5 (by omega)
      change vs 5 = .pointer (some ⟨g, 0, none⟩) at e5
      simp only [e2, e5]
      have kb : ∀ i, u.cell? ⟨g, i, none⟩ = #[Value.slice sx.l.Ao x.e.out.length sx.l.co, .int .i64 x.e.base, .bool x.e.closed, .bool x.e.done, .slice sx.l.Ai x.e.inn.length sx.l.ci, .int .i64 x.e.next, .bool x.e.ended, .bool x.e.due, .slice sy.l.Ao y.e.out.length sy.l.co, .int .i64 y.e.base, .bool y.e.closed, .bool y.e.done, .slice sy.l.Ai y.e.inn.length sy.l.ci, .int .i64 y.e.next, .bool y.e.ended, .bool y.e.due, .slice sx.P x.sent.length sx.c, .slice sy.P y.sent.length sy.c, .string ⟨x.wr.toArray⟩, .string ⟨y.wr.toArray⟩, .string ⟨x.rd.toArray⟩, .string ⟨y.rd.toArray⟩, .bool x.over, .bool y.over, .bool wrong][i]? := fun i => (HBW.out.onlyNil hI).cell i
      have fb : ∀ i, u.frozen? ⟨g, i, none⟩ = false := fun i => (HBW.out.onlyNil hI).frozen i
      have hL4 : LK (putE 0 u g lf a) B0 g 0 { x with e := a } { sx with l := lf } y sy wrong := (HC3.out.onlyNil hI).end_ (HLF.out.next hI)
      have hO4 : Only (One g) wc (putE 0 u g lf a) := hI.any.then_ (putE_only _ _ _ _ _)
      have HL4 := Lib.hid hL4
      have HO4 := Lib.hid hO4
      clear hL4 hO4 hA hL hI e2 e5
      go_wp2_with fail
      go_meet
      case rel => exact ⟨HL4.out, HO4.out⟩
  case rest =>
  have HL4 := Lib.hid hcut.1
  have HO4 := Lib.hid hcut.2
  clear hcut
  have hbx4 := HL4.out.box
  unfold larr at hbx4
  rw [if_pos rfl] at hbx4
  have HBX4 := Lib.hid hbx4
  have HA4 := Lib.hid (HA3.out.only HO4.out (by have := HGL.out; unfold One; omega))
  have hDB : Bs wc wc.heap.size D d := ((((HD.out.onlyNil HO3.out (Nat.le_refl _)).up HO3.out.size).box HC3.out.box (larr_no _ _ _ _ _ _) HO4.out (Nat.le_refl _)).up HO4.out.size)
  have hst : ∀ u, Only Nil wc u → (convert 22 9 (.slice D d.length cd)).run Try.prog u = .ok (.string ⟨d.toArray⟩) u := fun u hO => run_str (P := Try.prog) u 22 9 5 Try.underlying22 Try.underlying5 Try.underlying9 (c := cd) (hDB.onlyNil hO (Nat.le_refl _)) rfl
  have hadd : ∀ u, (Op.stringOp .add ⟨x.wr.toArray⟩ ⟨d.toArray⟩).run Try.prog u = .ok (.string ⟨(x.wr ++ d).toArray⟩) u := fun u => by
    rw [run_string_add_sum u _ _ (by
      have h1 := HWL.out
      have h2 := HDL.out
      show x.wr.toArray.size + d.toArray.size ≤ 9223372036854775807
      rw [List.size_toArray, List.size_toArray]
      omega), ByteArray.mk_append_mk]
  have HST2 := Lib.hid hst
  have HADD := Lib.hid hadd
  clear hDB hst hadd hbx4
  go_upto_region 9 with fail
  have HIN : Hid (∀ (L : Nat → Bool) (vs : Nat → Value) (u u' : World), Only Nil u u' → (fun _ _ u => Only Nil wc u) L vs u → (fun _ _ u => Only Nil wc u) L vs u') := Lib.hid (fun L vs u u' hO hI => by
    exact hI.thenNil hO)
  refine wp_region_any (by kernel_rfl) ?_
  change wpAny _ _ _ _ _ _ _ (World.drew _)
  refine take_first (i := 0) (v := ?v0_4) (some 56) rfl (by rfl) (by kernel_rfl) (by kernel_rfl) (by kernel_rfl) (fun _ _ _ h => h) (Or.inl ⟨by rfl, ?hy0_4⟩) ?rest0_4
  case hy0_4 => (intro w; go_simp <;> with_reducible rfl)
  refine take_first (i := 1) (v := ?v1_4) (some 57) rfl (by rfl) (by kernel_rfl) (by kernel_rfl) (by kernel_rfl) (fun _ _ _ h => h) (Or.inl ⟨by rfl, ?hy1_4⟩) ?rest1_4
  case hy1_4 => (intro w; go_simp <;> with_reducible rfl)
  refine take_first (i := 2) (v := ?v2_4) (some 58) rfl (by rfl) (by kernel_rfl) (by kernel_rfl) (by kernel_rfl) (fun _ _ _ h => h) (Or.inl ⟨by rfl, ?hy2_4⟩) ?rest2_4
  case hy2_4 => (intro w; go_simp <;> with_reducible rfl)
  refine take_first (i := 3) (v := ?v3_4) (some 59) rfl (by rfl) (by kernel_rfl) (by kernel_rfl) (by kernel_rfl) (fun _ _ _ h => h) (Or.inl ⟨by rfl, ?hy3_4⟩) ?rest3_4
  case hy3_4 => (intro w; go_simp <;> with_reducible rfl)
  refine take_first (i := 4) (v := ?v4_4) (some 60) rfl (by rfl) (by kernel_rfl) (by kernel_rfl) (by kernel_rfl) (fun _ _ _ h => h) (Or.inl ⟨by rfl, ?hy4_4⟩) ?rest4_4
  case hy4_4 => (intro w; go_simp <;> with_reducible rfl)
  refine take_first (i := 6) (v := ?v6_4) (some 62) rfl (by rfl) (by kernel_rfl) (by kernel_rfl) (by kernel_rfl) (fun _ _ _ h => h) (Or.inl ⟨by rfl, ?hy6_4⟩) ?rest6_4
  case hy6_4 => (intro w; go_simp <;> with_reducible rfl)
  refine take_first (i := 10) (v := ?v10_4) (some 66) rfl (by rfl) (by kernel_rfl) (by kernel_rfl) (by kernel_rfl) (fun _ _ _ h => h) (Or.inl ⟨by rfl, ?hy10_4⟩) ?rest10_4
  case hy10_4 => (intro w; go_simp <;> with_reducible rfl)
  refine take_first (i := 11) (v := ?v11_4) (some 67) rfl (by rfl) (by kernel_rfl) (by kernel_rfl) (by kernel_rfl) (fun _ _ _ h => h) (Or.inl ⟨by rfl, ?hy11_4⟩) ?rest11_4
  case hy11_4 => (intro w; go_simp <;> with_reducible rfl)
  refine wpAny_inv2 (X := [(5, some 61, []), (7, some 63, []), (8, some 64, [7]), (9, some 65, [5, 8]), (12, some 68, [])]) (n := 5) (g := 1) (m := 13) (l0 := [true, true, true, true, true, false, true, false, false, false, true, true, false, false]) (T := Nil) (Ps := [Any, Any, Any, Any, Any, Cst (.string ⟨x.wr.toArray⟩), Any, Cst (.slice D d.length cd), Cst (.string ⟨d.toArray⟩), Cst (.string ⟨(x.wr ++ d).toArray⟩), Any, Any, Cst (.pointer (some ⟨g, 18, none⟩))])
    (I := fun _ _ u => Only Nil wc u)
    (by kernel_rfl) rfl (by kernel_rfl) (by kernel_rfl) (by kernel_rfl) rfl ?h0_4 ?st_4 ?i0_4 ?step_4 ?fin_4
  case h0_4 =>
    intro j hj v u
    match j, hj with
    | 0, hj => trivial
    | 1, hj => trivial
    | 2, hj => trivial
    | 3, hj => trivial
    | 4, hj => trivial
    | 5, hj => exact absurd hj (by decide)
    | 6, hj => trivial
    | 7, hj => exact absurd hj (by decide)
    | 8, hj => exact absurd hj (by decide)
    | 9, hj => exact absurd hj (by decide)
    | 10, hj => trivial
    | 11, hj => trivial
    | 12, hj => exact absurd hj (by decide)
    | 13, hj => exact absurd hj (by decide)
    | n + 14, hj => exact absurd hj (by simp)
  case st_4 =>
    have hT : ∀ x, (Nil) x → x < 0 := fun x h => h.elim
    intro p hp
    simp only [List.mem_cons, List.not_mem_nil, or_false] at hp
    rcases hp with rfl | rfl | rfl | rfl | rfl | rfl | rfl | rfl | rfl | rfl | rfl | rfl | rfl <;> first | exact Stays.cst _ | exact Stays.own hT | exact Stays.emp hT | exact Stays.any
  case i0_4 =>
    intro vs
    exact (Only.refl _ _).drew
  case step_4 =>
    intro x hx L vs u hI hA h0 hd
    simp only [List.mem_cons, List.not_mem_nil, or_false] at hx
    rcases hx with rfl | rfl | rfl | rfl | rfl
    · refine inv_step _ (by rfl) (by rfl) (fun K' hK => ?_)
      simp only [putAll, Act.put, List.setIfInBounds_toArray, List.set_cons_succ, List.set_cons_zero] at hK ⊢
      have kb : ∀ i, u.cell? ⟨g, i, none⟩ = #[Value.slice lf.Ao a.out.length lf.co, .int .i64 a.base, .bool a.closed, .bool a.done, .slice lf.Ai a.inn.length lf.ci, .int .i64 a.next, .bool a.ended, .bool a.due, .slice sy.l.Ao y.e.out.length sy.l.co, .int .i64 y.e.base, .bool y.e.closed, .bool y.e.done, .slice sy.l.Ai y.e.inn.length sy.l.ci, .int .i64 y.e.next, .bool y.e.ended, .bool y.e.due, .slice sx.P x.sent.length sx.c, .slice sy.P y.sent.length sy.c, .string ⟨x.wr.toArray⟩, .string ⟨y.wr.toArray⟩, .string ⟨x.rd.toArray⟩, .string ⟨y.rd.toArray⟩, .bool x.over, .bool y.over, .bool wrong][i]? := fun i => (HBX4.out.onlyNil hI).cell i
      go_simp
      exact hK _ _ ⟨Only.refl _ _, hI, rfl⟩
    · refine inv_step _ (by rfl) (by rfl) (fun K' hK => ?_)
      simp only [putAll, Act.put, List.setIfInBounds_toArray, List.set_cons_succ, List.set_cons_zero] at hK ⊢
      have ka : ∀ i, u.cell? ⟨w.heap.size, i, none⟩ = #[Value.int .u8 kd, .int .u8 sd, .int .u8 nn, .slice D d.length cd][i]? := fun i => (HA4.out.onlyNil hI).cell i
      go_simp
      exact hK _ _ ⟨Only.refl _ _, hI, rfl⟩
    · refine inv_step _ (by rfl) (by rfl) (fun K' hK => ?_)
      simp only [putAll, Act.put, List.setIfInBounds_toArray, List.set_cons_succ, List.set_cons_zero] at hK ⊢
      have e7 := hA 7 (hd 7 (by simp))
      change vs 7 = (.slice D d.length cd) at e7
      simp only [e7] at hK
      have hst := HST2.out u hI
      go_simp
      exact hK _ _ ⟨Only.refl _ _, hI, rfl⟩
    · refine inv_step _ (by rfl) (by rfl) (fun K' hK => ?_)
      simp only [putAll, Act.put, List.setIfInBounds_toArray, List.set_cons_succ, List.set_cons_zero] at hK ⊢
      have e5 := hA 5 (hd 5 (by simp))
      change vs 5 = (.string ⟨x.wr.toArray⟩) at e5
      have e8 := hA 8 (hd 8 (by simp))
      change vs 8 = (.string ⟨d.toArray⟩) at e8
      simp only [e5, e8] at hK
      have hadd := HADD.out u
      go_simp
      exact hK _ _ ⟨Only.refl _ _, hI, rfl⟩
    · refine inv_step _ (by rfl) (by rfl) (fun K' hK => ?_)
      simp only [putAll, Act.put, List.setIfInBounds_toArray, List.set_cons_succ, List.set_cons_zero] at hK ⊢
      go_simp
      exact hK _ _ ⟨Only.refl _ _, hI, rfl⟩
  case fin_4 =>
    intro L vs u hI hL hA
    simp only [putAll, Act.put, List.setIfInBounds_toArray, List.set_cons_succ, List.set_cons_zero, List.drop_succ_cons, List.drop_zero]
    have e9 := hA 9 (by omega)
    change vs 9 = .string ⟨(x.wr ++ d).toArray⟩ at e9
    have e12 := hA 12 (by omega)
    change vs 12 = .pointer (some ⟨g, 18, none⟩) at e12
    simp only [e9, e12]
    have kb : ∀ i, u.cell? ⟨g, i, none⟩ = #[Value.slice lf.Ao a.out.length lf.co, .int .i64 a.base, .bool a.closed, .bool a.done, .slice lf.Ai a.inn.length lf.ci, .int .i64 a.next, .bool a.ended, .bool a.due, .slice sy.l.Ao y.e.out.length sy.l.co, .int .i64 y.e.base, .bool y.e.closed, .bool y.e.done, .slice sy.l.Ai y.e.inn.length sy.l.ci, .int .i64 y.e.next, .bool y.e.ended, .bool y.e.due, .slice sx.P x.sent.length sx.c, .slice sy.P y.sent.length sy.c, .string ⟨x.wr.toArray⟩, .string ⟨y.wr.toArray⟩, .string ⟨x.rd.toArray⟩, .string ⟨y.rd.toArray⟩, .bool x.over, .bool y.over, .bool wrong][i]? := fun i => (HBX4.out.onlyNil hI).cell i
    have fb : ∀ i, u.frozen? ⟨g, i, none⟩ = false := fun i => (HBX4.out.onlyNil hI).frozen i
    have hO6 : Only (One g) wc (u.setCell ⟨g, 18, none⟩ (.string ⟨(x.wr ++ d).toArray⟩)) := by
      refine hI.any.then_ ?_
      (repeat' (first | with_reducible exact Only.refl _ _ | with_reducible refine Only.setCell ?_ (Or.inl ?_) _ | with_reducible refine Only.drewN ?_ _ | with_reducible refine Only.drew ?_ | with_reducible refine Only.alloc ?_ _ | (exact rfl)))
    have hb6 : Blk (u.setCell ⟨g, 18, none⟩ (.string ⟨(x.wr ++ d).toArray⟩)) g 68 (larr 0 { x with e := a, wr := x.wr ++ d } { sx with l := lf } y sy wrong) := by
      have h := (HBX4.out.onlyNil hI).set_ 18 (.string ⟨(x.wr ++ d).toArray⟩)
      unfold larr
      rw [if_pos rfl]
      simp only [List.setIfInBounds_toArray, List.set_cons_succ, List.set_cons_zero] at h
      exact h
    have HL6 := Lib.hid (HL4.out.turn hO6 hb6 rfl rfl rfl rfl HL4.out.fx.eb)
    have HO6 := Lib.hid hO6
    clear hO6 hb6 hA hL hI e9 e12
    go_wp2_with fail
    refine bodyPost_end (v := .tuple #[]) (by simp [results, Try.results30, go_sem]) rfl ?_
    have hfin : ∀ u', u' = u.setCell ⟨g, 18, none⟩ (.string ⟨(x.wr ++ d).toArray⟩) → DoPost 0 n d 0 B0 g x y sy wrong w (.returned (.tuple #[])) u' := fun u' hu => by
      rw [hu]
      exact ⟨⟨_, rfl⟩, ⟨_, by rw [HST.out]; exact HL6.out⟩, (HO3.out.any.trans HO4.out (fun x hx => .inl (by have := HC.out.new; unfold One at hx; omega))).trans HO6.out (fun x hx => .inl (by have := HC.out.new; unfold One at hx; omega))⟩
    exact hfin _ rfl

set_option maxRecDepth 100000 in
set_option maxHeartbeats 8000000 in
theorem do_write1 (kd sd nn : Int) (D : Option Addr) (cd : Nat) (d : List UInt8) (n : Nat) (B0 g : Nat) (x y : Sd) (sx sy : SC) (wrong : Bool) (w : World) (hk : kd % 6 = 0) (hs : sd % 2 = 1) (hkd : 0 ≤ kd ∧ kd ≤ 255) (hsd : 0 ≤ sd ∧ sd ≤ 255) (hn : nn = n) (hn8 : n ≤ 255)
    (h : LK w B0 g 1 x sx y sy wrong) (hB : B0 ≤ w.heap.size) (hd : Bs w w.heap.size D d) (hdl : d.length ≤ 200) (hwl : x.wr.length ≤ 1000000) :
    Calls Try.prog 30 #[.pointer (some ⟨g, 0, none⟩), .agg #[.int .u8 kd, .int .u8 sd, .int .u8 nn, .slice D d.length cd]] w (DoPost 0 n d 1 B0 g x y sy wrong w) := by
  have H := Lib.hid h
  have HD := Lib.hid hd
  have HBB := Lib.hid hB
  have HDL := Lib.hid hdl
  have HGL := Lib.hid h.box.lt
  have hE := h.fx.eb
  have hbx := h.box
  unfold larr at hbx
  rw [if_neg (by decide)] at hbx
  have HBX := Lib.hid hbx
  obtain ⟨w1, hw1⟩ : ∃ w1, w1 = w.alloc (.cells #[.int .u8 kd, .int .u8 sd, .int .u8 nn, .slice D d.length cd] 70) := ⟨_, rfl⟩
  have hO1 : Only Nil w w1 := by rw [hw1]; exact (Only.refl _ _).alloc _
  have HA := Lib.hid (show Blk w1 w.heap.size 70 #[.int .u8 kd, .int .u8 sd, .int .u8 nn, .slice D d.length cd] by rw [hw1]; exact Blk.new _ _ _)
  have HO1 := Lib.hid hO1
  have HN := Lib.hid hn
  have HN8 := Lib.hid hn8
  have ht1 : kd.tmod 6 = 0 := by rw [Int.tmod_eq_emod_of_nonneg hkd.1, hk]
  have ht2 : sd.tmod 2 = 1 := by rw [Int.tmod_eq_emod_of_nonneg hsd.1, hs]
  clear h hd hB hdl hbx hO1 hn hn8 hkd hsd
  obtain ⟨a, cn, hce⟩ : ∃ a cn, writeE x.e d = (a, cn) := ⟨_, _, rfl⟩
  have HCE := Lib.hid hce
  have HCL := Lib.hid (fun w' hE hD => write_any sx.l x.e D cd d w' hE hD (by have := HDL.out; omega))
  rw [hce] at HCL
  have HWL := Lib.hid hwl
  clear hce hwl
  go_enter Try.func30, Try.ntmps30
  go_upto_region 1 with fail
  rw [← hw1]
  clear hw1
  have ka : ∀ i, w1.cell? ⟨w.heap.size, i, none⟩ = #[Value.int .u8 kd, .int .u8 sd, .int .u8 nn, .slice D d.length cd][i]? := fun i => HA.out.cell i
  have kb : ∀ i, w1.cell? ⟨g, i, none⟩ = #[Value.slice sy.l.Ao y.e.out.length sy.l.co, .int .i64 y.e.base, .bool y.e.closed, .bool y.e.done, .slice sy.l.Ai y.e.inn.length sy.l.ci, .int .i64 y.e.next, .bool y.e.ended, .bool y.e.due, .slice sx.l.Ao x.e.out.length sx.l.co, .int .i64 x.e.base, .bool x.e.closed, .bool x.e.done, .slice sx.l.Ai x.e.inn.length sx.l.ci, .int .i64 x.e.next, .bool x.e.ended, .bool x.e.due, .slice sy.P y.sent.length sy.c, .slice sx.P x.sent.length sx.c, .string ⟨y.wr.toArray⟩, .string ⟨x.wr.toArray⟩, .string ⟨y.rd.toArray⟩, .string ⟨x.rd.toArray⟩, .bool y.over, .bool x.over, .bool wrong][i]? := fun i => (HBX.out.onlyNil HO1.out).cell i
  go_upto_region 2 with fail
  go_cut [5] (fun pe wd => ∃ ge, pe = .pointer (some ⟨ge, 0, none⟩) ∧ Blk wd ge 29 (earr sx.l x.e) ∧ w.heap.size ≤ ge ∧ Only Nil w1 wd)
  case first =>
    go_wp2_with fail
    go_meet
    case rel => exact ⟨w1.heap.size, rfl, Blk.new _ _ _, HO1.out.size, (Only.refl _ _).alloc _⟩
  case rest =>
  obtain ⟨ge, rfl, hY, hge, hOc⟩ := hcut
  have HY := Lib.hid hY
  have HC := Lib.hid (H.out.onlyNil (HO1.out.thenNil hOc))
  have HA2 := Lib.hid (HA.out.onlyNil hOc)
  have HO2 := Lib.hid (HO1.out.thenNil hOc)
  have HGE := Lib.hid (show ge ≠ g by have := HGL.out; omega)
  clear ka kb hOc hge
  have ka : ∀ i, wc.cell? ⟨w.heap.size, i, none⟩ = #[Value.int .u8 kd, .int .u8 sd, .int .u8 nn, .slice D d.length cd][i]? := fun i => HA2.out.cell i
  have ke : ∀ i, wc.cell? ⟨ge, i, none⟩ = #[Value.slice sx.l.Ao x.e.out.length sx.l.co, .int .i64 x.e.base, .bool x.e.closed, .bool x.e.done, .slice sx.l.Ai x.e.inn.length sx.l.ci, .int .i64 x.e.next, .bool x.e.ended, .bool x.e.due][i]? := fun i => hY.cell i
  clear hY
  go_upto_region 6 with fail
  go_cut [6, 7] (fun pe q wd => ∃ gf, pe = .pointer (some ⟨gf, 0, none⟩) ∧ q = .int .i64 cn ∧ EBox 29 wd gf a ∧ w.heap.size ≤ gf ∧ Only Nil wc wd)
  case first =>
    go_wp2_with fail
    refine (HCL.out _ HC.out.fx.eb ((HD.out.onlyNil HO2.out (Nat.le_refl _)).up HO2.out.size)).mono ?_
    rintro e5 u5 ⟨l5, rfl, hE5, hO5⟩
    go_wp2_with fail
    go_meet
    case rel => exact ⟨u5.heap.size, rfl, rfl, EBox.new _ hE5, Nat.le_trans HO2.out.size hO5.size, hO5.alloc _⟩
  case rest =>
  obtain ⟨gf, rfl, rfl, hEf, hgf, hO5⟩ := hcut
  obtain ⟨lf, hbf, hlf⟩ := hEf
  have HGF := Lib.hid (show gf ≠ g by have := HGL.out; omega)
  have HC3 := Lib.hid (HC.out.onlyNil hO5)
  have HA3 := Lib.hid (HA2.out.onlyNil hO5)
  have HO3 := Lib.hid (HO2.out.thenNil hO5)
  have HLF := Lib.hid hlf
  have HBF := Lib.hid hbf
  clear ka ke hbf hlf hO5 hgf
  by_cases hcn : cn = 0
  rotate_left
  · have HST : Hid ((stepS 0 n d (1 : Nat) x y).1 = x) := Lib.hid (by
      unfold stepS
      rw [if_pos rfl, HCE.out]
      dsimp only
      rw [if_neg hcn])
    have hcb : (cn == 0) = false := beq_false_of_ne hcn
    go_wp2_with fail
    refine bodyPost_end (v := .tuple #[]) (by simp [results, Try.results30, go_sem]) rfl ?_
    exact ⟨⟨_, rfl⟩, ⟨sx, by rw [HST.out]; exact HC3.out⟩, HO3.out.any⟩
  have HST : Hid ((stepS 0 n d (1 : Nat) x y).1 = { x with e := a, wr := x.wr ++ d }) := Lib.hid (by
      unfold stepS
      rw [if_pos rfl, HCE.out]
      dsimp only
      rw [if_pos hcn])
  subst hcn
  have HBW : Hid (Blk wc g 68 #[Value.slice sy.l.Ao y.e.out.length sy.l.co, .int .i64 y.e.base, .bool y.e.closed, .bool y.e.done, .slice sy.l.Ai y.e.inn.length sy.l.ci, .int .i64 y.e.next, .bool y.e.ended, .bool y.e.due, .slice sx.l.Ao x.e.out.length sx.l.co, .int .i64 x.e.base, .bool x.e.closed, .bool x.e.done, .slice sx.l.Ai x.e.inn.length sx.l.ci, .int .i64 x.e.next, .bool x.e.ended, .bool x.e.due, .slice sy.P y.sent.length sy.c, .slice sx.P x.sent.length sx.c, .string ⟨y.wr.toArray⟩, .string ⟨x.wr.toArray⟩, .string ⟨y.rd.toArray⟩, .string ⟨x.rd.toArray⟩, .bool y.over, .bool x.over, .bool wrong]) := Lib.hid (HBX.out.onlyNil HO3.out)
  go_upto_region 8 with fail
  go_cut [] (fun wd => LK wd B0 g 1 { x with e := a } { sx with l := lf } y sy wrong ∧ Only (One g) wc wd)
  case first =>
    have HIN : Hid (∀ (L : Nat → Bool) (vs : Nat → Value) (u u' : World), Only Nil u u' → (fun _ _ u => Only Nil wc u) L vs u → (fun _ _ u => Only Nil wc u) L vs u') := Lib.hid (fun L vs u u' hO hI => by
      exact hI.thenNil hO)
    refine wp_region_inv (X := [(0, some 50, []), (1, some 51, []), (2, some 52, []), (3, some 53, [0]), (4, some 54, [3]), (5, some 55, [1, 4])]) (n := 6) (g := 1) (T := Nil) (Ps := [Cst (.pointer (some ⟨g, 0, none⟩)), Cst (.int .i64 1), Cst (.agg #[Value.slice lf.Ao a.out.length lf.co, .int .i64 a.base, .bool a.closed, .bool a.done, .slice lf.Ai a.inn.length lf.ci, .int .i64 a.next, .bool a.ended, .bool a.due]), Cst (.pointer (some ⟨g, 0, none⟩)), Cst (.pointer (some ⟨g, 0, none⟩)), Cst (.pointer (some ⟨g, 8, none⟩))])
      (I := fun _ _ u => Only Nil wc u)
      (by kernel_rfl) (by kernel_rfl) (by kernel_rfl) (by kernel_rfl) rfl ?st_5 ?i0_5 ?step_5 ?fin_5
    case st_5 =>
      have hT : ∀ x, (Nil) x → x < 0 := fun x h => h.elim
      intro p hp
      simp only [List.mem_cons, List.not_mem_nil, or_false] at hp
      rcases hp with rfl | rfl | rfl | rfl | rfl | rfl <;> first | exact Stays.cst _ | exact Stays.own hT | exact Stays.emp hT | exact Stays.any
    case i0_5 =>
      intro vs
      exact (Only.refl _ _).drew
    case step_5 =>
      intro x hx L vs u hI hA h0 hd
      simp only [List.mem_cons, List.not_mem_nil, or_false] at hx
      rcases hx with rfl | rfl | rfl | rfl | rfl | rfl
      · refine inv_step _ (by rfl) (by rfl) (fun K' hK => ?_)
        simp only [putAll, Act.put, List.setIfInBounds_toArray, List.set_cons_succ, List.set_cons_zero] at hK ⊢
        go_simp
        exact hK _ _ ⟨Only.refl _ _, hI, rfl⟩
      · refine inv_step _ (by rfl) (by rfl) (fun K' hK => ?_)
        simp only [putAll, Act.put, List.setIfInBounds_toArray, List.set_cons_succ, List.set_cons_zero] at hK ⊢
        go_simp
        exact hK _ _ ⟨Only.refl _ _, hI, rfl⟩
      · refine inv_step _ (by rfl) (by rfl) (fun K' hK => ?_)
        simp only [putAll, Act.put, List.setIfInBounds_toArray, List.set_cons_succ, List.set_cons_zero] at hK ⊢
        have kf : ∀ i, u.cell? ⟨gf, i, none⟩ = #[Value.slice lf.Ao a.out.length lf.co, .int .i64 a.base, .bool a.closed, .bool a.done, .slice lf.Ai a.inn.length lf.ci, .int .i64 a.next, .bool a.ended, .bool a.due][i]? := fun i => (HBF.out.onlyNil hI).cell i
        go_simp
        exact hK _ _ ⟨Only.refl _ _, hI, rfl⟩
      · refine inv_step _ (by rfl) (by rfl) (fun K' hK => ?_)
        simp only [putAll, Act.put, List.setIfInBounds_toArray, List.set_cons_succ, List.set_cons_zero] at hK ⊢
        have e0 := hA 0 (hd 0 (by simp))
        change vs 0 = (.pointer (some ⟨g, 0, none⟩)) at e0
        simp only [e0] at hK
        go_simp
        exact hK _ _ ⟨Only.refl _ _, hI, rfl⟩
      · refine inv_step _ (by rfl) (by rfl) (fun K' hK => ?_)
        simp only [putAll, Act.put, List.setIfInBounds_toArray, List.set_cons_succ, List.set_cons_zero] at hK ⊢
        have e3 := hA 3 (hd 3 (by simp))
        change vs 3 = (.pointer (some ⟨g, 0, none⟩)) at e3
        simp only [e3] at hK
        go_simp
        exact hK _ _ ⟨Only.refl _ _, hI, rfl⟩
      · refine inv_step _ (by rfl) (by rfl) (fun K' hK => ?_)
        simp only [putAll, Act.put, List.setIfInBounds_toArray, List.set_cons_succ, List.set_cons_zero] at hK ⊢
        have e1 := hA 1 (hd 1 (by simp))
        change vs 1 = (.int .i64 1) at e1
        have e4 := hA 4 (hd 4 (by simp))
        change vs 4 = (.pointer (some ⟨g, 0, none⟩)) at e4
        simp only [e1, e4] at hK
        go_simp
        exact hK _ _ ⟨Only.refl _ _, hI, rfl⟩
    case fin_5 =>
      intro L vs u hI hL hA
      simp only [putAll, Act.put, List.setIfInBounds_toArray, List.set_cons_succ, List.set_cons_zero, List.drop_succ_cons, List.drop_zero]
      have e2 := hA 2 (by omega)
      change vs 2 = .agg #[Value.slice lf.Ao a.out.length lf.co, .int .i64 a.base, .bool a.closed, .bool a.done, .slice lf.Ai a.inn.length lf.ci, .int .i64 a.next, .bool a.ended, .bool a.due] at e2
      have e5 := hA 5 (by omega)
      change vs 5 = .pointer (some ⟨g, 8, none⟩) at e5
      simp only [e2, e5]
      have kb : ∀ i, u.cell? ⟨g, i, none⟩ = #[Value.slice sy.l.Ao y.e.out.length sy.l.co, .int .i64 y.e.base, .bool y.e.closed, .bool y.e.done, .slice sy.l.Ai y.e.inn.length sy.l.ci, .int .i64 y.e.next, .bool y.e.ended, .bool y.e.due, .slice sx.l.Ao x.e.out.length sx.l.co, .int .i64 x.e.base, .bool x.e.closed, .bool x.e.done, .slice sx.l.Ai x.e.inn.length sx.l.ci, .int .i64 x.e.next, .bool x.e.ended, .bool x.e.due, .slice sy.P y.sent.length sy.c, .slice sx.P x.sent.length sx.c, .string ⟨y.wr.toArray⟩, .string ⟨x.wr.toArray⟩, .string ⟨y.rd.toArray⟩, .string ⟨x.rd.toArray⟩, .bool y.over, .bool x.over, .bool wrong][i]? := fun i => (HBW.out.onlyNil hI).cell i
      have fb : ∀ i, u.frozen? ⟨g, i, none⟩ = false := fun i => (HBW.out.onlyNil hI).frozen i
      have hL4 : LK (putE 1 u g lf a) B0 g 1 { x with e := a } { sx with l := lf } y sy wrong := (HC3.out.onlyNil hI).end_ (HLF.out.next hI)
      have hO4 : Only (One g) wc (putE 1 u g lf a) := hI.any.then_ (putE_only _ _ _ _ _)
      have HL4 := Lib.hid hL4
      have HO4 := Lib.hid hO4
      clear hL4 hO4 hA hL hI e2 e5
      go_wp2_with fail
      go_meet
      case rel => exact ⟨HL4.out, HO4.out⟩
  case rest =>
  have HL4 := Lib.hid hcut.1
  have HO4 := Lib.hid hcut.2
  clear hcut
  have hbx4 := HL4.out.box
  unfold larr at hbx4
  rw [if_neg (by decide)] at hbx4
  have HBX4 := Lib.hid hbx4
  have HA4 := Lib.hid (HA3.out.only HO4.out (by have := HGL.out; unfold One; omega))
  have hDB : Bs wc wc.heap.size D d := ((((HD.out.onlyNil HO3.out (Nat.le_refl _)).up HO3.out.size).box HC3.out.box (larr_no _ _ _ _ _ _) HO4.out (Nat.le_refl _)).up HO4.out.size)
  have hst : ∀ u, Only Nil wc u → (convert 22 9 (.slice D d.length cd)).run Try.prog u = .ok (.string ⟨d.toArray⟩) u := fun u hO => run_str (P := Try.prog) u 22 9 5 Try.underlying22 Try.underlying5 Try.underlying9 (c := cd) (hDB.onlyNil hO (Nat.le_refl _)) rfl
  have hadd : ∀ u, (Op.stringOp .add ⟨x.wr.toArray⟩ ⟨d.toArray⟩).run Try.prog u = .ok (.string ⟨(x.wr ++ d).toArray⟩) u := fun u => by
    rw [run_string_add_sum u _ _ (by
      have h1 := HWL.out
      have h2 := HDL.out
      show x.wr.toArray.size + d.toArray.size ≤ 9223372036854775807
      rw [List.size_toArray, List.size_toArray]
      omega), ByteArray.mk_append_mk]
  have HST2 := Lib.hid hst
  have HADD := Lib.hid hadd
  clear hDB hst hadd hbx4
  go_upto_region 9 with fail
  have HIN : Hid (∀ (L : Nat → Bool) (vs : Nat → Value) (u u' : World), Only Nil u u' → (fun _ _ u => Only Nil wc u) L vs u → (fun _ _ u => Only Nil wc u) L vs u') := Lib.hid (fun L vs u u' hO hI => by
    exact hI.thenNil hO)
  refine wp_region_any (by kernel_rfl) ?_
  change wpAny _ _ _ _ _ _ _ (World.drew _)
  refine take_first (i := 0) (v := ?v0_6) (some 56) rfl (by rfl) (by kernel_rfl) (by kernel_rfl) (by kernel_rfl) (fun _ _ _ h => h) (Or.inl ⟨by rfl, ?hy0_6⟩) ?rest0_6
  case hy0_6 => (intro w; go_simp <;> with_reducible rfl)
  refine take_first (i := 1) (v := ?v1_6) (some 57) rfl (by rfl) (by kernel_rfl) (by kernel_rfl) (by kernel_rfl) (fun _ _ _ h => h) (Or.inl ⟨by rfl, ?hy1_6⟩) ?rest1_6
  case hy1_6 => (intro w; go_simp <;> with_reducible rfl)
  refine take_first (i := 2) (v := ?v2_6) (some 58) rfl (by rfl) (by kernel_rfl) (by kernel_rfl) (by kernel_rfl) (fun _ _ _ h => h) (Or.inl ⟨by rfl, ?hy2_6⟩) ?rest2_6
  case hy2_6 => (intro w; go_simp <;> with_reducible rfl)
  refine take_first (i := 3) (v := ?v3_6) (some 59) rfl (by rfl) (by kernel_rfl) (by kernel_rfl) (by kernel_rfl) (fun _ _ _ h => h) (Or.inl ⟨by rfl, ?hy3_6⟩) ?rest3_6
  case hy3_6 => (intro w; go_simp <;> with_reducible rfl)
  refine take_first (i := 4) (v := ?v4_6) (some 60) rfl (by rfl) (by kernel_rfl) (by kernel_rfl) (by kernel_rfl) (fun _ _ _ h => h) (Or.inl ⟨by rfl, ?hy4_6⟩) ?rest4_6
  case hy4_6 => (intro w; go_simp <;> with_reducible rfl)
  refine take_first (i := 6) (v := ?v6_6) (some 62) rfl (by rfl) (by kernel_rfl) (by kernel_rfl) (by kernel_rfl) (fun _ _ _ h => h) (Or.inl ⟨by rfl, ?hy6_6⟩) ?rest6_6
  case hy6_6 => (intro w; go_simp <;> with_reducible rfl)
  refine take_first (i := 10) (v := ?v10_6) (some 66) rfl (by rfl) (by kernel_rfl) (by kernel_rfl) (by kernel_rfl) (fun _ _ _ h => h) (Or.inl ⟨by rfl, ?hy10_6⟩) ?rest10_6
  case hy10_6 => (intro w; go_simp <;> with_reducible rfl)
  refine take_first (i := 11) (v := ?v11_6) (some 67) rfl (by rfl) (by kernel_rfl) (by kernel_rfl) (by kernel_rfl) (fun _ _ _ h => h) (Or.inl ⟨by rfl, ?hy11_6⟩) ?rest11_6
  case hy11_6 => (intro w; go_simp <;> with_reducible rfl)
  refine wpAny_inv2 (X := [(5, some 61, []), (7, some 63, []), (8, some 64, [7]), (9, some 65, [5, 8]), (12, some 68, [])]) (n := 5) (g := 1) (m := 13) (l0 := [true, true, true, true, true, false, true, false, false, false, true, true, false, false]) (T := Nil) (Ps := [Any, Any, Any, Any, Any, Cst (.string ⟨x.wr.toArray⟩), Any, Cst (.slice D d.length cd), Cst (.string ⟨d.toArray⟩), Cst (.string ⟨(x.wr ++ d).toArray⟩), Any, Any, Cst (.pointer (some ⟨g, 19, none⟩))])
    (I := fun _ _ u => Only Nil wc u)
    (by kernel_rfl) rfl (by kernel_rfl) (by kernel_rfl) (by kernel_rfl) rfl ?h0_6 ?st_6 ?i0_6 ?step_6 ?fin_6
  case h0_6 =>
    intro j hj v u
    match j, hj with
    | 0, hj => trivial
    | 1, hj => trivial
    | 2, hj => trivial
    | 3, hj => trivial
    | 4, hj => trivial
    | 5, hj => exact absurd hj (by decide)
    | 6, hj => trivial
    | 7, hj => exact absurd hj (by decide)
    | 8, hj => exact absurd hj (by decide)
    | 9, hj => exact absurd hj (by decide)
    | 10, hj => trivial
    | 11, hj => trivial
    | 12, hj => exact absurd hj (by decide)
    | 13, hj => exact absurd hj (by decide)
    | n + 14, hj => exact absurd hj (by simp)
  case st_6 =>
    have hT : ∀ x, (Nil) x → x < 0 := fun x h => h.elim
    intro p hp
    simp only [List.mem_cons, List.not_mem_nil, or_false] at hp
    rcases hp with rfl | rfl | rfl | rfl | rfl | rfl | rfl | rfl | rfl | rfl | rfl | rfl | rfl <;> first | exact Stays.cst _ | exact Stays.own hT | exact Stays.emp hT | exact Stays.any
  case i0_6 =>
    intro vs
    exact (Only.refl _ _).drew
  case step_6 =>
    intro x hx L vs u hI hA h0 hd
    simp only [List.mem_cons, List.not_mem_nil, or_false] at hx
    rcases hx with rfl | rfl | rfl | rfl | rfl
    · refine inv_step _ (by rfl) (by rfl) (fun K' hK => ?_)
      simp only [putAll, Act.put, List.setIfInBounds_toArray, List.set_cons_succ, List.set_cons_zero] at hK ⊢
      have kb : ∀ i, u.cell? ⟨g, i, none⟩ = #[Value.slice sy.l.Ao y.e.out.length sy.l.co, .int .i64 y.e.base, .bool y.e.closed, .bool y.e.done, .slice sy.l.Ai y.e.inn.length sy.l.ci, .int .i64 y.e.next, .bool y.e.ended, .bool y.e.due, .slice lf.Ao a.out.length lf.co, .int .i64 a.base, .bool a.closed, .bool a.done, .slice lf.Ai a.inn.length lf.ci, .int .i64 a.next, .bool a.ended, .bool a.due, .slice sy.P y.sent.length sy.c, .slice sx.P x.sent.length sx.c, .string ⟨y.wr.toArray⟩, .string ⟨x.wr.toArray⟩, .string ⟨y.rd.toArray⟩, .string ⟨x.rd.toArray⟩, .bool y.over, .bool x.over, .bool wrong][i]? := fun i => (HBX4.out.onlyNil hI).cell i
      go_simp
      exact hK _ _ ⟨Only.refl _ _, hI, rfl⟩
    · refine inv_step _ (by rfl) (by rfl) (fun K' hK => ?_)
      simp only [putAll, Act.put, List.setIfInBounds_toArray, List.set_cons_succ, List.set_cons_zero] at hK ⊢
      have ka : ∀ i, u.cell? ⟨w.heap.size, i, none⟩ = #[Value.int .u8 kd, .int .u8 sd, .int .u8 nn, .slice D d.length cd][i]? := fun i => (HA4.out.onlyNil hI).cell i
      go_simp
      exact hK _ _ ⟨Only.refl _ _, hI, rfl⟩
    · refine inv_step _ (by rfl) (by rfl) (fun K' hK => ?_)
      simp only [putAll, Act.put, List.setIfInBounds_toArray, List.set_cons_succ, List.set_cons_zero] at hK ⊢
      have e7 := hA 7 (hd 7 (by simp))
      change vs 7 = (.slice D d.length cd) at e7
      simp only [e7] at hK
      have hst := HST2.out u hI
      go_simp
      exact hK _ _ ⟨Only.refl _ _, hI, rfl⟩
    · refine inv_step _ (by rfl) (by rfl) (fun K' hK => ?_)
      simp only [putAll, Act.put, List.setIfInBounds_toArray, List.set_cons_succ, List.set_cons_zero] at hK ⊢
      have e5 := hA 5 (hd 5 (by simp))
      change vs 5 = (.string ⟨x.wr.toArray⟩) at e5
      have e8 := hA 8 (hd 8 (by simp))
      change vs 8 = (.string ⟨d.toArray⟩) at e8
      simp only [e5, e8] at hK
      have hadd := HADD.out u
      go_simp
      exact hK _ _ ⟨Only.refl _ _, hI, rfl⟩
    · refine inv_step _ (by rfl) (by rfl) (fun K' hK => ?_)
      simp only [putAll, Act.put, List.setIfInBounds_toArray, List.set_cons_succ, List.set_cons_zero] at hK ⊢
      go_simp
      exact hK _ _ ⟨Only.refl _ _, hI, rfl⟩
  case fin_6 =>
    intro L vs u hI hL hA
    simp only [putAll, Act.put, List.setIfInBounds_toArray, List.set_cons_succ, List.set_cons_zero, List.drop_succ_cons, List.drop_zero]
    have e9 := hA 9 (by omega)
    change vs 9 = .string ⟨(x.wr ++ d).toArray⟩ at e9
    have e12 := hA 12 (by omega)
    change vs 12 = .pointer (some ⟨g, 19, none⟩) at e12
    simp only [e9, e12]
    have kb : ∀ i, u.cell? ⟨g, i, none⟩ = #[Value.slice sy.l.Ao y.e.out.length sy.l.co, .int .i64 y.e.base, .bool y.e.closed, .bool y.e.done, .slice sy.l.Ai y.e.inn.length sy.l.ci, .int .i64 y.e.next, .bool y.e.ended, .bool y.e.due, .slice lf.Ao a.out.length lf.co, .int .i64 a.base, .bool a.closed, .bool a.done, .slice lf.Ai a.inn.length lf.ci, .int .i64 a.next, .bool a.ended, .bool a.due, .slice sy.P y.sent.length sy.c, .slice sx.P x.sent.length sx.c, .string ⟨y.wr.toArray⟩, .string ⟨x.wr.toArray⟩, .string ⟨y.rd.toArray⟩, .string ⟨x.rd.toArray⟩, .bool y.over, .bool x.over, .bool wrong][i]? := fun i => (HBX4.out.onlyNil hI).cell i
    have fb : ∀ i, u.frozen? ⟨g, i, none⟩ = false := fun i => (HBX4.out.onlyNil hI).frozen i
    have hO6 : Only (One g) wc (u.setCell ⟨g, 19, none⟩ (.string ⟨(x.wr ++ d).toArray⟩)) := by
      refine hI.any.then_ ?_
      (repeat' (first | with_reducible exact Only.refl _ _ | with_reducible refine Only.setCell ?_ (Or.inl ?_) _ | with_reducible refine Only.drewN ?_ _ | with_reducible refine Only.drew ?_ | with_reducible refine Only.alloc ?_ _ | (exact rfl)))
    have hb6 : Blk (u.setCell ⟨g, 19, none⟩ (.string ⟨(x.wr ++ d).toArray⟩)) g 68 (larr 1 { x with e := a, wr := x.wr ++ d } { sx with l := lf } y sy wrong) := by
      have h := (HBX4.out.onlyNil hI).set_ 19 (.string ⟨(x.wr ++ d).toArray⟩)
      unfold larr
      rw [if_neg (by decide)]
      simp only [List.setIfInBounds_toArray, List.set_cons_succ, List.set_cons_zero] at h
      exact h
    have HL6 := Lib.hid (HL4.out.turn hO6 hb6 rfl rfl rfl rfl HL4.out.fx.eb)
    have HO6 := Lib.hid hO6
    clear hO6 hb6 hA hL hI e9 e12
    go_wp2_with fail
    refine bodyPost_end (v := .tuple #[]) (by simp [results, Try.results30, go_sem]) rfl ?_
    have hfin : ∀ u', u' = u.setCell ⟨g, 19, none⟩ (.string ⟨(x.wr ++ d).toArray⟩) → DoPost 0 n d 1 B0 g x y sy wrong w (.returned (.tuple #[])) u' := fun u' hu => by
      rw [hu]
      exact ⟨⟨_, rfl⟩, ⟨_, by rw [HST.out]; exact HL6.out⟩, (HO3.out.any.trans HO4.out (fun x hx => .inl (by have := HC.out.new; unfold One at hx; omega))).trans HO6.out (fun x hx => .inl (by have := HC.out.new; unfold One at hx; omega))⟩
    exact hfin _ rfl


end Go.Proofs.Ytfichoekjjcjiaa
