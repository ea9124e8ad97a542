/-
  link.do: Read.
  Conditions: the link lies in memory as 'LK' says.
-/
import Derived.Test.YtfichoekjjcjiaaStK2
import Derived.BigRegion
import Derived.StillTailTactics
import Derived.Deep.Cut
import Derived.Deep.DeepCutAuto
namespace Go.Proofs.Ytfichoekjjcjiaa
open Go.RowKit

set_option maxRecDepth 100000 in
set_option maxHeartbeats 8000000 in
theorem do_read0 (kd sd nn : Int) (D : Option Addr) (cd : Nat) (d : List UInt8) (n : Nat) (B0 g : Nat) (x y : Sd) (sx sy : SC) (wrong : Bool) (w : World) (hk : kd % 6 = 1) (hs : sd % 2 = 0) (hkd : 0 ≤ kd ∧ kd ≤ 255) (hsd : 0 ≤ sd ∧ sd ≤ 255) (hn : nn = n) (hn8 : n ≤ 255)
    (h : LK w B0 g 0 x sx y sy wrong) (hB : B0 ≤ w.heap.size) (hd : Bs w w.heap.size D d) (hdl : d.length ≤ 200) (hrl : x.rd.length ≤ 1000000) :
    Calls Try.prog 30 #[.pointer (some ⟨g, 0, none⟩), .agg #[.int .u8 kd, .int .u8 sd, .int .u8 nn, .slice D d.length cd]] w (DoPost 1 n d 0 B0 g x y sy wrong w) := by
  have H := Lib.hid h
  have HD := Lib.hid hd
  have HBB := Lib.hid hB
  have HDL := Lib.hid hdl
  have HGL := Lib.hid h.box.lt
  have hE := h.fx.eb
  have hbx := h.box
  unfold larr at hbx
  rw [if_pos rfl] at hbx
  have HBX := Lib.hid hbx
  obtain ⟨w1, hw1⟩ : ∃ w1, w1 = w.alloc (.cells #[.int .u8 kd, .int .u8 sd, .int .u8 nn, .slice D d.length cd] 70) := ⟨_, rfl⟩
  have hO1 : Only Nil w w1 := by rw [hw1]; exact (Only.refl _ _).alloc _
  have HA := Lib.hid (show Blk w1 w.heap.size 70 #[.int .u8 kd, .int .u8 sd, .int .u8 nn, .slice D d.length cd] by rw [hw1]; exact Blk.new _ _ _)
  have HO1 := Lib.hid hO1
  have HN := Lib.hid hn
  have HN8 := Lib.hid hn8
  have ht1 : kd.tmod 6 = 1 := by rw [Int.tmod_eq_emod_of_nonneg hkd.1, hk]
  have ht2 : sd.tmod 2 = 0 := by rw [Int.tmod_eq_emod_of_nonneg hsd.1, hs]
  clear h hd hB hdl hbx hO1 hn hn8 hkd hsd
  obtain ⟨a, rdd, rn, hrd⟩ : ∃ a q m, readE x.e (1 + nn) = (a, q, m) := ⟨_, _, _, rfl⟩
  have HCL := Lib.hid (fun w' hE => read_any sx.l x.e (1 + nn) w' hE (by have := HN.out; have := HN8.out; omega))
  rw [hrd] at HCL
  have hR300 : VE x.e → rdd.length ≤ 128 := fun hv => by
    have h2 := hv.2.1
    have h3 : rdd = (readE x.e (1 + nn)).2.1 := by rw [hrd]
    rw [h3]
    unfold readE
    split
    · simp
    · split
      · simp
      · split
        · simp
        · dsimp only
          rw [List.length_take]
          omega
  have HR300 := Lib.hid hR300
  have HRD : Hid (readE x.e (1 + (n : Int)) = (a, rdd, rn)) := Lib.hid (by rw [← HN.out]; exact hrd)
  have hnn0 : 0 ≤ nn := by have := HN.out; omega
  have hnn1 : nn ≤ 255 := by have := HN.out; have := HN8.out; omega
  have HRL := Lib.hid hrl
  clear hrd hrl hR300
  go_enter Try.func30, Try.ntmps30
  go_upto_region 1 with fail
  rw [← hw1]
  clear hw1
  have ka : ∀ i, w1.cell? ⟨w.heap.size, i, none⟩ = #[Value.int .u8 kd, .int .u8 sd, .int .u8 nn, .slice D d.length cd][i]? := fun i => HA.out.cell i
  have kb : ∀ i, w1.cell? ⟨g, i, none⟩ = #[Value.slice sx.l.Ao x.e.out.length sx.l.co, .int .i64 x.e.base, .bool x.e.closed, .bool x.e.done, .slice sx.l.Ai x.e.inn.length sx.l.ci, .int .i64 x.e.next, .bool x.e.ended, .bool x.e.due, .slice sy.l.Ao y.e.out.length sy.l.co, .int .i64 y.e.base, .bool y.e.closed, .bool y.e.done, .slice sy.l.Ai y.e.inn.length sy.l.ci, .int .i64 y.e.next, .bool y.e.ended, .bool y.e.due, .slice sx.P x.sent.length sx.c, .slice sy.P y.sent.length sy.c, .string ⟨x.wr.toArray⟩, .string ⟨y.wr.toArray⟩, .string ⟨x.rd.toArray⟩, .string ⟨y.rd.toArray⟩, .bool x.over, .bool y.over, .bool wrong][i]? := fun i => (HBX.out.onlyNil HO1.out).cell i
  go_upto_region 2 with fail
  go_cut [5] (fun pe wd => ∃ ge, pe = .pointer (some ⟨ge, 0, none⟩) ∧ Blk wd ge 29 (earr sx.l x.e) ∧ w.heap.size ≤ ge ∧ Only Nil w1 wd)
  case first =>
    go_wp2_with fail
    go_meet
    case rel => exact ⟨w1.heap.size, rfl, Blk.new _ _ _, HO1.out.size, (Only.refl _ _).alloc _⟩
  case rest =>
  obtain ⟨ge, rfl, hY, hge, hOc⟩ := hcut
  have HY := Lib.hid hY
  have HC := Lib.hid (H.out.onlyNil (HO1.out.thenNil hOc))
  have HA2 := Lib.hid (HA.out.onlyNil hOc)
  have HO2 := Lib.hid (HO1.out.thenNil hOc)
  have HGE := Lib.hid (show ge ≠ g by have := HGL.out; omega)
  clear ka kb hOc hge
  have ka : ∀ i, wc.cell? ⟨w.heap.size, i, none⟩ = #[Value.int .u8 kd, .int .u8 sd, .int .u8 nn, .slice D d.length cd][i]? := fun i => HA2.out.cell i
  have ke : ∀ i, wc.cell? ⟨ge, i, none⟩ = #[Value.slice sx.l.Ao x.e.out.length sx.l.co, .int .i64 x.e.base, .bool x.e.closed, .bool x.e.done, .slice sx.l.Ai x.e.inn.length sx.l.ci, .int .i64 x.e.next, .bool x.e.ended, .bool x.e.due][i]? := fun i => hY.cell i
  clear hY
  go_upto_region 11 with fail
  go_cut [8, 9, 10] (fun pe q v wd => ∃ gf Ad cad, pe = .pointer (some ⟨gf, 0, none⟩) ∧ q = .slice Ad rdd.length cad ∧ v = .int .i64 rn ∧ EBox 29 wd gf a ∧ Bs wd wd.heap.size Ad rdd ∧ w.heap.size ≤ gf ∧ Only Nil wc wd)
  case first =>
    go_wp2_with fail
    refine (HCL.out _ HC.out.fx.eb).mono ?_
    rintro e5 u5 ⟨l5, Ad, cad, rfl, hE5, hB5, hc5, hO5⟩
    go_wp2_with fail
    go_meet
    case rel =>
      have hO6 : Only Nil u5 (u5.alloc (.cells (earr l5 a) 29)) := (Only.refl _ _).alloc _
      exact ⟨u5.heap.size, Ad, cad, rfl, rfl, rfl, EBox.new _ hE5, (hB5.onlyNil hO6 (Nat.le_refl _)).up hO6.size, Nat.le_trans HO2.out.size hO5.size, hO5.alloc _⟩
  case rest =>
  obtain ⟨gf, Ad, cad, rfl, rfl, rfl, hEf, hBd, hgf, hO5⟩ := hcut
  obtain ⟨lf, hbf, hlf⟩ := hEf
  have HGF := Lib.hid (show gf ≠ g by have := HGL.out; omega)
  have HC3 := Lib.hid (HC.out.onlyNil hO5)
  have HO3 := Lib.hid (HO2.out.thenNil hO5)
  have HLF := Lib.hid hlf
  have HBF := Lib.hid hbf
  have HBD := Lib.hid hBd
  clear ka ke hbf hlf hO5 hgf hBd hnn0 hnn1
  by_cases hcn : rn = 0
  rotate_left
  · have HST : Hid ((stepS 1 n d (0 : Nat) x y).1 = x) := Lib.hid (by
      unfold stepS
      rw [if_neg (by decide), if_pos rfl, HRD.out]
      dsimp only
      rw [if_neg hcn])
    have hcb : (rn == 0) = false := beq_false_of_ne hcn
    go_wp2_with fail
    refine bodyPost_end (v := .tuple #[]) (by simp [results, Try.results30, go_sem]) rfl ?_
    exact ⟨⟨_, rfl⟩, ⟨sx, by rw [HST.out]; exact HC3.out⟩, HO3.out.any⟩
  have HST : Hid ((stepS 1 n d (0 : Nat) x y).1 = { x with e := a, rd := x.rd ++ rdd, over := x.over || decide (rdd.length = 0) }) := Lib.hid (by
      unfold stepS
      rw [if_neg (by decide), if_pos rfl, HRD.out]
      dsimp only
      rw [if_pos hcn])
  have HRL2 : Hid (rdd.length ≤ 128) := Lib.hid (HR300.out (by
    have h := HRD.out
    rw [hcn] at h
    have h2 : (readE x.e (1 + (n : Int))).2.2 = 0 := by rw [h]
    exact (read_ok h2).1))
  subst hcn
  obtain ⟨R, hR⟩ : ∃ R, rdd.length = R := ⟨_, rfl⟩
  have HRR := Lib.hid hR
  rw [hR]
  clear hR
  have HBW : Hid (Blk wc g 68 #[Value.slice sx.l.Ao x.e.out.length sx.l.co, .int .i64 x.e.base, .bool x.e.closed, .bool x.e.done, .slice sx.l.Ai x.e.inn.length sx.l.ci, .int .i64 x.e.next, .bool x.e.ended, .bool x.e.due, .slice sy.l.Ao y.e.out.length sy.l.co, .int .i64 y.e.base, .bool y.e.closed, .bool y.e.done, .slice sy.l.Ai y.e.inn.length sy.l.ci, .int .i64 y.e.next, .bool y.e.ended, .bool y.e.due, .slice sx.P x.sent.length sx.c, .slice sy.P y.sent.length sy.c, .string ⟨x.wr.toArray⟩, .string ⟨y.wr.toArray⟩, .string ⟨x.rd.toArray⟩, .string ⟨y.rd.toArray⟩, .bool x.over, .bool y.over, .bool wrong]) := Lib.hid (HBX.out.onlyNil HO3.out)
  go_upto_region 13 with fail
  go_cut [] (fun wd => LK wd B0 g 0 { x with e := a } { sx with l := lf } y sy wrong ∧ Only (One g) wc wd)
  case first =>
    have HIN : Hid (∀ (L : Nat → Bool) (vs : Nat → Value) (u u' : World), Only Nil u u' → (fun _ _ u => Only Nil wc u) L vs u → (fun _ _ u => Only Nil wc u) L vs u') := Lib.hid (fun L vs u u' hO hI => by
      exact hI.thenNil hO)
    refine wp_region_inv (X := [(0, some 83, []), (1, some 84, []), (2, some 85, []), (3, some 86, [0]), (4, some 87, [3]), (5, some 88, [1, 4])]) (n := 6) (g := 1) (T := Nil) (Ps := [Cst (.pointer (some ⟨g, 0, none⟩)), Cst (.int .i64 0), Cst (.agg #[Value.slice lf.Ao a.out.length lf.co, .int .i64 a.base, .bool a.closed, .bool a.done, .slice lf.Ai a.inn.length lf.ci, .int .i64 a.next, .bool a.ended, .bool a.due]), Cst (.pointer (some ⟨g, 0, none⟩)), Cst (.pointer (some ⟨g, 0, none⟩)), Cst (.pointer (some ⟨g, 0, none⟩))])
      (I := fun _ _ u => Only Nil wc u)
      (by kernel_rfl) (by kernel_rfl) (by kernel_rfl) (by kernel_rfl) rfl ?st_7 ?i0_7 ?step_7 ?fin_7
    case st_7 =>
      have hT : ∀ x, (Nil) x → x < 0 := fun x h => h.elim
      intro p hp
      simp only [List.mem_cons, List.not_mem_nil, or_false] at hp
      rcases hp with rfl | rfl | rfl | rfl | rfl | rfl <;> first | exact Stays.cst _ | exact Stays.own hT | exact Stays.emp hT | exact Stays.any
    case i0_7 =>
      intro vs
      exact (Only.refl _ _).drew
    case step_7 =>
      intro x hx L vs u hI hA h0 hd
      simp only [List.mem_cons, List.not_mem_nil, or_false] at hx
      rcases hx with rfl | rfl | rfl | rfl | rfl | rfl
      · refine inv_step _ (by rfl) (by rfl) (fun K' hK => ?_)
        simp only [putAll, Act.put, List.setIfInBounds_toArray, List.set_cons_succ, List.set_cons_zero] at hK ⊢
        go_simp
        exact hK _ _ ⟨Only.refl _ _, hI, rfl⟩
      · refine inv_step _ (by rfl) (by rfl) (fun K' hK => ?_)
        simp only [putAll, Act.put, List.setIfInBounds_toArray, List.set_cons_succ, List.set_cons_zero] at hK ⊢
        go_simp
        exact hK _ _ ⟨Only.refl _ _, hI, rfl⟩
      · refine inv_step _ (by rfl) (by rfl) (fun K' hK => ?_)
        simp only [putAll, Act.put, List.setIfInBounds_toArray, List.set_cons_succ, List.set_cons_zero] at hK ⊢
        have kf : ∀ i, u.cell? ⟨gf, i, none⟩ = #[Value.slice lf.Ao a.out.length lf.co, .int .i64 a.base, .bool a.closed, .bool a.done, .slice lf.Ai a.inn.length lf.ci, .int .i64 a.next, .bool a.ended, .bool a.due][i]? := fun i => (HBF.out.onlyNil hI).cell i
        go_simp
        exact hK _ _ ⟨Only.refl _ _, hI, rfl⟩
      · refine inv_step _ (by rfl) (by rfl) (fun K' hK => ?_)
        simp only [putAll, Act.put, List.setIfInBounds_toArray, List.set_cons_succ, List.set_cons_zero] at hK ⊢
        have e0 := hA 0 (hd 0 (by simp))
        change vs 0 = (.pointer (some ⟨g, 0, none⟩)) at e0
        simp only [e0] at hK
        go_simp
        exact hK _ _ ⟨Only.refl _ _, hI, rfl⟩
      · refine inv_step _ (by rfl) (by rfl) (fun K' hK => ?_)
        simp only [putAll, Act.put, List.setIfInBounds_toArray, List.set_cons_succ, List.set_cons_zero] at hK ⊢
        have e3 := hA 3 (hd 3 (by simp))
        change vs 3 = (.pointer (some ⟨g, 0, none⟩)) at e3
        simp only [e3] at hK
        go_simp
        exact hK _ _ ⟨Only.refl _ _, hI, rfl⟩
      · refine inv_step _ (by rfl) (by rfl) (fun K' hK => ?_)
        simp only [putAll, Act.put, List.setIfInBounds_toArray, List.set_cons_succ, List.set_cons_zero] at hK ⊢
        have e1 := hA 1 (hd 1 (by simp))
        change vs 1 = (.int .i64 0) at e1
        have e4 := hA 4 (hd 4 (by simp))
        change vs 4 = (.pointer (some ⟨g, 0, none⟩)) at e4
        simp only [e1, e4] at hK
        go_simp
        exact hK _ _ ⟨Only.refl _ _, hI, rfl⟩
    case fin_7 =>
      intro L vs u hI hL hA
      simp only [putAll, Act.put, List.setIfInBounds_toArray, List.set_cons_succ, List.set_cons_zero, List.drop_succ_cons, List.drop_zero]
      have e2 := hA 2 (by omega)
      change vs 2 = .agg #[Value.slice lf.Ao a.out.length lf.co, .int .i64 a.base, .bool a.closed, .bool a.done, .slice lf.Ai a.inn.length lf.ci, .int .i64 a.next, .bool a.ended, .bool a.due] at e2
      have e5 := hA 5 (by omega)
      change vs 5 = .pointer (some ⟨g, 0, none⟩) at e5
      simp only [e2, e5]
      have kb : ∀ i, u.cell? ⟨g, i, none⟩ = #[Value.slice sx.l.Ao x.e.out.length sx.l.co, .int .i64 x.e.base, .bool x.e.closed, .bool x.e.done, .slice sx.l.Ai x.e.inn.length sx.l.ci, .int .i64 x.e.next, .bool x.e.ended, .bool x.e.due, .slice sy.l.Ao y.e.out.length sy.l.co, .int .i64 y.e.base, .bool y.e.closed, .bool y.e.done, .slice sy.l.Ai y.e.inn.length sy.l.ci, .int .i64 y.e.next, .bool y.e.ended, .bool y.e.due, .slice sx.P x.sent.length sx.c, .slice sy.P y.sent.length sy.c, .string ⟨x.wr.toArray⟩, .string ⟨y.wr.toArray⟩, .string ⟨x.rd.toArray⟩, .string ⟨y.rd.toArray⟩, .bool x.over, .bool y.over, .bool wrong][i]? := fun i => (HBW.out.onlyNil hI).cell i
      have fb : ∀ i, u.frozen? ⟨g, i, none⟩ = false := fun i => (HBW.out.onlyNil hI).frozen i
      have hL4 : LK (putE 0 u g lf a) B0 g 0 { x with e := a } { sx with l := lf } y sy wrong := (HC3.out.onlyNil hI).end_ (HLF.out.next hI)
      have hO4 : Only (One g) wc (putE 0 u g lf a) := hI.any.then_ (putE_only _ _ _ _ _)
      have HL4 := Lib.hid hL4
      have HO4 := Lib.hid hO4
      clear hL4 hO4 hA hL hI e2 e5
      go_wp2_with fail
      go_meet
      case rel => exact ⟨HL4.out, HO4.out⟩
  case rest =>
  have HL4 := Lib.hid hcut.1
  have HO4 := Lib.hid hcut.2
  clear hcut
  have hbx4 := HL4.out.box
  unfold larr at hbx4
  rw [if_pos rfl] at hbx4
  have HBX4 := Lib.hid hbx4
  have hDB : Bs wc wc.heap.size Ad rdd := (HBD.out.box HC3.out.box (larr_no _ _ _ _ _ _) HO4.out (Nat.le_refl _)).up HO4.out.size
  have hst : ∀ u, Only Nil wc u → (convert 22 9 (.slice Ad R cad)).run Try.prog u = .ok (.string ⟨rdd.toArray⟩) u := fun u hO => by
    rw [← HRR.out]
    exact run_str (P := Try.prog) u 22 9 5 Try.underlying22 Try.underlying5 Try.underlying9 (c := cad) (hDB.onlyNil hO (Nat.le_refl _)) rfl
  have hadd : ∀ u, (Op.stringOp .add ⟨x.rd.toArray⟩ ⟨rdd.toArray⟩).run Try.prog u = .ok (.string ⟨(x.rd ++ rdd).toArray⟩) u := fun u => by
    rw [run_string_add_sum u _ _ (by
      have h1 := HRL.out
      have h2 := HRL2.out
      show x.rd.toArray.size + rdd.toArray.size ≤ 9223372036854775807
      rw [List.size_toArray, List.size_toArray]
      omega), ByteArray.mk_append_mk]
  have HST2 := Lib.hid hst
  have HADD := Lib.hid hadd
  clear hDB hst hadd hbx4
  go_upto_region 14 with fail
  go_cut [] (fun wd => LK wd B0 g 0 { x with e := a, rd := x.rd ++ rdd } { sx with l := lf } y sy wrong ∧ Only (One g) wc wd)
  case first =>
    have HIN : Hid (∀ (L : Nat → Bool) (vs : Nat → Value) (u u' : World), Only Nil u u' → (fun _ _ u => Only Nil wc u) L vs u → (fun _ _ u => Only Nil wc u) L vs u') := Lib.hid (fun L vs u u' hO hI => by
      exact hI.thenNil hO)
    refine wp_region_any (by kernel_rfl) ?_
    change wpAny _ _ _ _ _ _ _ (World.drew _)
    refine take_first (i := 0) (v := ?v0_8) (some 89) rfl (by rfl) (by kernel_rfl) (by kernel_rfl) (by kernel_rfl) (fun _ _ _ h => h) (Or.inl ⟨by rfl, ?hy0_8⟩) ?rest0_8
    case hy0_8 => (intro w; go_simp <;> with_reducible rfl)
    refine take_first (i := 1) (v := ?v1_8) (some 90) rfl (by rfl) (by kernel_rfl) (by kernel_rfl) (by kernel_rfl) (fun _ _ _ h => h) (Or.inl ⟨by rfl, ?hy1_8⟩) ?rest1_8
    case hy1_8 => (intro w; go_simp <;> with_reducible rfl)
    refine take_first (i := 2) (v := ?v2_8) (some 91) rfl (by rfl) (by kernel_rfl) (by kernel_rfl) (by kernel_rfl) (fun _ _ _ h => h) (Or.inl ⟨by rfl, ?hy2_8⟩) ?rest2_8
    case hy2_8 => (intro w; go_simp <;> with_reducible rfl)
    refine take_first (i := 3) (v := ?v3_8) (some 92) rfl (by rfl) (by kernel_rfl) (by kernel_rfl) (by kernel_rfl) (fun _ _ _ h => h) (Or.inl ⟨by rfl, ?hy3_8⟩) ?rest3_8
    case hy3_8 => (intro w; go_simp <;> with_reducible rfl)
    refine take_first (i := 4) (v := ?v4_8) (some 93) rfl (by rfl) (by kernel_rfl) (by kernel_rfl) (by kernel_rfl) (fun _ _ _ h => h) (Or.inl ⟨by rfl, ?hy4_8⟩) ?rest4_8
    case hy4_8 => (intro w; go_simp <;> with_reducible rfl)
    refine take_first (i := 6) (v := ?v6_8) (some 95) rfl (by rfl) (by kernel_rfl) (by kernel_rfl) (by kernel_rfl) (fun _ _ _ h => h) (Or.inl ⟨by rfl, ?hy6_8⟩) ?rest6_8
    case hy6_8 => (intro w; go_simp <;> with_reducible rfl)
    refine take_first (i := 9) (v := ?v9_8) (some 98) rfl (by rfl) (by kernel_rfl) (by kernel_rfl) (by kernel_rfl) (fun _ _ _ h => h) (Or.inl ⟨by rfl, ?hy9_8⟩) ?rest9_8
    case hy9_8 => (intro w; go_simp <;> with_reducible rfl)
    refine take_first (i := 10) (v := ?v10_8) (some 99) rfl (by rfl) (by kernel_rfl) (by kernel_rfl) (by kernel_rfl) (fun _ _ _ h => h) (Or.inl ⟨by rfl, ?hy10_8⟩) ?rest10_8
    case hy10_8 => (intro w; go_simp <;> with_reducible rfl)
    refine wpAny_inv2 (X := [(5, some 94, []), (7, some 96, []), (8, some 97, [5, 7]), (11, some 100, [])]) (n := 4) (g := 1) (m := 12) (l0 := [true, true, true, true, true, false, true, false, false, true, true, false, false]) (T := Nil) (Ps := [Any, Any, Any, Any, Any, Cst (.string ⟨x.rd.toArray⟩), Any, Cst (.string ⟨rdd.toArray⟩), Cst (.string ⟨(x.rd ++ rdd).toArray⟩), Any, Any, Cst (.pointer (some ⟨g, 20, none⟩))])
      (I := fun _ _ u => Only Nil wc u)
      (by kernel_rfl) rfl (by kernel_rfl) (by kernel_rfl) (by kernel_rfl) rfl ?h0_8 ?st_8 ?i0_8 ?step_8 ?fin_8
    case h0_8 =>
      intro j hj v u
      match j, hj with
      | 0, hj => trivial
      | 1, hj => trivial
      | 2, hj => trivial
      | 3, hj => trivial
      | 4, hj => trivial
      | 5, hj => exact absurd hj (by decide)
      | 6, hj => trivial
      | 7, hj => exact absurd hj (by decide)
      | 8, hj => exact absurd hj (by decide)
      | 9, hj => trivial
      | 10, hj => trivial
      | 11, hj => exact absurd hj (by decide)
      | 12, hj => exact absurd hj (by decide)
      | n + 13, hj => exact absurd hj (by simp)
    case st_8 =>
      have hT : ∀ x, (Nil) x → x < 0 := fun x h => h.elim
      intro p hp
      simp only [List.mem_cons, List.not_mem_nil, or_false] at hp
      rcases hp with rfl | rfl | rfl | rfl | rfl | rfl | rfl | rfl | rfl | rfl | rfl | rfl <;> first | exact Stays.cst _ | exact Stays.own hT | exact Stays.emp hT | exact Stays.any
    case i0_8 =>
      intro vs
      exact (Only.refl _ _).drew
    case step_8 =>
      intro x hx L vs u hI hA h0 hd
      simp only [List.mem_cons, List.not_mem_nil, or_false] at hx
      rcases hx with rfl | rfl | rfl | rfl
      · refine inv_step _ (by rfl) (by rfl) (fun K' hK => ?_)
        simp only [putAll, Act.put, List.setIfInBounds_toArray, List.set_cons_succ, List.set_cons_zero] at hK ⊢
        have kb : ∀ i, u.cell? ⟨g, i, none⟩ = #[Value.slice lf.Ao a.out.length lf.co, .int .i64 a.base, .bool a.closed, .bool a.done, .slice lf.Ai a.inn.length lf.ci, .int .i64 a.next, .bool a.ended, .bool a.due, .slice sy.l.Ao y.e.out.length sy.l.co, .int .i64 y.e.base, .bool y.e.closed, .bool y.e.done, .slice sy.l.Ai y.e.inn.length sy.l.ci, .int .i64 y.e.next, .bool y.e.ended, .bool y.e.due, .slice sx.P x.sent.length sx.c, .slice sy.P y.sent.length sy.c, .string ⟨x.wr.toArray⟩, .string ⟨y.wr.toArray⟩, .string ⟨x.rd.toArray⟩, .string ⟨y.rd.toArray⟩, .bool x.over, .bool y.over, .bool wrong][i]? := fun i => (HBX4.out.onlyNil hI).cell i
        go_simp
        exact hK _ _ ⟨Only.refl _ _, hI, rfl⟩
      · refine inv_step _ (by rfl) (by rfl) (fun K' hK => ?_)
        simp only [putAll, Act.put, List.setIfInBounds_toArray, List.set_cons_succ, List.set_cons_zero] at hK ⊢
        have hst := HST2.out u hI
        go_simp
        exact hK _ _ ⟨Only.refl _ _, hI, rfl⟩
      · refine inv_step _ (by rfl) (by rfl) (fun K' hK => ?_)
        simp only [putAll, Act.put, List.setIfInBounds_toArray, List.set_cons_succ, List.set_cons_zero] at hK ⊢
        have e5 := hA 5 (hd 5 (by simp))
        change vs 5 = (.string ⟨x.rd.toArray⟩) at e5
        have e7 := hA 7 (hd 7 (by simp))
        change vs 7 = (.string ⟨rdd.toArray⟩) at e7
        simp only [e5, e7] at hK
        have hadd := HADD.out u
        go_simp
        exact hK _ _ ⟨Only.refl _ _, hI, rfl⟩
      · refine inv_step _ (by rfl) (by rfl) (fun K' hK => ?_)
        simp only [putAll, Act.put, List.setIfInBounds_toArray, List.set_cons_succ, List.set_cons_zero] at hK ⊢
        go_simp
        exact hK _ _ ⟨Only.refl _ _, hI, rfl⟩
    case fin_8 =>
      intro L vs u hI hL hA
      simp only [putAll, Act.put, List.setIfInBounds_toArray, List.set_cons_succ, List.set_cons_zero, List.drop_succ_cons, List.drop_zero]
      have e9 := hA 8 (by omega)
      change vs 8 = .string ⟨(x.rd ++ rdd).toArray⟩ at e9
      have e12 := hA 11 (by omega)
      change vs 11 = .pointer (some ⟨g, 20, none⟩) at e12
      simp only [e9, e12]
      have kb : ∀ i, u.cell? ⟨g, i, none⟩ = #[Value.slice lf.Ao a.out.length lf.co, .int .i64 a.base, .bool a.closed, .bool a.done, .slice lf.Ai a.inn.length lf.ci, .int .i64 a.next, .bool a.ended, .bool a.due, .slice sy.l.Ao y.e.out.length sy.l.co, .int .i64 y.e.base, .bool y.e.closed, .bool y.e.done, .slice sy.l.Ai y.e.inn.length sy.l.ci, .int .i64 y.e.next, .bool y.e.ended, .bool y.e.due, .slice sx.P x.sent.length sx.c, .slice sy.P y.sent.length sy.c, .string ⟨x.wr.toArray⟩, .string ⟨y.wr.toArray⟩, .string ⟨x.rd.toArray⟩, .string ⟨y.rd.toArray⟩, .bool x.over, .bool y.over, .bool wrong][i]? := fun i => (HBX4.out.onlyNil hI).cell i
      have fb : ∀ i, u.frozen? ⟨g, i, none⟩ = false := fun i => (HBX4.out.onlyNil hI).frozen i
      have hO6 : Only (One g) wc (u.setCell ⟨g, 20, none⟩ (.string ⟨(x.rd ++ rdd).toArray⟩)) := by
          refine hI.any.then_ ?_
          (repeat' (first | with_reducible exact Only.refl _ _ | with_reducible refine Only.setCell ?_ (Or.inl ?_) _ | with_reducible refine Only.drewN ?_ _ | with_reducible refine Only.drew ?_ | with_reducible refine Only.alloc ?_ _ | (exact rfl)))
      have hb6 : Blk (u.setCell ⟨g, 20, none⟩ (.string ⟨(x.rd ++ rdd).toArray⟩)) g 68 (larr 0 { x with e := a, rd := x.rd ++ rdd } { sx with l := lf } y sy wrong) := by
          have h := (HBX4.out.onlyNil hI).set_ 20 (.string ⟨(x.rd ++ rdd).toArray⟩)
          unfold larr
          rw [if_pos rfl]
          simp only [List.setIfInBounds_toArray, List.set_cons_succ, List.set_cons_zero] at h
          exact h
      have HL6 := Lib.hid (HL4.out.turn hO6 hb6 rfl rfl rfl rfl HL4.out.fx.eb)
      have HO6 := Lib.hid hO6
      clear hO6 hb6 hA hL hI e9 e12
      go_wp2_with fail
      go_meet
      case rel => exact ⟨HL6.out, HO6.out⟩
  case rest =>
  have HL6 := Lib.hid hcut.1
  have HO36 := Lib.hid ((HO3.out.any.trans (S := fun b => B0 ≤ b) HO4.out (fun x hx => .inl (by have := HC.out.new; unfold One at hx; omega))).trans hcut.2 (fun x hx => .inl (by have := HC.out.new; unfold One at hx; omega)))
  clear hcut
  have hbx6 := HL6.out.box
  unfold larr at hbx6
  rw [if_pos rfl] at hbx6
  dsimp only at hbx6
  obtain ⟨Z, hZ⟩ : ∃ Z, ((R : Int) == 0) = Z := ⟨_, rfl⟩
  have HZ := Lib.hid hZ
  obtain ⟨ov, hov⟩ : ∃ ov, x.over = ov := ⟨_, rfl⟩
  rw [hov] at hbx6
  have HBX6 := Lib.hid hbx6
  have HOV : Hid ((x.over || decide (rdd.length = 0)) = (ov || Z)) := Lib.hid (by
    rw [hov, ← hZ, HRR.out]
    congr 1
    show decide (R = 0) = decide ((R : Int) = 0)
    rw [decide_eq_decide]
    omega)
  clear hbx6 hZ hov
  go_upto_region 15 with fail
  cases ov
  case false =>
    have kb : ∀ i, wc.cell? ⟨g, i, none⟩ = #[Value.slice lf.Ao a.out.length lf.co, .int .i64 a.base, .bool a.closed, .bool a.done, .slice lf.Ai a.inn.length lf.ci, .int .i64 a.next, .bool a.ended, .bool a.due, .slice sy.l.Ao y.e.out.length sy.l.co, .int .i64 y.e.base, .bool y.e.closed, .bool y.e.done, .slice sy.l.Ai y.e.inn.length sy.l.ci, .int .i64 y.e.next, .bool y.e.ended, .bool y.e.due, .slice sx.P x.sent.length sx.c, .slice sy.P y.sent.length sy.c, .string ⟨x.wr.toArray⟩, .string ⟨y.wr.toArray⟩, .string ⟨(x.rd ++ rdd).toArray⟩, .string ⟨y.rd.toArray⟩, .bool false, .bool y.over, .bool wrong][i]? := fun i => HBX6.out.cell i
    have fb : ∀ i, wc.frozen? ⟨g, i, none⟩ = false := fun i => HBX6.out.frozen i
    have hz := HZ.out
    go_still_tail 16, (by kernel_rfl)
    clear hz
    go_wp2_with fail
    refine bodyPost_end (v := .tuple #[]) (by simp [results, Try.results30, go_sem]) rfl ?_
    have hfin : ∀ u', u' = (wc.setCell ⟨g, 22, none⟩ (.bool Z)).drew → DoPost 1 n d 0 B0 g x y sy wrong w (.returned (.tuple #[])) u' := fun u' hu => by
      have hO : Only (One g) wc u' := by
        rw [hu]
        (repeat' (first | with_reducible exact Only.refl _ _ | with_reducible refine Only.setCell ?_ (Or.inl ?_) _ | with_reducible refine Only.drewN ?_ _ | with_reducible refine Only.drew ?_ | with_reducible refine Only.alloc ?_ _ | (exact rfl)))
      have hb : Blk u' g 68 (larr 0 { x with e := a, rd := x.rd ++ rdd, over := x.over || decide (rdd.length = 0) } { sx with l := lf } y sy wrong) := by
        have h := (HBX6.out.set_ 22 (.bool Z)).drew
        have hz := HOV.out
        unfold larr
        rw [if_pos rfl]
        dsimp only
        rw [hz, hu]
        simp only [List.setIfInBounds_toArray, List.set_cons_succ, List.set_cons_zero] at h
        exact h
      exact ⟨⟨_, rfl⟩, ⟨_, by rw [HST.out]; exact HL6.out.turn hO hb rfl rfl rfl rfl HL6.out.fx.eb⟩, (HO36.out).trans hO (fun x hx => .inl (by have := HC.out.new; unfold One at hx; omega))⟩
    exact hfin _ rfl

  case true =>
    have kb : ∀ i, wc.cell? ⟨g, i, none⟩ = #[Value.slice lf.Ao a.out.length lf.co, .int .i64 a.base, .bool a.closed, .bool a.done, .slice lf.Ai a.inn.length lf.ci, .int .i64 a.next, .bool a.ended, .bool a.due, .slice sy.l.Ao y.e.out.length sy.l.co, .int .i64 y.e.base, .bool y.e.closed, .bool y.e.done, .slice sy.l.Ai y.e.inn.length sy.l.ci, .int .i64 y.e.next, .bool y.e.ended, .bool y.e.due, .slice sx.P x.sent.length sx.c, .slice sy.P y.sent.length sy.c, .string ⟨x.wr.toArray⟩, .string ⟨y.wr.toArray⟩, .string ⟨(x.rd ++ rdd).toArray⟩, .string ⟨y.rd.toArray⟩, .bool true, .bool y.over, .bool wrong][i]? := fun i => HBX6.out.cell i
    have fb : ∀ i, wc.frozen? ⟨g, i, none⟩ = false := fun i => HBX6.out.frozen i
    have hz := HZ.out
    go_still_tail 16, (by kernel_rfl)
    clear hz
    go_wp2_with fail
    refine bodyPost_end (v := .tuple #[]) (by simp [results, Try.results30, go_sem]) rfl ?_
    have hfin : ∀ u', u' = (wc.setCell ⟨g, 22, none⟩ (.bool true)).drew → DoPost 1 n d 0 B0 g x y sy wrong w (.returned (.tuple #[])) u' := fun u' hu => by
      have hO : Only (One g) wc u' := by
        rw [hu]
        (repeat' (first | with_reducible exact Only.refl _ _ | with_reducible refine Only.setCell ?_ (Or.inl ?_) _ | with_reducible refine Only.drewN ?_ _ | with_reducible refine Only.drew ?_ | with_reducible refine Only.alloc ?_ _ | (exact rfl)))
      have hb : Blk u' g 68 (larr 0 { x with e := a, rd := x.rd ++ rdd, over := x.over || decide (rdd.length = 0) } { sx with l := lf } y sy wrong) := by
        have h := (HBX6.out.set_ 22 (.bool true)).drew
        have hz := HOV.out
        unfold larr
        rw [if_pos rfl]
        dsimp only
        rw [hz, hu]
        simp only [List.setIfInBounds_toArray, List.set_cons_succ, List.set_cons_zero] at h
        exact h
      exact ⟨⟨_, rfl⟩, ⟨_, by rw [HST.out]; exact HL6.out.turn hO hb rfl rfl rfl rfl HL6.out.fx.eb⟩, (HO36.out).trans hO (fun x hx => .inl (by have := HC.out.new; unfold One at hx; omega))⟩
    exact hfin _ rfl

set_option maxRecDepth 100000 in
set_option maxHeartbeats 8000000 in
theorem do_read1 (kd sd nn : Int) (D : Option Addr) (cd : Nat) (d : List UInt8) (n : Nat) (B0 g : Nat) (x y : Sd) (sx sy : SC) (wrong : Bool) (w : World) (hk : kd % 6 = 1) (hs : sd % 2 = 1) (hkd : 0 ≤ kd ∧ kd ≤ 255) (hsd : 0 ≤ sd ∧ sd ≤ 255) (hn : nn = n) (hn8 : n ≤ 255)
    (h : LK w B0 g 1 x sx y sy wrong) (hB : B0 ≤ w.heap.size) (hd : Bs w w.heap.size D d) (hdl : d.length ≤ 200) (hrl : x.rd.length ≤ 1000000) :
    Calls Try.prog 30 #[.pointer (some ⟨g, 0, none⟩), .agg #[.int .u8 kd, .int .u8 sd, .int .u8 nn, .slice D d.length cd]] w (DoPost 1 n d 1 B0 g x y sy wrong w) := by
  have H := Lib.hid h
  have HD := Lib.hid hd
  have HBB := Lib.hid hB
  have HDL := Lib.hid hdl
  have HGL := Lib.hid h.box.lt
  have hE := h.fx.eb
  have hbx := h.box
  unfold larr at hbx
  rw [if_neg (by decide)] at hbx
  have HBX := Lib.hid hbx
  obtain ⟨w1, hw1⟩ : ∃ w1, w1 = w.alloc (.cells #[.int .u8 kd, .int .u8 sd, .int .u8 nn, .slice D d.length cd] 70) := ⟨_, rfl⟩
  have hO1 : Only Nil w w1 := by rw [hw1]; exact (Only.refl _ _).alloc _
  have HA := Lib.hid (show Blk w1 w.heap.size 70 #[.int .u8 kd, .int .u8 sd, .int .u8 nn, .slice D d.length cd] by rw [hw1]; exact Blk.new _ _ _)
  have HO1 := Lib.hid hO1
  have HN := Lib.hid hn
  have HN8 := Lib.hid hn8
  have ht1 : kd.tmod 6 = 1 := by rw [Int.tmod_eq_emod_of_nonneg hkd.1, hk]
  have ht2 : sd.tmod 2 = 1 := by rw [Int.tmod_eq_emod_of_nonneg hsd.1, hs]
  clear h hd hB hdl hbx hO1 hn hn8 hkd hsd
  obtain ⟨a, rdd, rn, hrd⟩ : ∃ a q m, readE x.e (1 + nn) = (a, q, m) := ⟨_, _, _, rfl⟩
  have HCL := Lib.hid (fun w' hE => read_any sx.l x.e (1 + nn) w' hE (by have := HN.out; have := HN8.out; omega))
  rw [hrd] at HCL
  have hR300 : VE x.e → rdd.length ≤ 128 := fun hv => by
    have h2 := hv.2.1
    have h3 : rdd = (readE x.e (1 + nn)).2.1 := by rw [hrd]
    rw [h3]
    unfold readE
    split
    · simp
    · split
      · simp
      · split
        · simp
        · dsimp only
          rw [List.length_take]
          omega
  have HR300 := Lib.hid hR300
  have HRD : Hid (readE x.e (1 + (n : Int)) = (a, rdd, rn)) := Lib.hid (by rw [← HN.out]; exact hrd)
  have hnn0 : 0 ≤ nn := by have := HN.out; omega
  have hnn1 : nn ≤ 255 := by have := HN.out; have := HN8.out; omega
  have HRL := Lib.hid hrl
  clear hrd hrl hR300
  go_enter Try.func30, Try.ntmps30
  go_upto_region 1 with fail
  rw [← hw1]
  clear hw1
  have ka : ∀ i, w1.cell? ⟨w.heap.size, i, none⟩ = #[Value.int .u8 kd, .int .u8 sd, .int .u8 nn, .slice D d.length cd][i]? := fun i => HA.out.cell i
  have kb : ∀ i, w1.cell? ⟨g, i, none⟩ = #[Value.slice sy.l.Ao y.e.out.length sy.l.co, .int .i64 y.e.base, .bool y.e.closed, .bool y.e.done, .slice sy.l.Ai y.e.inn.length sy.l.ci, .int .i64 y.e.next, .bool y.e.ended, .bool y.e.due, .slice sx.l.Ao x.e.out.length sx.l.co, .int .i64 x.e.base, .bool x.e.closed, .bool x.e.done, .slice sx.l.Ai x.e.inn.length sx.l.ci, .int .i64 x.e.next, .bool x.e.ended, .bool x.e.due, .slice sy.P y.sent.length sy.c, .slice sx.P x.sent.length sx.c, .string ⟨y.wr.toArray⟩, .string ⟨x.wr.toArray⟩, .string ⟨y.rd.toArray⟩, .string ⟨x.rd.toArray⟩, .bool y.over, .bool x.over, .bool wrong][i]? := fun i => (HBX.out.onlyNil HO1.out).cell i
  go_upto_region 2 with fail
  go_cut [5] (fun pe wd => ∃ ge, pe = .pointer (some ⟨ge, 0, none⟩) ∧ Blk wd ge 29 (earr sx.l x.e) ∧ w.heap.size ≤ ge ∧ Only Nil w1 wd)
  case first =>
    go_wp2_with fail
    go_meet
    case rel => exact ⟨w1.heap.size, rfl, Blk.new _ _ _, HO1.out.size, (Only.refl _ _).alloc _⟩
  case rest =>
  obtain ⟨ge, rfl, hY, hge, hOc⟩ := hcut
  have HY := Lib.hid hY
  have HC := Lib.hid (H.out.onlyNil (HO1.out.thenNil hOc))
  have HA2 := Lib.hid (HA.out.onlyNil hOc)
  have HO2 := Lib.hid (HO1.out.thenNil hOc)
  have HGE := Lib.hid (show ge ≠ g by have := HGL.out; omega)
  clear ka kb hOc hge
  have ka : ∀ i, wc.cell? ⟨w.heap.size, i, none⟩ = #[Value.int .u8 kd, .int .u8 sd, .int .u8 nn, .slice D d.length cd][i]? := fun i => HA2.out.cell i
  have ke : ∀ i, wc.cell? ⟨ge, i, none⟩ = #[Value.slice sx.l.Ao x.e.out.length sx.l.co, .int .i64 x.e.base, .bool x.e.closed, .bool x.e.done, .slice sx.l.Ai x.e.inn.length sx.l.ci, .int .i64 x.e.next, .bool x.e.ended, .bool x.e.due][i]? := fun i => hY.cell i
  clear hY
  go_upto_region 11 with fail
  go_cut [8, 9, 10] (fun pe q v wd => ∃ gf Ad cad, pe = .pointer (some ⟨gf, 0, none⟩) ∧ q = .slice Ad rdd.length cad ∧ v = .int .i64 rn ∧ EBox 29 wd gf a ∧ Bs wd wd.heap.size Ad rdd ∧ w.heap.size ≤ gf ∧ Only Nil wc wd)
  case first =>
    go_wp2_with fail
    refine (HCL.out _ HC.out.fx.eb).mono ?_
    rintro e5 u5 ⟨l5, Ad, cad, rfl, hE5, hB5, hc5, hO5⟩
    go_wp2_with fail
    go_meet
    case rel =>
      have hO6 : Only Nil u5 (u5.alloc (.cells (earr l5 a) 29)) := (Only.refl _ _).alloc _
      exact ⟨u5.heap.size, Ad, cad, rfl, rfl, rfl, EBox.new _ hE5, (hB5.onlyNil hO6 (Nat.le_refl _)).up hO6.size, Nat.le_trans HO2.out.size hO5.size, hO5.alloc _⟩
  case rest =>
  obtain ⟨gf, Ad, cad, rfl, rfl, rfl, hEf, hBd, hgf, hO5⟩ := hcut
  obtain ⟨lf, hbf, hlf⟩ := hEf
  have HGF := Lib.hid (show gf ≠ g by have := HGL.out; omega)
  have HC3 := Lib.hid (HC.out.onlyNil hO5)
  have HO3 := Lib.hid (HO2.out.thenNil hO5)
  have HLF := Lib.hid hlf
  have HBF := Lib.hid hbf
  have HBD := Lib.hid hBd
  clear ka ke hbf hlf hO5 hgf hBd hnn0 hnn1
  by_cases hcn : rn = 0
  rotate_left
  · have HST : Hid ((stepS 1 n d (1 : Nat) x y).1 = x) := Lib.hid (by
      unfold stepS
      rw [if_neg (by decide), if_pos rfl, HRD.out]
      dsimp only
      rw [if_neg hcn])
    have hcb : (rn == 0) = false := beq_false_of_ne hcn
    go_wp2_with fail
    refine bodyPost_end (v := .tuple #[]) (by simp [results, Try.results30, go_sem]) rfl ?_
    exact ⟨⟨_, rfl⟩, ⟨sx, by rw [HST.out]; exact HC3.out⟩, HO3.out.any⟩
  have HST : Hid ((stepS 1 n d (1 : Nat) x y).1 = { x with e := a, rd := x.rd ++ rdd, over := x.over || decide (rdd.length = 0) }) := Lib.hid (by
      unfold stepS
      rw [if_neg (by decide), if_pos rfl, HRD.out]
      dsimp only
      rw [if_pos hcn])
  have HRL2 : Hid (rdd.length ≤ 128) := Lib.hid (HR300.out (by
    have h := HRD.out
    rw [hcn] at h
    have h2 : (readE x.e (1 + (n : Int))).2.2 = 0 := by rw [h]
    exact (read_ok h2).1))
  subst hcn
  obtain ⟨R, hR⟩ : ∃ R, rdd.length = R := ⟨_, rfl⟩
  have HRR := Lib.hid hR
  rw [hR]
  clear hR
  have HBW : Hid (Blk wc g 68 #[Value.slice sy.l.Ao y.e.out.length sy.l.co, .int .i64 y.e.base, .bool y.e.closed, .bool y.e.done, .slice sy.l.Ai y.e.inn.length sy.l.ci, .int .i64 y.e.next, .bool y.e.ended, .bool y.e.due, .slice sx.l.Ao x.e.out.length sx.l.co, .int .i64 x.e.base, .bool x.e.closed, .bool x.e.done, .slice sx.l.Ai x.e.inn.length sx.l.ci, .int .i64 x.e.next, .bool x.e.ended, .bool x.e.due, .slice sy.P y.sent.length sy.c, .slice sx.P x.sent.length sx.c, .string ⟨y.wr.toArray⟩, .string ⟨x.wr.toArray⟩, .string ⟨y.rd.toArray⟩, .string ⟨x.rd.toArray⟩, .bool y.over, .bool x.over, .bool wrong]) := Lib.hid (HBX.out.onlyNil HO3.out)
  go_upto_region 13 with fail
  go_cut [] (fun wd => LK wd B0 g 1 { x with e := a } { sx with l := lf } y sy wrong ∧ Only (One g) wc wd)
  case first =>
    have HIN : Hid (∀ (L : Nat → Bool) (vs : Nat → Value) (u u' : World), Only Nil u u' → (fun _ _ u => Only Nil wc u) L vs u → (fun _ _ u => Only Nil wc u) L vs u') := Lib.hid (fun L vs u u' hO hI => by
      exact hI.thenNil hO)
    refine wp_region_inv (X := [(0, some 83, []), (1, some 84, []), (2, some 85, []), (3, some 86, [0]), (4, some 87, [3]), (5, some 88, [1, 4])]) (n := 6) (g := 1) (T := Nil) (Ps := [Cst (.pointer (some ⟨g, 0, none⟩)), Cst (.int .i64 1), Cst (.agg #[Value.slice lf.Ao a.out.length lf.co, .int .i64 a.base, .bool a.closed, .bool a.done, .slice lf.Ai a.inn.length lf.ci, .int .i64 a.next, .bool a.ended, .bool a.due]), Cst (.pointer (some ⟨g, 0, none⟩)), Cst (.pointer (some ⟨g, 0, none⟩)), Cst (.pointer (some ⟨g, 8, none⟩))])
      (I := fun _ _ u => Only Nil wc u)
      (by kernel_rfl) (by kernel_rfl) (by kernel_rfl) (by kernel_rfl) rfl ?st_9 ?i0_9 ?step_9 ?fin_9
    case st_9 =>
      have hT : ∀ x, (Nil) x → x < 0 := fun x h => h.elim
      intro p hp
      simp only [List.mem_cons, List.not_mem_nil, or_false] at hp
      rcases hp with rfl | rfl | rfl | rfl | rfl | rfl <;> first | exact Stays.cst _ | exact Stays.own hT | exact Stays.emp hT | exact Stays.any
    case i0_9 =>
      intro vs
      exact (Only.refl _ _).drew
    case step_9 =>
      intro x hx L vs u hI hA h0 hd
      simp only [List.mem_cons, List.not_mem_nil, or_false] at hx
      rcases hx with rfl | rfl | rfl | rfl | rfl | rfl
      · refine inv_step _ (by rfl) (by rfl) (fun K' hK => ?_)
        simp only [putAll, Act.put, List.setIfInBounds_toArray, List.set_cons_succ, List.set_cons_zero] at hK ⊢
        go_simp
        exact hK _ _ ⟨Only.refl _ _, hI, rfl⟩
      · refine inv_step _ (by rfl) (by rfl) (fun K' hK => ?_)
        simp only [putAll, Act.put, List.setIfInBounds_toArray, List.set_cons_succ, List.set_cons_zero] at hK ⊢
        go_simp
        exact hK _ _ ⟨Only.refl _ _, hI, rfl⟩
      · refine inv_step _ (by rfl) (by rfl) (fun K' hK => ?_)
        simp only [putAll, Act.put, List.setIfInBounds_toArray, List.set_cons_succ, List.set_cons_zero] at hK ⊢
        have kf : ∀ i, u.cell? ⟨gf, i, none⟩ = #[Value.slice lf.Ao a.out.length lf.co, .int .i64 a.base, .bool a.closed, .bool a.done, .slice lf.Ai a.inn.length lf.ci, .int .i64 a.next, .bool a.ended, .bool a.due][i]? := fun i => (HBF.out.onlyNil hI).cell i
        go_simp
        exact hK _ _ ⟨Only.refl _ _, hI, rfl⟩
      · refine inv_step _ (by rfl) (by rfl) (fun K' hK => ?_)
        simp only [putAll, Act.put, List.setIfInBounds_toArray, List.set_cons_succ, List.set_cons_zero] at hK ⊢
        have e0 := hA 0 (hd 0 (by simp))
        change vs 0 = (.pointer (some ⟨g, 0, none⟩)) at e0
        simp only [e0] at hK
        go_simp
        exact hK _ _ ⟨Only.refl _ _, hI, rfl⟩
      · refine inv_step _ (by rfl) (by rfl) (fun K' hK => ?_)
        simp only [putAll, Act.put, List.setIfInBounds_toArray, List.set_cons_succ, List.set_cons_zero] at hK ⊢
        have e3 := hA 3 (hd 3 (by simp))
        change vs 3 = (.pointer (some ⟨g, 0, none⟩)) at e3
        simp only [e3] at hK
        go_simp
        exact hK _ _ ⟨Only.refl _ _, hI, rfl⟩
      · refine inv_step _ (by rfl) (by rfl) (fun K' hK => ?_)
        simp only [putAll, Act.put, List.setIfInBounds_toArray, List.set_cons_succ, List.set_cons_zero] at hK ⊢
        have e1 := hA 1 (hd 1 (by simp))
        change vs 1 = (.int .i64 1) at e1
        have e4 := hA 4 (hd 4 (by simp))
        change vs 4 = (.pointer (some ⟨g, 0, none⟩)) at e4
        simp only [e1, e4] at hK
        go_simp
        exact hK _ _ ⟨Only.refl _ _, hI, rfl⟩
    case fin_9 =>
      intro L vs u hI hL hA
      simp only [putAll, Act.put, List.setIfInBounds_toArray, List.set_cons_succ, List.set_cons_zero, List.drop_succ_cons, List.drop_zero]
      have e2 := hA 2 (by omega)
      change vs 2 = .agg #[Value.slice lf.Ao a.out.length lf.co, .int .i64 a.base, .bool a.closed, .bool a.done, .slice lf.Ai a.inn.length lf.ci, .int .i64 a.next, .bool a.ended, .bool a.due] at e2
      have e5 := hA 5 (by omega)
      change vs 5 = .pointer (some ⟨g, 8, none⟩) at e5
      simp only [e2, e5]
      have kb : ∀ i, u.cell? ⟨g, i, none⟩ = #[Value.slice sy.l.Ao y.e.out.length sy.l.co, .int .i64 y.e.base, .bool y.e.closed, .bool y.e.done, .slice sy.l.Ai y.e.inn.length sy.l.ci, .int .i64 y.e.next, .bool y.e.ended, .bool y.e.due, .slice sx.l.Ao x.e.out.length sx.l.co, .int .i64 x.e.base, .bool x.e.closed, .bool x.e.done, .slice sx.l.Ai x.e.inn.length sx.l.ci, .int .i64 x.e.next, .bool x.e.ended, .bool x.e.due, .slice sy.P y.sent.length sy.c, .slice sx.P x.sent.length sx.c, .string ⟨y.wr.toArray⟩, .string ⟨x.wr.toArray⟩, .string ⟨y.rd.toArray⟩, .string ⟨x.rd.toArray⟩, .bool y.over, .bool x.over, .bool wrong][i]? := fun i => (HBW.out.onlyNil hI).cell i
      have fb : ∀ i, u.frozen? ⟨g, i, none⟩ = false := fun i => (HBW.out.onlyNil hI).frozen i
      have hL4 : LK (putE 1 u g lf a) B0 g 1 { x with e := a } { sx with l := lf } y sy wrong := (HC3.out.onlyNil hI).end_ (HLF.out.next hI)
      have hO4 : Only (One g) wc (putE 1 u g lf a) := hI.any.then_ (putE_only _ _ _ _ _)
      have HL4 := Lib.hid hL4
      have HO4 := Lib.hid hO4
      clear hL4 hO4 hA hL hI e2 e5
      go_wp2_with fail
      go_meet
      case rel => exact ⟨HL4.out, HO4.out⟩
  case rest =>
  have HL4 := Lib.hid hcut.1
  have HO4 := Lib.hid hcut.2
  clear hcut
  have hbx4 := HL4.out.box
  unfold larr at hbx4
  rw [if_neg (by decide)] at hbx4
  have HBX4 := Lib.hid hbx4
  have hDB : Bs wc wc.heap.size Ad rdd := (HBD.out.box HC3.out.box (larr_no _ _ _ _ _ _) HO4.out (Nat.le_refl _)).up HO4.out.size
  have hst : ∀ u, Only Nil wc u → (convert 22 9 (.slice Ad R cad)).run Try.prog u = .ok (.string ⟨rdd.toArray⟩) u := fun u hO => by
    rw [← HRR.out]
    exact run_str (P := Try.prog) u 22 9 5 Try.underlying22 Try.underlying5 Try.underlying9 (c := cad) (hDB.onlyNil hO (Nat.le_refl _)) rfl
  have hadd : ∀ u, (Op.stringOp .add ⟨x.rd.toArray⟩ ⟨rdd.toArray⟩).run Try.prog u = .ok (.string ⟨(x.rd ++ rdd).toArray⟩) u := fun u => by
    rw [run_string_add_sum u _ _ (by
      have h1 := HRL.out
      have h2 := HRL2.out
      show x.rd.toArray.size + rdd.toArray.size ≤ 9223372036854775807
      rw [List.size_toArray, List.size_toArray]
      omega), ByteArray.mk_append_mk]
  have HST2 := Lib.hid hst
  have HADD := Lib.hid hadd
  clear hDB hst hadd hbx4
  go_upto_region 14 with fail
  go_cut [] (fun wd => LK wd B0 g 1 { x with e := a, rd := x.rd ++ rdd } { sx with l := lf } y sy wrong ∧ Only (One g) wc wd)
  case first =>
    have HIN : Hid (∀ (L : Nat → Bool) (vs : Nat → Value) (u u' : World), Only Nil u u' → (fun _ _ u => Only Nil wc u) L vs u → (fun _ _ u => Only Nil wc u) L vs u') := Lib.hid (fun L vs u u' hO hI => by
      exact hI.thenNil hO)
    refine wp_region_any (by kernel_rfl) ?_
    change wpAny _ _ _ _ _ _ _ (World.drew _)
    refine take_first (i := 0) (v := ?v0_10) (some 89) rfl (by rfl) (by kernel_rfl) (by kernel_rfl) (by kernel_rfl) (fun _ _ _ h => h) (Or.inl ⟨by rfl, ?hy0_10⟩) ?rest0_10
    case hy0_10 => (intro w; go_simp <;> with_reducible rfl)
    refine take_first (i := 1) (v := ?v1_10) (some 90) rfl (by rfl) (by kernel_rfl) (by kernel_rfl) (by kernel_rfl) (fun _ _ _ h => h) (Or.inl ⟨by rfl, ?hy1_10⟩) ?rest1_10
    case hy1_10 => (intro w; go_simp <;> with_reducible rfl)
    refine take_first (i := 2) (v := ?v2_10) (some 91) rfl (by rfl) (by kernel_rfl) (by kernel_rfl) (by kernel_rfl) (fun _ _ _ h => h) (Or.inl ⟨by rfl, ?hy2_10⟩) ?rest2_10
    case hy2_10 => (intro w; go_simp <;> with_reducible rfl)
    refine take_first (i := 3) (v := ?v3_10) (some 92) rfl (by rfl) (by kernel_rfl) (by kernel_rfl) (by kernel_rfl) (fun _ _ _ h => h) (Or.inl ⟨by rfl, ?hy3_10⟩) ?rest3_10
    case hy3_10 => (intro w; go_simp <;> with_reducible rfl)
    refine take_first (i := 4) (v := ?v4_10) (some 93) rfl (by rfl) (by kernel_rfl) (by kernel_rfl) (by kernel_rfl) (fun _ _ _ h => h) (Or.inl ⟨by rfl, ?hy4_10⟩) ?rest4_10
    case hy4_10 => (intro w; go_simp <;> with_reducible rfl)
    refine take_first (i := 6) (v := ?v6_10) (some 95) rfl (by rfl) (by kernel_rfl) (by kernel_rfl) (by kernel_rfl) (fun _ _ _ h => h) (Or.inl ⟨by rfl, ?hy6_10⟩) ?rest6_10
    case hy6_10 => (intro w; go_simp <;> with_reducible rfl)
    refine take_first (i := 9) (v := ?v9_10) (some 98) rfl (by rfl) (by kernel_rfl) (by kernel_rfl) (by kernel_rfl) (fun _ _ _ h => h) (Or.inl ⟨by rfl, ?hy9_10⟩) ?rest9_10
    case hy9_10 => (intro w; go_simp <;> with_reducible rfl)
    refine take_first (i := 10) (v := ?v10_10) (some 99) rfl (by rfl) (by kernel_rfl) (by kernel_rfl) (by kernel_rfl) (fun _ _ _ h => h) (Or.inl ⟨by rfl, ?hy10_10⟩) ?rest10_10
    case hy10_10 => (intro w; go_simp <;> with_reducible rfl)
    refine wpAny_inv2 (X := [(5, some 94, []), (7, some 96, []), (8, some 97, [5, 7]), (11, some 100, [])]) (n := 4) (g := 1) (m := 12) (l0 := [true, true, true, true, true, false, true, false, false, true, true, false, false]) (T := Nil) (Ps := [Any, Any, Any, Any, Any, Cst (.string ⟨x.rd.toArray⟩), Any, Cst (.string ⟨rdd.toArray⟩), Cst (.string ⟨(x.rd ++ rdd).toArray⟩), Any, Any, Cst (.pointer (some ⟨g, 21, none⟩))])
      (I := fun _ _ u => Only Nil wc u)
      (by kernel_rfl) rfl (by kernel_rfl) (by kernel_rfl) (by kernel_rfl) rfl ?h0_10 ?st_10 ?i0_10 ?step_10 ?fin_10
    case h0_10 =>
      intro j hj v u
      match j, hj with
      | 0, hj => trivial
      | 1, hj => trivial
      | 2, hj => trivial
      | 3, hj => trivial
      | 4, hj => trivial
      | 5, hj => exact absurd hj (by decide)
      | 6, hj => trivial
      | 7, hj => exact absurd hj (by decide)
      | 8, hj => exact absurd hj (by decide)
      | 9, hj => trivial
      | 10, hj => trivial
      | 11, hj => exact absurd hj (by decide)
      | 12, hj => exact absurd hj (by decide)
      | n + 13, hj => exact absurd hj (by simp)
    case st_10 =>
      have hT : ∀ x, (Nil) x → x < 0 := fun x h => h.elim
      intro p hp
      simp only [List.mem_cons, List.not_mem_nil, or_false] at hp
      rcases hp with rfl | rfl | rfl | rfl | rfl | rfl | rfl | rfl | rfl | rfl | rfl | rfl <;> first | exact Stays.cst _ | exact Stays.own hT | exact Stays.emp hT | exact Stays.any
    case i0_10 =>
      intro vs
      exact (Only.refl _ _).drew
    case step_10 =>
      intro x hx L vs u hI hA h0 hd
      simp only [List.mem_cons, List.not_mem_nil, or_false] at hx
      rcases hx with rfl | rfl | rfl | rfl
      · refine inv_step _ (by rfl) (by rfl) (fun K' hK => ?_)
        simp only [putAll, Act.put, List.setIfInBounds_toArray, List.set_cons_succ, List.set_cons_zero] at hK ⊢
        have kb : ∀ i, u.cell? ⟨g, i, none⟩ = #[Value.slice sy.l.Ao y.e.out.length sy.l.co, .int .i64 y.e.base, .bool y.e.closed, .bool y.e.done, .slice sy.l.Ai y.e.inn.length sy.l.ci, .int .i64 y.e.next, .bool y.e.ended, .bool y.e.due, .slice lf.Ao a.out.length lf.co, .int .i64 a.base, .bool a.closed, .bool a.done, .slice lf.Ai a.inn.length lf.ci, .int .i64 a.next, .bool a.ended, .bool a.due, .slice sy.P y.sent.length sy.c, .slice sx.P x.sent.length sx.c, .string ⟨y.wr.toArray⟩, .string ⟨x.wr.toArray⟩, .string ⟨y.rd.toArray⟩, .string ⟨x.rd.toArray⟩, .bool y.over, .bool x.over, .bool wrong][i]? := fun i => (HBX4.out.onlyNil hI).cell i
        go_simp
        exact hK _ _ ⟨Only.refl _ _, hI, rfl⟩
      · refine inv_step _ (by rfl) (by rfl) (fun K' hK => ?_)
        simp only [putAll, Act.put, List.setIfInBounds_toArray, List.set_cons_succ, List.set_cons_zero] at hK ⊢
        have hst := HST2.out u hI
        go_simp
        exact hK _ _ ⟨Only.refl _ _, hI, rfl⟩
      · refine inv_step _ (by rfl) (by rfl) (fun K' hK => ?_)
        simp only [putAll, Act.put, List.setIfInBounds_toArray, List.set_cons_succ, List.set_cons_zero] at hK ⊢
        have e5 := hA 5 (hd 5 (by simp))
        change vs 5 = (.string ⟨x.rd.toArray⟩) at e5
        have e7 := hA 7 (hd 7 (by simp))
        change vs 7 = (.string ⟨rdd.toArray⟩) at e7
        simp only [e5, e7] at hK
        have hadd := HADD.out u
        go_simp
        exact hK _ _ ⟨Only.refl _ _, hI, rfl⟩
      · refine inv_step _ (by rfl) (by rfl) (fun K' hK => ?_)
        simp only [putAll, Act.put, List.setIfInBounds_toArray, List.set_cons_succ, List.set_cons_zero] at hK ⊢
        go_simp
        exact hK _ _ ⟨Only.refl _ _, hI, rfl⟩
    case fin_10 =>
      intro L vs u hI hL hA
      simp only [putAll, Act.put, List.setIfInBounds_toArray, List.set_cons_succ, List.set_cons_zero, List.drop_succ_cons, List.drop_zero]
      have e9 := hA 8 (by omega)
      change vs 8 = .string ⟨(x.rd ++ rdd).toArray⟩ at e9
      have e12 := hA 11 (by omega)
      change vs 11 = .pointer (some ⟨g, 21, none⟩) at e12
      simp only [e9, e12]
      have kb : ∀ i, u.cell? ⟨g, i, none⟩ = #[Value.slice sy.l.Ao y.e.out.length sy.l.co, .int .i64 y.e.base, .bool y.e.closed, .bool y.e.done, .slice sy.l.Ai y.e.inn.length sy.l.ci, .int .i64 y.e.next, .bool y.e.ended, .bool y.e.due, .slice lf.Ao a.out.length lf.co, .int .i64 a.base, .bool a.closed, .bool a.done, .slice lf.Ai a.inn.length lf.ci, .int .i64 a.next, .bool a.ended, .bool a.due, .slice sy.P y.sent.length sy.c, .slice sx.P x.sent.length sx.c, .string ⟨y.wr.toArray⟩, .string ⟨x.wr.toArray⟩, .string ⟨y.rd.toArray⟩, .string ⟨x.rd.toArray⟩, .bool y.over, .bool x.over, .bool wrong][i]? := fun i => (HBX4.out.onlyNil hI).cell i
      have fb : ∀ i, u.frozen? ⟨g, i, none⟩ = false := fun i => (HBX4.out.onlyNil hI).frozen i
      have hO6 : Only (One g) wc (u.setCell ⟨g, 21, none⟩ (.string ⟨(x.rd ++ rdd).toArray⟩)) := by
          refine hI.any.then_ ?_
          (repeat' (first | with_reducible exact Only.refl _ _ | with_reducible refine Only.setCell ?_ (Or.inl ?_) _ | with_reducible refine Only.drewN ?_ _ | with_reducible refine Only.drew ?_ | with_reducible refine Only.alloc ?_ _ | (exact rfl)))
      have hb6 : Blk (u.setCell ⟨g, 21, none⟩ (.string ⟨(x.rd ++ rdd).toArray⟩)) g 68 (larr 1 { x with e := a, rd := x.rd ++ rdd } { sx with l := lf } y sy wrong) := by
          have h := (HBX4.out.onlyNil hI).set_ 21 (.string ⟨(x.rd ++ rdd).toArray⟩)
          unfold larr
          rw [if_neg (by decide)]
          simp only [List.setIfInBounds_toArray, List.set_cons_succ, List.set_cons_zero] at h
          exact h
      have HL6 := Lib.hid (HL4.out.turn hO6 hb6 rfl rfl rfl rfl HL4.out.fx.eb)
      have HO6 := Lib.hid hO6
      clear hO6 hb6 hA hL hI e9 e12
      go_wp2_with fail
      go_meet
      case rel => exact ⟨HL6.out, HO6.out⟩
  case rest =>
  have HL6 := Lib.hid hcut.1
  have HO36 := Lib.hid ((HO3.out.any.trans (S := fun b => B0 ≤ b) HO4.out (fun x hx => .inl (by have := HC.out.new; unfold One at hx; omega))).trans hcut.2 (fun x hx => .inl (by have := HC.out.new; unfold One at hx; omega)))
  clear hcut
  have hbx6 := HL6.out.box
  unfold larr at hbx6
  rw [if_neg (by decide)] at hbx6
  dsimp only at hbx6
  obtain ⟨Z, hZ⟩ : ∃ Z, ((R : Int) == 0) = Z := ⟨_, rfl⟩
  have HZ := Lib.hid hZ
  obtain ⟨ov, hov⟩ : ∃ ov, x.over = ov := ⟨_, rfl⟩
  rw [hov] at hbx6
  have HBX6 := Lib.hid hbx6
  have HOV : Hid ((x.over || decide (rdd.length = 0)) = (ov || Z)) := Lib.hid (by
    rw [hov, ← hZ, HRR.out]
    congr 1
    show decide (R = 0) = decide ((R : Int) = 0)
    rw [decide_eq_decide]
    omega)
  clear hbx6 hZ hov
  go_upto_region 15 with fail
  cases ov
  case false =>
    have kb : ∀ i, wc.cell? ⟨g, i, none⟩ = #[Value.slice sy.l.Ao y.e.out.length sy.l.co, .int .i64 y.e.base, .bool y.e.closed, .bool y.e.done, .slice sy.l.Ai y.e.inn.length sy.l.ci, .int .i64 y.e.next, .bool y.e.ended, .bool y.e.due, .slice lf.Ao a.out.length lf.co, .int .i64 a.base, .bool a.closed, .bool a.done, .slice lf.Ai a.inn.length lf.ci, .int .i64 a.next, .bool a.ended, .bool a.due, .slice sy.P y.sent.length sy.c, .slice sx.P x.sent.length sx.c, .string ⟨y.wr.toArray⟩, .string ⟨x.wr.toArray⟩, .string ⟨y.rd.toArray⟩, .string ⟨(x.rd ++ rdd).toArray⟩, .bool y.over, .bool false, .bool wrong][i]? := fun i => HBX6.out.cell i
    have fb : ∀ i, wc.frozen? ⟨g, i, none⟩ = false := fun i => HBX6.out.frozen i
    have hz := HZ.out
    go_still_tail 16, (by kernel_rfl)
    clear hz
    go_wp2_with fail
    refine bodyPost_end (v := .tuple #[]) (by simp [results, Try.results30, go_sem]) rfl ?_
    have hfin : ∀ u', u' = (wc.setCell ⟨g, 23, none⟩ (.bool Z)).drew → DoPost 1 n d 1 B0 g x y sy wrong w (.returned (.tuple #[])) u' := fun u' hu => by
      have hO : Only (One g) wc u' := by
        rw [hu]
        (repeat' (first | with_reducible exact Only.refl _ _ | with_reducible refine Only.setCell ?_ (Or.inl ?_) _ | with_reducible refine Only.drewN ?_ _ | with_reducible refine Only.drew ?_ | with_reducible refine Only.alloc ?_ _ | (exact rfl)))
      have hb : Blk u' g 68 (larr 1 { x with e := a, rd := x.rd ++ rdd, over := x.over || decide (rdd.length = 0) } { sx with l := lf } y sy wrong) := by
        have h := (HBX6.out.set_ 23 (.bool Z)).drew
        have hz := HOV.out
        unfold larr
        rw [if_neg (by decide)]
        dsimp only
        rw [hz, hu]
        simp only [List.setIfInBounds_toArray, List.set_cons_succ, List.set_cons_zero] at h
        exact h
      exact ⟨⟨_, rfl⟩, ⟨_, by rw [HST.out]; exact HL6.out.turn hO hb rfl rfl rfl rfl HL6.out.fx.eb⟩, (HO36.out).trans hO (fun x hx => .inl (by have := HC.out.new; unfold One at hx; omega))⟩
    exact hfin _ rfl

  case true =>
    have kb : ∀ i, wc.cell? ⟨g, i, none⟩ = #[Value.slice sy.l.Ao y.e.out.length sy.l.co, .int .i64 y.e.base, .bool y.e.closed, .bool y.e.done, .slice sy.l.Ai y.e.inn.length sy.l.ci, .int .i64 y.e.next, .bool y.e.ended, .bool y.e.due, .slice lf.Ao a.out.length lf.co, .int .i64 a.base, .bool a.closed, .bool a.done, .slice lf.Ai a.inn.length lf.ci, .int .i64 a.next, .bool a.ended, .bool a.due, .slice sy.P y.sent.length sy.c, .slice sx.P x.sent.length sx.c, .string ⟨y.wr.toArray⟩, .string ⟨x.wr.toArray⟩, .string ⟨y.rd.toArray⟩, .string ⟨(x.rd ++ rdd).toArray⟩, .bool y.over, .bool true, .bool wrong][i]? := fun i => HBX6.out.cell i
    have fb : ∀ i, wc.frozen? ⟨g, i, none⟩ = false := fun i => HBX6.out.frozen i
    have hz := HZ.out
    go_still_tail 16, (by kernel_rfl)
    clear hz
    go_wp2_with fail
    refine bodyPost_end (v := .tuple #[]) (by simp [results, Try.results30, go_sem]) rfl ?_
    have hfin : ∀ u', u' = (wc.setCell ⟨g, 23, none⟩ (.bool true)).drew → DoPost 1 n d 1 B0 g x y sy wrong w (.returned (.tuple #[])) u' := fun u' hu => by
      have hO : Only (One g) wc u' := by
        rw [hu]
        (repeat' (first | with_reducible exact Only.refl _ _ | with_reducible refine Only.setCell ?_ (Or.inl ?_) _ | with_reducible refine Only.drewN ?_ _ | with_reducible refine Only.drew ?_ | with_reducible refine Only.alloc ?_ _ | (exact rfl)))
      have hb : Blk u' g 68 (larr 1 { x with e := a, rd := x.rd ++ rdd, over := x.over || decide (rdd.length = 0) } { sx with l := lf } y sy wrong) := by
        have h := (HBX6.out.set_ 23 (.bool true)).drew
        have hz := HOV.out
        unfold larr
        rw [if_neg (by decide)]
        dsimp only
        rw [hz, hu]
        simp only [List.setIfInBounds_toArray, List.set_cons_succ, List.set_cons_zero] at h
        exact h
      exact ⟨⟨_, rfl⟩, ⟨_, by rw [HST.out]; exact HL6.out.turn hO hb rfl rfl rfl rfl HL6.out.fx.eb⟩, (HO36.out).trans hO (fun x hx => .inl (by have := HC.out.new; unfold One at hx; omega))⟩
    exact hfin _ rfl


end Go.Proofs.Ytfichoekjjcjiaa
