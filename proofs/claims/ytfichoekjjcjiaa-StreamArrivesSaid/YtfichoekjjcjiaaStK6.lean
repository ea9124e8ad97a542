/-
  link.do: Receive.
  Conditions: the link lies in memory as 'LK' says.
-/
import Derived.Test.YtfichoekjjcjiaaStK2
import Derived.Test.YtfichoekjjcjiaaStKB
import Derived.BigRegion
import Derived.Deep.Cut
import Derived.Deep.DeepCutAuto
namespace Go.Proofs.Ytfichoekjjcjiaa
open Go.RowKit

set_option maxRecDepth 100000 in
set_option maxHeartbeats 8000000 in
theorem do_receive0 (kd sd nn : Int) (D : Option Addr) (cd : Nat) (d : List UInt8) (n : Nat) (B0 g : Nat) (x y : Sd) (sx sy : SC) (wrong : Bool) (w : World) (hk : kd % 6 = 4) (hs : sd % 2 = 0) (hkd : 0 ≤ kd ∧ kd ≤ 255) (hsd : 0 ≤ sd ∧ sd ≤ 255) (hn : nn = n) (hn8 : n ≤ 255)
    (h : LK w B0 g 0 x sx y sy wrong) (hB : B0 ≤ w.heap.size) (hd : Bs w w.heap.size D d) (hdl : d.length ≤ 200) (hok : ∀ p, y.sent[n % y.sent.length]? = some p → (recvE x.e p).2 = 0) (hsl : y.sent.length ≤ 1000000) :
    Calls Try.prog 30 #[.pointer (some ⟨g, 0, none⟩), .agg #[.int .u8 kd, .int .u8 sd, .int .u8 nn, .slice D d.length cd]] w (DoPost 4 n d 0 B0 g x y sy wrong w) := by
  have H := Lib.hid h
  have HD := Lib.hid hd
  have HBB := Lib.hid hB
  have HDL := Lib.hid hdl
  have HGL := Lib.hid h.box.lt
  have hE := h.fx.eb
  have hbx := h.box
  unfold larr at hbx
  rw [if_pos rfl] at hbx
  have HBX := Lib.hid hbx
  obtain ⟨w1, hw1⟩ : ∃ w1, w1 = w.alloc (.cells #[.int .u8 kd, .int .u8 sd, .int .u8 nn, .slice D d.length cd] 70) := ⟨_, rfl⟩
  have hO1 : Only Nil w w1 := by rw [hw1]; exact (Only.refl _ _).alloc _
  have HA := Lib.hid (show Blk w1 w.heap.size 70 #[.int .u8 kd, .int .u8 sd, .int .u8 nn, .slice D d.length cd] by rw [hw1]; exact Blk.new _ _ _)
  have HO1 := Lib.hid hO1
  have HN := Lib.hid hn
  have HN8 := Lib.hid hn8
  have ht1 : kd.tmod 6 = 4 := by rw [Int.tmod_eq_emod_of_nonneg hkd.1, hk]
  have ht2 : sd.tmod 2 = 0 := by rw [Int.tmod_eq_emod_of_nonneg hsd.1, hs]
  clear h hd hB hdl hbx hO1 hn hn8 hkd hsd
  have HOK := Lib.hid hok
  have HSL := Lib.hid hsl
  clear hok hsl
  go_enter Try.func30, Try.ntmps30
  go_upto_region 1 with fail
  rw [← hw1]
  clear hw1
  have ka : ∀ i, w1.cell? ⟨w.heap.size, i, none⟩ = #[Value.int .u8 kd, .int .u8 sd, .int .u8 nn, .slice D d.length cd][i]? := fun i => HA.out.cell i
  have kb : ∀ i, w1.cell? ⟨g, i, none⟩ = #[Value.slice sx.l.Ao x.e.out.length sx.l.co, .int .i64 x.e.base, .bool x.e.closed, .bool x.e.done, .slice sx.l.Ai x.e.inn.length sx.l.ci, .int .i64 x.e.next, .bool x.e.ended, .bool x.e.due, .slice sy.l.Ao y.e.out.length sy.l.co, .int .i64 y.e.base, .bool y.e.closed, .bool y.e.done, .slice sy.l.Ai y.e.inn.length sy.l.ci, .int .i64 y.e.next, .bool y.e.ended, .bool y.e.due, .slice sx.P x.sent.length sx.c, .slice sy.P y.sent.length sy.c, .string ⟨x.wr.toArray⟩, .string ⟨y.wr.toArray⟩, .string ⟨x.rd.toArray⟩, .string ⟨y.rd.toArray⟩, .bool x.over, .bool y.over, .bool wrong][i]? := fun i => (HBX.out.onlyNil HO1.out).cell i
  go_upto_region 2 with fail
  go_cut [5] (fun pe wd => ∃ ge, pe = .pointer (some ⟨ge, 0, none⟩) ∧ Blk wd ge 29 (earr sx.l x.e) ∧ w.heap.size ≤ ge ∧ Only Nil w1 wd)
  case first =>
    go_wp2_with fail
    go_meet
    case rel => exact ⟨w1.heap.size, rfl, Blk.new _ _ _, HO1.out.size, (Only.refl _ _).alloc _⟩
  case rest =>
  obtain ⟨ge, rfl, hY, hge, hOc⟩ := hcut
  have HY := Lib.hid hY
  have HC := Lib.hid (H.out.onlyNil (HO1.out.thenNil hOc))
  have HA2 := Lib.hid (HA.out.onlyNil hOc)
  have HO2 := Lib.hid (HO1.out.thenNil hOc)
  have HGE := Lib.hid (show ge ≠ g by have := HGL.out; omega)
  clear ka kb hOc hge
  have ka : ∀ i, wc.cell? ⟨w.heap.size, i, none⟩ = #[Value.int .u8 kd, .int .u8 sd, .int .u8 nn, .slice D d.length cd][i]? := fun i => HA2.out.cell i
  have ke : ∀ i, wc.cell? ⟨ge, i, none⟩ = #[Value.slice sx.l.Ao x.e.out.length sx.l.co, .int .i64 x.e.base, .bool x.e.closed, .bool x.e.done, .slice sx.l.Ai x.e.inn.length sx.l.ci, .int .i64 x.e.next, .bool x.e.ended, .bool x.e.due][i]? := fun i => hY.cell i
  clear hY
  obtain ⟨m, hm⟩ : ∃ m, y.sent.length = m := ⟨_, rfl⟩
  have HM := Lib.hid hm
  have kb : ∀ i, wc.cell? ⟨g, i, none⟩ = #[Value.slice sx.l.Ao x.e.out.length sx.l.co, .int .i64 x.e.base, .bool x.e.closed, .bool x.e.done, .slice sx.l.Ai x.e.inn.length sx.l.ci, .int .i64 x.e.next, .bool x.e.ended, .bool x.e.due, .slice sy.l.Ao y.e.out.length sy.l.co, .int .i64 y.e.base, .bool y.e.closed, .bool y.e.done, .slice sy.l.Ai y.e.inn.length sy.l.ci, .int .i64 y.e.next, .bool y.e.ended, .bool y.e.due, .slice sx.P x.sent.length sx.c, .slice sy.P m sy.c, .string ⟨x.wr.toArray⟩, .string ⟨y.wr.toArray⟩, .string ⟨x.rd.toArray⟩, .string ⟨y.rd.toArray⟩, .bool x.over, .bool y.over, .bool wrong][i]? := fun i => by rw [← hm]; exact (HBX.out.onlyNil HO2.out).cell i
  clear hm
  obtain ⟨u2, rfl⟩ : ∃ u2, u2 = wc := ⟨_, rfl⟩
  go_upto_region 26 with fail
  go_cut [16] (fun v wd => v = .int .i64 (m : Int) ∧ wd = u2)
  case first =>
    go_wp2_with fail
    go_meet
    case rel => exact ⟨rfl, rfl⟩
  case rest =>
  obtain ⟨rfl, rfl⟩ := hcut
  by_cases hm0 : m = 0
  · have HST : Hid ((stepS 4 n d (0 : Nat) x y).1 = x) := Lib.hid (by
      have hl : y.sent = [] := List.eq_nil_of_length_eq_zero (by rw [HM.out]; exact hm0)
      unfold stepS
      rw [if_neg (by decide), if_neg (by decide), if_neg (by decide), if_neg (by decide), if_pos rfl, hl]
      rfl)
    subst hm0
    go_wp2_with fail
    refine bodyPost_end (v := .tuple #[]) (by simp [results, Try.results30, go_sem]) rfl ?_
    exact ⟨⟨_, rfl⟩, ⟨sx, by rw [HST.out]; exact HC.out⟩, HO2.out.any⟩
  have hmp : 0 < m := Nat.pos_of_ne_zero hm0
  obtain ⟨k, hk⟩ : ∃ k, n % m = k := ⟨_, rfl⟩
  have hkm : k < m := by rw [← hk]; exact Nat.mod_lt _ hmp
  have hrl : sy.rows.length = m := by
    have h := congrArg List.length HC.out.fy.map
    rw [List.length_map, HM.out] at h
    exact h
  obtain ⟨r, hr⟩ : ∃ r, sy.rows[k]? = some r := ⟨_, List.getElem?_eq_getElem (by rw [hrl]; exact hkm)⟩
  obtain ⟨b, off, hPa, hbl, hcr⟩ := Rd.row PR.cells_len (Rd.of_own HC.out.fy.row) hr (by omega)
  have hPB := HC.out.fy.pb r (List.mem_of_getElem? hr)
  have hp : y.sent[n % y.sent.length]? = some r.p := by
    rw [HM.out, hk, ← HC.out.fy.map, List.getElem?_map, hr]
    rfl
  have hcn := HOK.out _ hp
  obtain ⟨Ar, cr, p⟩ := r
  dsimp only at hp hPB hcn
  obtain ⟨a, cn, hce⟩ : ∃ a cn, recvE x.e p = (a, cn) := ⟨_, _, rfl⟩
  have HST : Hid ((stepS 4 n d (0 : Nat) x y).1 = { x with e := a }) := Lib.hid (by
    unfold stepS
    rw [if_neg (by decide), if_neg (by decide), if_neg (by decide), if_neg (by decide), if_pos rfl, hp]
    show ({ x with e := (recvE x.e p).1 } : Sd) = _
    rw [hce])
  rw [hce] at hcn
  change cn = 0 at hcn
  subst hcn
  have HCL : Hid (∀ w', EB w' w'.heap.size sx.l x.e → PB w' w'.heap.size Ar cr p → Calls Try.prog 12 #[.agg (ecells sx.l x.e).toArray, .agg (pcells Ar cr p).toArray] w' (EPost (a, 0) w')) := Lib.hid (fun w' hE hP => by
    have h := receive_any sx.l x.e Ar cr p w' hE hP
    rw [hce] at h
    exact h)
  have HKR : Hid (∀ u, Only Nil wc u → u.cell? ⟨b, off + k * 6, none⟩ = some (.int .i64 p.pair) ∧ u.cell? ⟨b, off + k * 6 + 1, none⟩ = some (.int .i64 p.side) ∧ u.cell? ⟨b, off + k * 6 + 2, none⟩ = some (.int .i64 p.seq) ∧ u.cell? ⟨b, off + k * 6 + 3, none⟩ = some (.int .i64 p.ack) ∧ u.cell? ⟨b, off + k * 6 + 4, none⟩ = some (.bool p.fin) ∧ u.cell? ⟨b, off + k * 6 + 5, none⟩ = some (.slice Ar p.data.length cr)) := Lib.hid (fun u hO => by
    have hc : ∀ j v, (pcells Ar cr p)[j]? = some v → u.cell? ⟨b, off + k * 6 + j, none⟩ = some v := fun j v hj => by
      rw [Nat.add_assoc]
      exact (hO.cell (p := ⟨b, off + (k * 6 + j), none⟩) hbl (fun hx => hx)).trans (hcr j v hj)
    exact ⟨hc 0 _ rfl, hc 1 _ rfl, hc 2 _ rfl, hc 3 _ rfl, hc 4 _ rfl, hc 5 _ rfl⟩)
  have HTM : Hid (Int.tmod nn (m : Int) = (k : Int)) := Lib.hid (by
    have h := HN.out
    rw [h, Int.tmod_eq_emod_of_nonneg (by omega), ← Int.natCast_emod, hk])
  have HKM : Hid (k < m) := Lib.hid hkm
  have HMM : Hid (m ≤ 1000000) := Lib.hid (by have h := HSL.out; have h2 := HM.out; omega)
  have HPB := Lib.hid hPB
  have HBXB : Hid (Blk wc g 68 #[Value.slice sx.l.Ao x.e.out.length sx.l.co, .int .i64 x.e.base, .bool x.e.closed, .bool x.e.done, .slice sx.l.Ai x.e.inn.length sx.l.ci, .int .i64 x.e.next, .bool x.e.ended, .bool x.e.due, .slice sy.l.Ao y.e.out.length sy.l.co, .int .i64 y.e.base, .bool y.e.closed, .bool y.e.done, .slice sy.l.Ai y.e.inn.length sy.l.ci, .int .i64 y.e.next, .bool y.e.ended, .bool y.e.due, .slice sx.P x.sent.length sx.c, .slice (some ⟨b, off, none⟩) m sy.c, .string ⟨x.wr.toArray⟩, .string ⟨y.wr.toArray⟩, .string ⟨x.rd.toArray⟩, .string ⟨y.rd.toArray⟩, .bool x.over, .bool y.over, .bool wrong]) := Lib.hid (by
    have h := HBX.out.onlyNil HO2.out
    rw [HM.out, hPa] at h
    exact h)
  have HEY : Hid (Blk wc ge 29 #[Value.slice sx.l.Ao x.e.out.length sx.l.co, .int .i64 x.e.base, .bool x.e.closed, .bool x.e.done, .slice sx.l.Ai x.e.inn.length sx.l.ci, .int .i64 x.e.next, .bool x.e.ended, .bool x.e.due]) := Lib.hid HY.out
  clear hk hkm hrl hr hPa hbl hcr hPB hp hce kb
  have hmi : (0 : Int) < (m : Int) := by omega
  have hmd : decide (0 < m) = true := decide_eq_true hmp
  go_upto_region 28 with fail
  go_cut [17, 18] (fun pe v wd => ∃ gf, pe = .pointer (some ⟨gf, 0, none⟩) ∧ v = .int .i64 0 ∧ EBox 29 wd gf a ∧ w.heap.size ≤ gf ∧ Only Nil wc wd)
  case first =>
    clear ka ke hmi hmd hmp hm0
    have HIN : Hid (∀ (L : Nat → Bool) (vs : Nat → Value) (u u' : World), Only Nil u u' → (fun L vs u => RI a 0 wc (L 15) (L 16) (L 17) (L 19) (L 20) (vs 15) (vs 16) (vs 17) (vs 19) u) L vs u → (fun L vs u => RI a 0 wc (L 15) (L 16) (L 17) (L 19) (L 20) (vs 15) (vs 16) (vs 17) (vs 19) u) L vs u') := Lib.hid (fun L vs u u' hO hI => by
      exact hI.keep hO)
    refine wp_region_any (by kernel_rfl) ?_
    change wpAny _ _ _ _ _ _ _ (World.drew _)
    refine take_first (i := 1) (v := ?v1_15) (some 186) rfl (by rfl) (by kernel_rfl) (by kernel_rfl) (by kernel_rfl) (fun _ _ _ h => h) (Or.inl ⟨by rfl, ?hy1_15⟩) ?rest1_15
    case hy1_15 => (intro w; go_simp <;> with_reducible rfl)
    refine take_first (i := 2) (v := ?v2_15) (some 187) rfl (by rfl) (by kernel_rfl) (by kernel_rfl) (by kernel_rfl) (fun _ _ _ h => h) (Or.inl ⟨by rfl, ?hy2_15⟩) ?rest2_15
    case hy2_15 => (intro w; go_simp <;> with_reducible rfl)
    refine take_first (i := 4) (v := ?v4_15) (some 189) rfl (by rfl) (by kernel_rfl) (by kernel_rfl) (by kernel_rfl) (fun _ _ _ h => h) (Or.inl ⟨by rfl, ?hy4_15⟩) ?rest4_15
    case hy4_15 => (intro w; go_simp <;> with_reducible rfl)
    refine take_first (i := 5) (v := ?v5_15) (some 190) rfl (by rfl) (by kernel_rfl) (by kernel_rfl) (by kernel_rfl) (fun _ _ _ h => h) (Or.inl ⟨by rfl, ?hy5_15⟩) ?rest5_15
    case hy5_15 => (intro w; go_simp <;> with_reducible rfl)
    refine take_first (i := 8) (v := ?v8_15) (some 193) rfl (by rfl) (by kernel_rfl) (by kernel_rfl) (by kernel_rfl) (fun _ _ _ h => h) (Or.inl ⟨by rfl, ?hy8_15⟩) ?rest8_15
    case hy8_15 => (intro w; go_simp <;> with_reducible rfl)
    refine take_first (i := 11) (v := ?v11_15) (some 196) rfl (by rfl) (by kernel_rfl) (by kernel_rfl) (by kernel_rfl) (fun _ _ _ h => h) (Or.inl ⟨by rfl, ?hy11_15⟩) ?rest11_15
    case hy11_15 => (intro w; go_simp <;> with_reducible rfl)
    refine wpAny_inv2 (X := [(0, some 185, []), (3, some 188, []), (6, some 191, [3]), (7, some 192, [6]), (9, some 194, []), (10, some 195, [9]), (12, some 197, [10]), (13, some 198, [7, 12]), (14, some 199, [13]), (15, some 200, [0, 14]), (16, some 184, [15]), (17, some 201, [16]), (18, some 202, [16]), (19, some 17, []), (20, none, [17, 19])]) (n := 15) (g := 1) (m := 21) (l0 := [false, true, true, false, true, true, false, false, true, false, false, true, false, false, false, false, false, false, false, false, false, false]) (T := fun x => wc.heap.size ≤ x) (Ps := [Cst (.agg #[Value.slice sx.l.Ao x.e.out.length sx.l.co, .int .i64 x.e.base, .bool x.e.closed, .bool x.e.done, .slice sx.l.Ai x.e.inn.length sx.l.ci, .int .i64 x.e.next, .bool x.e.ended, .bool x.e.due]), Any, Any, Cst (.int .i64 1), Any, Any, Cst (.pointer (some ⟨g, 17, none⟩)), Cst (.slice (some ⟨b, off, none⟩) m sy.c), Any, Cst (.int .u8 nn), Cst (.int .i64 nn), Any, Cst (.int .i64 (k : Int)), Cst (.pointer (some ⟨b, off + k * 6, none⟩)), Cst (.agg #[Value.int .i64 p.pair, .int .i64 p.side, .int .i64 p.seq, .int .i64 p.ack, .bool p.fin, .slice Ar p.data.length cr]), Any, Any, Any, Cst (.int .i64 0), Any, Any])
      (I := fun L vs u => RI a 0 wc (L 15) (L 16) (L 17) (L 19) (L 20) (vs 15) (vs 16) (vs 17) (vs 19) u)
      (by kernel_rfl) rfl (by kernel_rfl) (by kernel_rfl) (by kernel_rfl) rfl ?h0_15 ?st_15 ?i0_15 ?step_15 ?fin_15
    case h0_15 =>
      intro j hj v u
      match j, hj with
      | 0, hj => exact absurd hj (by decide)
      | 1, hj => trivial
      | 2, hj => trivial
      | 3, hj => exact absurd hj (by decide)
      | 4, hj => trivial
      | 5, hj => trivial
      | 6, hj => exact absurd hj (by decide)
      | 7, hj => exact absurd hj (by decide)
      | 8, hj => trivial
      | 9, hj => exact absurd hj (by decide)
      | 10, hj => exact absurd hj (by decide)
      | 11, hj => trivial
      | 12, hj => exact absurd hj (by decide)
      | 13, hj => exact absurd hj (by decide)
      | 14, hj => exact absurd hj (by decide)
      | 15, hj => exact absurd hj (by decide)
      | 16, hj => exact absurd hj (by decide)
      | 17, hj => exact absurd hj (by decide)
      | 18, hj => exact absurd hj (by decide)
      | 19, hj => exact absurd hj (by decide)
      | 20, hj => exact absurd hj (by decide)
      | 21, hj => exact absurd hj (by decide)
      | n + 22, hj => exact absurd hj (by simp)
    case st_15 =>
      intro p hp
      simp only [List.mem_cons, List.not_mem_nil, or_false] at hp
      rcases hp with rfl | rfl | rfl | rfl | rfl | rfl | rfl | rfl | rfl | rfl | rfl | rfl | rfl | rfl | rfl | rfl | rfl | rfl | rfl | rfl | rfl <;> first | exact Stays.cst _ | exact Stays.any
    case i0_15 =>
      intro vs
      exact RI.begin (Only.refl _ _).drew
    case step_15 =>
      intro x hx L vs u hI hA h0 hd
      simp only [List.mem_cons, List.not_mem_nil, or_false] at hx
      rcases hx with rfl | rfl | rfl | rfl | rfl | rfl | rfl | rfl | rfl | rfl | rfl | rfl | rfl | rfl | rfl
      · refine inv_step _ (by rfl) (by rfl) (fun K' hK => ?_)
        simp only [putAll, Act.put, List.setIfInBounds_toArray, List.set_cons_succ, List.set_cons_zero] at hK ⊢
        have ke : ∀ i, u.cell? ⟨ge, i, none⟩ = #[Value.slice sx.l.Ao x.e.out.length sx.l.co, .int .i64 x.e.base, .bool x.e.closed, .bool x.e.done, .slice sx.l.Ai x.e.inn.length sx.l.ci, .int .i64 x.e.next, .bool x.e.ended, .bool x.e.due][i]? := fun i => (HEY.out.onlyNil (show Only Nil wc u from (show RI a 0 wc (L 15) (L 16) (L 17) (L 19) (L 20) (vs 15) (vs 16) (vs 17) (vs 19) u from hI).only)).cell i
        go_simp
        exact hK _ _ ⟨Only.refl _ _, hI, rfl⟩
      · refine inv_step _ (by rfl) (by rfl) (fun K' hK => ?_)
        simp only [putAll, Act.put, List.setIfInBounds_toArray, List.set_cons_succ, List.set_cons_zero] at hK ⊢
        go_simp
        exact hK _ _ ⟨Only.refl _ _, hI, rfl⟩
      · refine inv_step _ (by rfl) (by rfl) (fun K' hK => ?_)
        simp only [putAll, Act.put, List.setIfInBounds_toArray, List.set_cons_succ, List.set_cons_zero] at hK ⊢
        have e3 := hA 3 (hd 3 (by simp))
        change vs 3 = (.int .i64 1) at e3
        simp only [e3] at hK
        go_simp
        exact hK _ _ ⟨Only.refl _ _, hI, rfl⟩
      · refine inv_step _ (by rfl) (by rfl) (fun K' hK => ?_)
        simp only [putAll, Act.put, List.setIfInBounds_toArray, List.set_cons_succ, List.set_cons_zero] at hK ⊢
        have e6 := hA 6 (hd 6 (by simp))
        change vs 6 = (.pointer (some ⟨g, 17, none⟩)) at e6
        simp only [e6] at hK
        have kb : ∀ i, u.cell? ⟨g, i, none⟩ = #[Value.slice sx.l.Ao x.e.out.length sx.l.co, .int .i64 x.e.base, .bool x.e.closed, .bool x.e.done, .slice sx.l.Ai x.e.inn.length sx.l.ci, .int .i64 x.e.next, .bool x.e.ended, .bool x.e.due, .slice sy.l.Ao y.e.out.length sy.l.co, .int .i64 y.e.base, .bool y.e.closed, .bool y.e.done, .slice sy.l.Ai y.e.inn.length sy.l.ci, .int .i64 y.e.next, .bool y.e.ended, .bool y.e.due, .slice sx.P x.sent.length sx.c, .slice (some ⟨b, off, none⟩) m sy.c, .string ⟨x.wr.toArray⟩, .string ⟨y.wr.toArray⟩, .string ⟨x.rd.toArray⟩, .string ⟨y.rd.toArray⟩, .bool x.over, .bool y.over, .bool wrong][i]? := fun i => (HBXB.out.onlyNil (show Only Nil wc u from (show RI a 0 wc (L 15) (L 16) (L 17) (L 19) (L 20) (vs 15) (vs 16) (vs 17) (vs 19) u from hI).only)).cell i
        go_simp
        exact hK _ _ ⟨Only.refl _ _, hI, rfl⟩
      · refine inv_step _ (by rfl) (by rfl) (fun K' hK => ?_)
        simp only [putAll, Act.put, List.setIfInBounds_toArray, List.set_cons_succ, List.set_cons_zero] at hK ⊢
        have ka : ∀ i, u.cell? ⟨w.heap.size, i, none⟩ = #[Value.int .u8 kd, .int .u8 sd, .int .u8 nn, .slice D d.length cd][i]? := fun i => (HA2.out.onlyNil (show Only Nil wc u from (show RI a 0 wc (L 15) (L 16) (L 17) (L 19) (L 20) (vs 15) (vs 16) (vs 17) (vs 19) u from hI).only)).cell i
        go_simp
        exact hK _ _ ⟨Only.refl _ _, hI, rfl⟩
      · refine inv_step _ (by rfl) (by rfl) (fun K' hK => ?_)
        simp only [putAll, Act.put, List.setIfInBounds_toArray, List.set_cons_succ, List.set_cons_zero] at hK ⊢
        have e9 := hA 9 (hd 9 (by simp))
        change vs 9 = (.int .u8 nn) at e9
        simp only [e9] at hK
        have hn0 : 0 ≤ nn := by have := HN.out; omega
        have hn1 : nn ≤ 255 := by have := HN.out; have := HN8.out; omega
        have hnw : IntKind.i64.wrap nn = nn := IntWalk.i64_in _ (by omega)
        go_simp
        exact hK _ _ ⟨Only.refl _ _, hI, rfl⟩
      · refine inv_step _ (by rfl) (by rfl) (fun K' hK => ?_)
        simp only [putAll, Act.put, List.setIfInBounds_toArray, List.set_cons_succ, List.set_cons_zero] at hK ⊢
        have e10 := hA 10 (hd 10 (by simp))
        change vs 10 = (.int .i64 nn) at e10
        simp only [e10] at hK
        have htm := HTM.out
        have hm0 : ¬ m = 0 := by have := HKM.out; omega
        have hkw : IntKind.i64.wrap (k : Int) = k := IntWalk.i64_in _ (by have := HKM.out; have := HMM.out; omega)
        go_simp
        exact hK _ _ ⟨Only.refl _ _, hI, rfl⟩
      · refine inv_step _ (by rfl) (by rfl) (fun K' hK => ?_)
        simp only [putAll, Act.put, List.setIfInBounds_toArray, List.set_cons_succ, List.set_cons_zero] at hK ⊢
        have e7 := hA 7 (hd 7 (by simp))
        change vs 7 = (.slice (some ⟨b, off, none⟩) m sy.c) at e7
        have e12 := hA 12 (hd 12 (by simp))
        change vs 12 = (.int .i64 (k : Int)) at e12
        simp only [e7, e12] at hK
        have hkm := HKM.out
        have hkd : decide (k < m) = true := decide_eq_true hkm
        go_simp
        exact hK _ _ ⟨Only.refl _ _, hI, rfl⟩
      · refine inv_step _ (by rfl) (by rfl) (fun K' hK => ?_)
        simp only [putAll, Act.put, List.setIfInBounds_toArray, List.set_cons_succ, List.set_cons_zero] at hK ⊢
        have e13 := hA 13 (hd 13 (by simp))
        change vs 13 = (.pointer (some ⟨b, off + k * 6, none⟩)) at e13
        simp only [e13] at hK
        obtain ⟨q0, q1, q2, q3, q4, q5⟩ := HKR.out u (show Only Nil wc u from (show RI a 0 wc (L 15) (L 16) (L 17) (L 19) (L 20) (vs 15) (vs 16) (vs 17) (vs 19) u from hI).only)
        go_simp
        exact hK _ _ ⟨Only.refl _ _, hI, rfl⟩
      · refine inv_step _ (by rfl) (by rfl) (fun K' hK => ?_)
        simp only [putAll, Act.put, List.setIfInBounds_toArray, List.set_cons_succ, List.set_cons_zero] at hK ⊢
        have e0 := hA 0 (hd 0 (by simp))
        change vs 0 = (.agg #[Value.slice sx.l.Ao x.e.out.length sx.l.co, .int .i64 x.e.base, .bool x.e.closed, .bool x.e.done, .slice sx.l.Ai x.e.inn.length sx.l.ci, .int .i64 x.e.next, .bool x.e.ended, .bool x.e.due]) at e0
        have e14 := hA 14 (hd 14 (by simp))
        change vs 14 = (.agg #[Value.int .i64 p.pair, .int .i64 p.side, .int .i64 p.seq, .int .i64 p.ack, .bool p.fin, .slice Ar p.data.length cr]) at e14
        simp only [e0, e14] at hK
        go_simp
        go_at_call 12
        refine (HCL.out _ (HC.out.fx.eb.next (show Only Nil wc u from (show RI a 0 wc (L 15) (L 16) (L 17) (L 19) (L 20) (vs 15) (vs 16) (vs 17) (vs 19) u from hI).only)) (HPB.out.next (show Only Nil wc u from (show RI a 0 wc (L 15) (L 16) (L 17) (L 19) (L 20) (vs 15) (vs 16) (vs 17) (vs 19) u from hI).only))).mono ?_
        rintro x5 u5 ⟨l5, rfl, hE5, hO5⟩
        go_simp
        have hI3 : RI a 0 wc (L 15) (L 16) (L 17) (L 19) (L 20) (vs 15) (vs 16) (vs 17) (vs 19) u := hI
        rw [show L 15 = false from h0] at hI3
        exact hK _ _ ⟨hO5.any, hI3.call hO5 hE5, trivial⟩
      · refine inv_step _ (by rfl) (by rfl) (fun K' hK => ?_)
        simp only [putAll, Act.put, List.setIfInBounds_toArray, List.set_cons_succ, List.set_cons_zero] at hK ⊢
        go_simp
        have hI3 : RI a 0 wc (L 15) (L 16) (L 17) (L 19) (L 20) (vs 15) (vs 16) (vs 17) (vs 19) u := hI
        rw [show L 15 = true from hd 15 (by simp), show L 16 = false from h0] at hI3
        refine hK _ _ ⟨Only.refl _ _, ?_, trivial⟩
        have hI4 := hI3.move
        have e4 := hd 15 (by simp)
        show RI a 0 wc (L 15) true (L 17) (L 19) (L 20) (vs 15) (vs 15) (vs 17) (vs 19) u
        rw [e4]
        exact hI4
      · refine inv_step _ (by rfl) (by rfl) (fun K' hK => ?_)
        simp only [putAll, Act.put, List.setIfInBounds_toArray, List.set_cons_succ, List.set_cons_zero] at hK ⊢
        have hI3 : RI a 0 wc (L 15) (L 16) (L 17) (L 19) (L 20) (vs 15) (vs 16) (vs 17) (vs 19) u := hI
        rw [show L 16 = true from hd 16 (by simp), show L 17 = false from h0] at hI3
        obtain ⟨l5, e5⟩ := hI3.tup
        simp only [e5] at hK
        go_simp
        refine hK _ _ ⟨Only.refl _ _, ?_, trivial⟩
        have h5 : L 16 = true := hd 16 (by simp)
        show RI a 0 wc (L 15) (L 16) true (L 19) (L 20) (vs 15) (vs 16) _ (vs 19) u
        rw [h5]
        exact hI3.ext e5
      · refine inv_step _ (by rfl) (by rfl) (fun K' hK => ?_)
        simp only [putAll, Act.put, List.setIfInBounds_toArray, List.set_cons_succ, List.set_cons_zero] at hK ⊢
        have hI3 : RI a 0 wc (L 15) (L 16) (L 17) (L 19) (L 20) (vs 15) (vs 16) (vs 17) (vs 19) u := hI
        rw [show L 16 = true from hd 16 (by simp)] at hI3
        obtain ⟨l5, e5⟩ := hI3.tup
        simp only [e5] at hK
        go_simp
        exact hK _ _ ⟨Only.refl _ _, hI, rfl⟩
      · refine inv_step _ (by rfl) (by rfl) (fun K' hK => ?_)
        simp only [putAll, Act.put, List.setIfInBounds_toArray, List.set_cons_succ, List.set_cons_zero] at hK ⊢
        go_simp
        have hI3 : RI a 0 wc (L 15) (L 16) (L 17) (L 19) (L 20) (vs 15) (vs 16) (vs 17) (vs 19) u := hI
        rw [show L 19 = false from h0] at hI3
        exact hK _ _ ⟨(Only.refl _ _).alloc _, hI3.box, trivial⟩
      · refine inv_step _ (by rfl) (by rfl) (fun K' hK => ?_)
        simp only [putAll, Act.put, List.setIfInBounds_toArray, List.set_cons_succ, List.set_cons_zero] at hK ⊢
        have hI3 : RI a 0 wc (L 15) (L 16) (L 17) (L 19) (L 20) (vs 15) (vs 16) (vs 17) (vs 19) u := hI
        rw [show L 17 = true from hd 17 (by simp), show L 19 = true from hd 19 (by simp), show L 20 = false from h0] at hI3
        obtain ⟨l5, g5, e6, e8, hg, hz, hE5⟩ := hI3.pre
        simp only [e6, e8] at hK
        have kz : ∀ i, u.cell? ⟨g5, i, none⟩ = #[Value.slice none 0 0, .int .i64 0, .bool false, .bool false, .slice none 0 0, .int .i64 0, .bool false, .bool false][i]? := fun i => hz.cell i
        have fz : ∀ i, u.frozen? ⟨g5, i, none⟩ = false := fun i => hz.frozen i
        go_simp
        refine hK undef (put8 u g5 l5 a) ⟨(put8_only _ _ _ _).more (fun x hx => by unfold One at hx; omega), ?_, trivial⟩
        have h6 : L 17 = true := hd 17 (by simp)
        have h8 : L 19 = true := hd 19 (by simp)
        show RI a 0 wc (L 15) (L 16) (L 17) (L 19) true (vs 15) (vs 16) (vs 17) (vs 19) _
        rw [h6, h8]
        exact hI3.store e8 hz hg hE5
    case fin_15 =>
      intro L vs u hI hL hA
      simp only [putAll, Act.put, List.setIfInBounds_toArray, List.set_cons_succ, List.set_cons_zero, List.drop_succ_cons, List.drop_zero]
      have hI3 : RI a 0 wc (L 15) (L 16) (L 17) (L 19) (L 20) (vs 15) (vs 16) (vs 17) (vs 19) u := hI
      rw [hL 19 (by omega), hL 20 (by omega)] at hI3
      obtain ⟨g5, e8, hg, hE, hO⟩ := hI3.fin
      have e7 := hA 18 (by omega)
      change vs 18 = .int .i64 0 at e7
      simp only [e7, e8]
      have HE5 := Lib.hid hE
      have HI5 := Lib.hid hO
      have HG5 := Lib.hid hg
      clear hA hL hI hI3 hE hO e7 e8 hg
      go_wp2_with fail
      go_meet
      case rel => exact ⟨g5, rfl, rfl, HE5.out, Nat.le_trans HO2.out.size HG5.out, HI5.out⟩
  case rest =>
  obtain ⟨gf, rfl, rfl, hEf, hgf, hO5⟩ := hcut
  obtain ⟨lf, hbf, hlf⟩ := hEf
  have HGF := Lib.hid (show gf ≠ g by have := HGL.out; omega)
  have HC3 := Lib.hid (HC.out.onlyNil hO5)
  have HO3' := Lib.hid (HO2.out.thenNil hO5)
  have HLF' := Lib.hid hlf
  have HBF' := Lib.hid hbf
  have kb : ∀ i, wc.cell? ⟨g, i, none⟩ = #[Value.slice sx.l.Ao x.e.out.length sx.l.co, .int .i64 x.e.base, .bool x.e.closed, .bool x.e.done, .slice sx.l.Ai x.e.inn.length sx.l.ci, .int .i64 x.e.next, .bool x.e.ended, .bool x.e.due, .slice sy.l.Ao y.e.out.length sy.l.co, .int .i64 y.e.base, .bool y.e.closed, .bool y.e.done, .slice sy.l.Ai y.e.inn.length sy.l.ci, .int .i64 y.e.next, .bool y.e.ended, .bool y.e.due, .slice sx.P x.sent.length sx.c, .slice sy.P y.sent.length sy.c, .string ⟨x.wr.toArray⟩, .string ⟨y.wr.toArray⟩, .string ⟨x.rd.toArray⟩, .string ⟨y.rd.toArray⟩, .bool x.over, .bool y.over, .bool wrong][i]? := fun i => (HBX.out.onlyNil HO3'.out).cell i
  have fb : ∀ i, wc.frozen? ⟨g, i, none⟩ = false := fun i => (HBX.out.onlyNil HO3'.out).frozen i
  clear ka ke hbf hlf hO5 hgf hmi hmd hmp hm0
  obtain ⟨u3, rfl⟩ : ∃ u3, u3 = wc := ⟨_, rfl⟩
  go_upto_region 29 with fail
  go_cut [] (fun wd => wd = u3.setCell ⟨g, 24, none⟩ (.bool wrong))
  case first =>
    cases wrong
    · go_wp2_with fail
      go_meet
      case rel => rfl
    · go_wp2_with fail
      go_meet
      case rel => rfl
  case rest =>
  have hOw : Only (One g) u3 wc := by rw [hcut]; (repeat' (first | with_reducible exact Only.refl _ _ | with_reducible refine Only.setCell ?_ (Or.inl ?_) _ | with_reducible refine Only.drewN ?_ _ | with_reducible refine Only.drew ?_ | with_reducible refine Only.alloc ?_ _ | (exact rfl)))
  have hbw : Blk wc g 68 (larr 0 x sx y sy wrong) := by
    have h := HC3.out.box.set_ 24 (.bool wrong)
    rw [hcut]
    unfold larr at h ⊢
    rw [if_pos rfl] at h ⊢
    simp only [List.setIfInBounds_toArray, List.set_cons_succ, List.set_cons_zero] at h
    exact h
  have hC4 : LK wc B0 g 0 x sx y sy wrong := HC3.out.turn hOw hbw rfl rfl rfl rfl HC3.out.fx.eb
  have HBW : Hid (Blk wc g 68 #[Value.slice sx.l.Ao x.e.out.length sx.l.co, .int .i64 x.e.base, .bool x.e.closed, .bool x.e.done, .slice sx.l.Ai x.e.inn.length sx.l.ci, .int .i64 x.e.next, .bool x.e.ended, .bool x.e.due, .slice sy.l.Ao y.e.out.length sy.l.co, .int .i64 y.e.base, .bool y.e.closed, .bool y.e.done, .slice sy.l.Ai y.e.inn.length sy.l.ci, .int .i64 y.e.next, .bool y.e.ended, .bool y.e.due, .slice sx.P x.sent.length sx.c, .slice sy.P y.sent.length sy.c, .string ⟨x.wr.toArray⟩, .string ⟨y.wr.toArray⟩, .string ⟨x.rd.toArray⟩, .string ⟨y.rd.toArray⟩, .bool x.over, .bool y.over, .bool wrong]) := Lib.hid (by
    unfold larr at hbw
    rw [if_pos rfl] at hbw
    exact hbw)
  have HC4 := Lib.hid hC4
  have HLF : Hid (EB wc wc.heap.size lf a) := Lib.hid ((HLF'.out.box HC3.out.box (larr_no _ _ _ _ _ _) hOw (Nat.le_refl _)).up hOw.size)
  have HBF : Hid (Blk wc gf 29 (earr lf a)) := Lib.hid (HBF'.out.only hOw HGF.out)
  have HO3 := Lib.hid (HO3'.out.any.trans (S := fun b => B0 ≤ b) hOw (fun x hx => .inl (by have := HC.out.new; unfold One at hx; omega)))
  clear hcut hOw hbw hC4 kb fb
  go_upto_region 30 with fail
  have HIN : Hid (∀ (L : Nat → Bool) (vs : Nat → Value) (u u' : World), Only Nil u u' → (fun _ _ u => Only Nil wc u) L vs u → (fun _ _ u => Only Nil wc u) L vs u') := Lib.hid (fun L vs u u' hO hI => by
    exact hI.thenNil hO)
  refine wp_region_inv (X := [(0, some 214, []), (1, some 215, []), (2, some 216, []), (3, some 217, [0]), (4, some 218, [3]), (5, some 219, [1, 4])]) (n := 6) (g := 1) (T := Nil) (Ps := [Cst (.pointer (some ⟨g, 0, none⟩)), Cst (.int .i64 0), Cst (.agg #[Value.slice lf.Ao a.out.length lf.co, .int .i64 a.base, .bool a.closed, .bool a.done, .slice lf.Ai a.inn.length lf.ci, .int .i64 a.next, .bool a.ended, .bool a.due]), Cst (.pointer (some ⟨g, 0, none⟩)), Cst (.pointer (some ⟨g, 0, none⟩)), Cst (.pointer (some ⟨g, 0, none⟩))])
    (I := fun _ _ u => Only Nil wc u)
    (by kernel_rfl) (by kernel_rfl) (by kernel_rfl) (by kernel_rfl) rfl ?st_16 ?i0_16 ?step_16 ?fin_16
  case st_16 =>
    have hT : ∀ x, (Nil) x → x < 0 := fun x h => h.elim
    intro p hp
    simp only [List.mem_cons, List.not_mem_nil, or_false] at hp
    rcases hp with rfl | rfl | rfl | rfl | rfl | rfl <;> first | exact Stays.cst _ | exact Stays.own hT | exact Stays.emp hT | exact Stays.any
  case i0_16 =>
    intro vs
    exact (Only.refl _ _).drew
  case step_16 =>
    intro x hx L vs u hI hA h0 hd
    simp only [List.mem_cons, List.not_mem_nil, or_false] at hx
    rcases hx with rfl | rfl | rfl | rfl | rfl | rfl
    · refine inv_step _ (by rfl) (by rfl) (fun K' hK => ?_)
      simp only [putAll, Act.put, List.setIfInBounds_toArray, List.set_cons_succ, List.set_cons_zero] at hK ⊢
      go_simp
      exact hK _ _ ⟨Only.refl _ _, hI, rfl⟩
    · refine inv_step _ (by rfl) (by rfl) (fun K' hK => ?_)
      simp only [putAll, Act.put, List.setIfInBounds_toArray, List.set_cons_succ, List.set_cons_zero] at hK ⊢
      go_simp
      exact hK _ _ ⟨Only.refl _ _, hI, rfl⟩
    · refine inv_step _ (by rfl) (by rfl) (fun K' hK => ?_)
      simp only [putAll, Act.put, List.setIfInBounds_toArray, List.set_cons_succ, List.set_cons_zero] at hK ⊢
      have kf : ∀ i, u.cell? ⟨gf, i, none⟩ = #[Value.slice lf.Ao a.out.length lf.co, .int .i64 a.base, .bool a.closed, .bool a.done, .slice lf.Ai a.inn.length lf.ci, .int .i64 a.next, .bool a.ended, .bool a.due][i]? := fun i => (HBF.out.onlyNil hI).cell i
      go_simp
      exact hK _ _ ⟨Only.refl _ _, hI, rfl⟩
    · refine inv_step _ (by rfl) (by rfl) (fun K' hK => ?_)
      simp only [putAll, Act.put, List.setIfInBounds_toArray, List.set_cons_succ, List.set_cons_zero] at hK ⊢
      have e0 := hA 0 (hd 0 (by simp))
      change vs 0 = (.pointer (some ⟨g, 0, none⟩)) at e0
      simp only [e0] at hK
      go_simp
      exact hK _ _ ⟨Only.refl _ _, hI, rfl⟩
    · refine inv_step _ (by rfl) (by rfl) (fun K' hK => ?_)
      simp only [putAll, Act.put, List.setIfInBounds_toArray, List.set_cons_succ, List.set_cons_zero] at hK ⊢
      have e3 := hA 3 (hd 3 (by simp))
      change vs 3 = (.pointer (some ⟨g, 0, none⟩)) at e3
      simp only [e3] at hK
      go_simp
      exact hK _ _ ⟨Only.refl _ _, hI, rfl⟩
    · refine inv_step _ (by rfl) (by rfl) (fun K' hK => ?_)
      simp only [putAll, Act.put, List.setIfInBounds_toArray, List.set_cons_succ, List.set_cons_zero] at hK ⊢
      have e1 := hA 1 (hd 1 (by simp))
      change vs 1 = (.int .i64 0) at e1
      have e4 := hA 4 (hd 4 (by simp))
      change vs 4 = (.pointer (some ⟨g, 0, none⟩)) at e4
      simp only [e1, e4] at hK
      go_simp
      exact hK _ _ ⟨Only.refl _ _, hI, rfl⟩
  case fin_16 =>
    intro L vs u hI hL hA
    simp only [putAll, Act.put, List.setIfInBounds_toArray, List.set_cons_succ, List.set_cons_zero, List.drop_succ_cons, List.drop_zero]
    have e2 := hA 2 (by omega)
    change vs 2 = .agg #[Value.slice lf.Ao a.out.length lf.co, .int .i64 a.base, .bool a.closed, .bool a.done, .slice lf.Ai a.inn.length lf.ci, .int .i64 a.next, .bool a.ended, .bool a.due] at e2
    have e5 := hA 5 (by omega)
    change vs 5 = .pointer (some ⟨g, 0, none⟩) at e5
    simp only [e2, e5]
    have kb : ∀ i, u.cell? ⟨g, i, none⟩ = #[Value.slice sx.l.Ao x.e.out.length sx.l.co, .int .i64 x.e.base, .bool x.e.closed, .bool x.e.done, .slice sx.l.Ai x.e.inn.length sx.l.ci, .int .i64 x.e.next, .bool x.e.ended, .bool x.e.due, .slice sy.l.Ao y.e.out.length sy.l.co, .int .i64 y.e.base, .bool y.e.closed, .bool y.e.done, .slice sy.l.Ai y.e.inn.length sy.l.ci, .int .i64 y.e.next, .bool y.e.ended, .bool y.e.due, .slice sx.P x.sent.length sx.c, .slice sy.P y.sent.length sy.c, .string ⟨x.wr.toArray⟩, .string ⟨y.wr.toArray⟩, .string ⟨x.rd.toArray⟩, .string ⟨y.rd.toArray⟩, .bool x.over, .bool y.over, .bool wrong][i]? := fun i => (HBW.out.onlyNil hI).cell i
    have fb : ∀ i, u.frozen? ⟨g, i, none⟩ = false := fun i => (HBW.out.onlyNil hI).frozen i
    have hL4 : LK (putE 0 u g lf a) B0 g 0 { x with e := a } { sx with l := lf } y sy wrong := (HC4.out.onlyNil hI).end_ (HLF.out.next hI)
    have hO4 : Only (One g) wc (putE 0 u g lf a) := hI.any.then_ (putE_only _ _ _ _ _)
    have HL4 := Lib.hid hL4
    have HO4 := Lib.hid hO4
    clear hL4 hO4 hA hL hI e2 e5
    go_wp2_with fail
    refine bodyPost_end (v := .tuple #[]) (by simp [results, Try.results30, go_sem]) rfl ?_
    have hfin : ∀ u', u' = putE 0 u g lf a → DoPost 4 n d 0 B0 g x y sy wrong w (.returned (.tuple #[])) u' := fun u' hu => by
      rw [hu]
      exact ⟨⟨_, rfl⟩, ⟨_, by rw [HST.out]; exact HL4.out⟩, HO3.out.trans HO4.out (fun x hx => .inl (by have := HC.out.new; unfold One at hx; omega))⟩
    exact hfin _ rfl


set_option maxRecDepth 100000 in
set_option maxHeartbeats 8000000 in
theorem do_receive1 (kd sd nn : Int) (D : Option Addr) (cd : Nat) (d : List UInt8) (n : Nat) (B0 g : Nat) (x y : Sd) (sx sy : SC) (wrong : Bool) (w : World) (hk : kd % 6 = 4) (hs : sd % 2 = 1) (hkd : 0 ≤ kd ∧ kd ≤ 255) (hsd : 0 ≤ sd ∧ sd ≤ 255) (hn : nn = n) (hn8 : n ≤ 255)
    (h : LK w B0 g 1 x sx y sy wrong) (hB : B0 ≤ w.heap.size) (hd : Bs w w.heap.size D d) (hdl : d.length ≤ 200) (hok : ∀ p, y.sent[n % y.sent.length]? = some p → (recvE x.e p).2 = 0) (hsl : y.sent.length ≤ 1000000) :
    Calls Try.prog 30 #[.pointer (some ⟨g, 0, none⟩), .agg #[.int .u8 kd, .int .u8 sd, .int .u8 nn, .slice D d.length cd]] w (DoPost 4 n d 1 B0 g x y sy wrong w) := by
  have H := Lib.hid h
  have HD := Lib.hid hd
  have HBB := Lib.hid hB
  have HDL := Lib.hid hdl
  have HGL := Lib.hid h.box.lt
  have hE := h.fx.eb
  have hbx := h.box
  unfold larr at hbx
  rw [if_neg (by decide)] at hbx
  have HBX := Lib.hid hbx
  obtain ⟨w1, hw1⟩ : ∃ w1, w1 = w.alloc (.cells #[.int .u8 kd, .int .u8 sd, .int .u8 nn, .slice D d.length cd] 70) := ⟨_, rfl⟩
  have hO1 : Only Nil w w1 := by rw [hw1]; exact (Only.refl _ _).alloc _
  have HA := Lib.hid (show Blk w1 w.heap.size 70 #[.int .u8 kd, .int .u8 sd, .int .u8 nn, .slice D d.length cd] by rw [hw1]; exact Blk.new _ _ _)
  have HO1 := Lib.hid hO1
  have HN := Lib.hid hn
  have HN8 := Lib.hid hn8
  have ht1 : kd.tmod 6 = 4 := by rw [Int.tmod_eq_emod_of_nonneg hkd.1, hk]
  have ht2 : sd.tmod 2 = 1 := by rw [Int.tmod_eq_emod_of_nonneg hsd.1, hs]
  clear h hd hB hdl hbx hO1 hn hn8 hkd hsd
  have HOK := Lib.hid hok
  have HSL := Lib.hid hsl
  clear hok hsl
  go_enter Try.func30, Try.ntmps30
  go_upto_region 1 with fail
  rw [← hw1]
  clear hw1
  have ka : ∀ i, w1.cell? ⟨w.heap.size, i, none⟩ = #[Value.int .u8 kd, .int .u8 sd, .int .u8 nn, .slice D d.length cd][i]? := fun i => HA.out.cell i
  have kb : ∀ i, w1.cell? ⟨g, i, none⟩ = #[Value.slice sy.l.Ao y.e.out.length sy.l.co, .int .i64 y.e.base, .bool y.e.closed, .bool y.e.done, .slice sy.l.Ai y.e.inn.length sy.l.ci, .int .i64 y.e.next, .bool y.e.ended, .bool y.e.due, .slice sx.l.Ao x.e.out.length sx.l.co, .int .i64 x.e.base, .bool x.e.closed, .bool x.e.done, .slice sx.l.Ai x.e.inn.length sx.l.ci, .int .i64 x.e.next, .bool x.e.ended, .bool x.e.due, .slice sy.P y.sent.length sy.c, .slice sx.P x.sent.length sx.c, .string ⟨y.wr.toArray⟩, .string ⟨x.wr.toArray⟩, .string ⟨y.rd.toArray⟩, .string ⟨x.rd.toArray⟩, .bool y.over, .bool x.over, .bool wrong][i]? := fun i => (HBX.out.onlyNil HO1.out).cell i
  go_upto_region 2 with fail
  go_cut [5] (fun pe wd => ∃ ge, pe = .pointer (some ⟨ge, 0, none⟩) ∧ Blk wd ge 29 (earr sx.l x.e) ∧ w.heap.size ≤ ge ∧ Only Nil w1 wd)
  case first =>
    go_wp2_with fail
    go_meet
    case rel => exact ⟨w1.heap.size, rfl, Blk.new _ _ _, HO1.out.size, (Only.refl _ _).alloc _⟩
  case rest =>
  obtain ⟨ge, rfl, hY, hge, hOc⟩ := hcut
  have HY := Lib.hid hY
  have HC := Lib.hid (H.out.onlyNil (HO1.out.thenNil hOc))
  have HA2 := Lib.hid (HA.out.onlyNil hOc)
  have HO2 := Lib.hid (HO1.out.thenNil hOc)
  have HGE := Lib.hid (show ge ≠ g by have := HGL.out; omega)
  clear ka kb hOc hge
  have ka : ∀ i, wc.cell? ⟨w.heap.size, i, none⟩ = #[Value.int .u8 kd, .int .u8 sd, .int .u8 nn, .slice D d.length cd][i]? := fun i => HA2.out.cell i
  have ke : ∀ i, wc.cell? ⟨ge, i, none⟩ = #[Value.slice sx.l.Ao x.e.out.length sx.l.co, .int .i64 x.e.base, .bool x.e.closed, .bool x.e.done, .slice sx.l.Ai x.e.inn.length sx.l.ci, .int .i64 x.e.next, .bool x.e.ended, .bool x.e.due][i]? := fun i => hY.cell i
  clear hY
  obtain ⟨m, hm⟩ : ∃ m, y.sent.length = m := ⟨_, rfl⟩
  have HM := Lib.hid hm
  have kb : ∀ i, wc.cell? ⟨g, i, none⟩ = #[Value.slice sy.l.Ao y.e.out.length sy.l.co, .int .i64 y.e.base, .bool y.e.closed, .bool y.e.done, .slice sy.l.Ai y.e.inn.length sy.l.ci, .int .i64 y.e.next, .bool y.e.ended, .bool y.e.due, .slice sx.l.Ao x.e.out.length sx.l.co, .int .i64 x.e.base, .bool x.e.closed, .bool x.e.done, .slice sx.l.Ai x.e.inn.length sx.l.ci, .int .i64 x.e.next, .bool x.e.ended, .bool x.e.due, .slice sy.P m sy.c, .slice sx.P x.sent.length sx.c, .string ⟨y.wr.toArray⟩, .string ⟨x.wr.toArray⟩, .string ⟨y.rd.toArray⟩, .string ⟨x.rd.toArray⟩, .bool y.over, .bool x.over, .bool wrong][i]? := fun i => by rw [← hm]; exact (HBX.out.onlyNil HO2.out).cell i
  clear hm
  obtain ⟨u2, rfl⟩ : ∃ u2, u2 = wc := ⟨_, rfl⟩
  go_upto_region 26 with fail
  go_cut [16] (fun v wd => v = .int .i64 (m : Int) ∧ wd = u2)
  case first =>
    go_wp2_with fail
    go_meet
    case rel => exact ⟨rfl, rfl⟩
  case rest =>
  obtain ⟨rfl, rfl⟩ := hcut
  by_cases hm0 : m = 0
  · have HST : Hid ((stepS 4 n d (1 : Nat) x y).1 = x) := Lib.hid (by
      have hl : y.sent = [] := List.eq_nil_of_length_eq_zero (by rw [HM.out]; exact hm0)
      unfold stepS
      rw [if_neg (by decide), if_neg (by decide), if_neg (by decide), if_neg (by decide), if_pos rfl, hl]
      rfl)
    subst hm0
    go_wp2_with fail
    refine bodyPost_end (v := .tuple #[]) (by simp [results, Try.results30, go_sem]) rfl ?_
    exact ⟨⟨_, rfl⟩, ⟨sx, by rw [HST.out]; exact HC.out⟩, HO2.out.any⟩
  have hmp : 0 < m := Nat.pos_of_ne_zero hm0
  obtain ⟨k, hk⟩ : ∃ k, n % m = k := ⟨_, rfl⟩
  have hkm : k < m := by rw [← hk]; exact Nat.mod_lt _ hmp
  have hrl : sy.rows.length = m := by
    have h := congrArg List.length HC.out.fy.map
    rw [List.length_map, HM.out] at h
    exact h
  obtain ⟨r, hr⟩ : ∃ r, sy.rows[k]? = some r := ⟨_, List.getElem?_eq_getElem (by rw [hrl]; exact hkm)⟩
  obtain ⟨b, off, hPa, hbl, hcr⟩ := Rd.row PR.cells_len (Rd.of_own HC.out.fy.row) hr (by omega)
  have hPB := HC.out.fy.pb r (List.mem_of_getElem? hr)
  have hp : y.sent[n % y.sent.length]? = some r.p := by
    rw [HM.out, hk, ← HC.out.fy.map, List.getElem?_map, hr]
    rfl
  have hcn := HOK.out _ hp
  obtain ⟨Ar, cr, p⟩ := r
  dsimp only at hp hPB hcn
  obtain ⟨a, cn, hce⟩ : ∃ a cn, recvE x.e p = (a, cn) := ⟨_, _, rfl⟩
  have HST : Hid ((stepS 4 n d (1 : Nat) x y).1 = { x with e := a }) := Lib.hid (by
    unfold stepS
    rw [if_neg (by decide), if_neg (by decide), if_neg (by decide), if_neg (by decide), if_pos rfl, hp]
    show ({ x with e := (recvE x.e p).1 } : Sd) = _
    rw [hce])
  rw [hce] at hcn
  change cn = 0 at hcn
  subst hcn
  have HCL : Hid (∀ w', EB w' w'.heap.size sx.l x.e → PB w' w'.heap.size Ar cr p → Calls Try.prog 12 #[.agg (ecells sx.l x.e).toArray, .agg (pcells Ar cr p).toArray] w' (EPost (a, 0) w')) := Lib.hid (fun w' hE hP => by
    have h := receive_any sx.l x.e Ar cr p w' hE hP
    rw [hce] at h
    exact h)
  have HKR : Hid (∀ u, Only Nil wc u → u.cell? ⟨b, off + k * 6, none⟩ = some (.int .i64 p.pair) ∧ u.cell? ⟨b, off + k * 6 + 1, none⟩ = some (.int .i64 p.side) ∧ u.cell? ⟨b, off + k * 6 + 2, none⟩ = some (.int .i64 p.seq) ∧ u.cell? ⟨b, off + k * 6 + 3, none⟩ = some (.int .i64 p.ack) ∧ u.cell? ⟨b, off + k * 6 + 4, none⟩ = some (.bool p.fin) ∧ u.cell? ⟨b, off + k * 6 + 5, none⟩ = some (.slice Ar p.data.length cr)) := Lib.hid (fun u hO => by
    have hc : ∀ j v, (pcells Ar cr p)[j]? = some v → u.cell? ⟨b, off + k * 6 + j, none⟩ = some v := fun j v hj => by
      rw [Nat.add_assoc]
      exact (hO.cell (p := ⟨b, off + (k * 6 + j), none⟩) hbl (fun hx => hx)).trans (hcr j v hj)
    exact ⟨hc 0 _ rfl, hc 1 _ rfl, hc 2 _ rfl, hc 3 _ rfl, hc 4 _ rfl, hc 5 _ rfl⟩)
  have HTM : Hid (Int.tmod nn (m : Int) = (k : Int)) := Lib.hid (by
    have h := HN.out
    rw [h, Int.tmod_eq_emod_of_nonneg (by omega), ← Int.natCast_emod, hk])
  have HKM : Hid (k < m) := Lib.hid hkm
  have HMM : Hid (m ≤ 1000000) := Lib.hid (by have h := HSL.out; have h2 := HM.out; omega)
  have HPB := Lib.hid hPB
  have HBXB : Hid (Blk wc g 68 #[Value.slice sy.l.Ao y.e.out.length sy.l.co, .int .i64 y.e.base, .bool y.e.closed, .bool y.e.done, .slice sy.l.Ai y.e.inn.length sy.l.ci, .int .i64 y.e.next, .bool y.e.ended, .bool y.e.due, .slice sx.l.Ao x.e.out.length sx.l.co, .int .i64 x.e.base, .bool x.e.closed, .bool x.e.done, .slice sx.l.Ai x.e.inn.length sx.l.ci, .int .i64 x.e.next, .bool x.e.ended, .bool x.e.due, .slice (some ⟨b, off, none⟩) m sy.c, .slice sx.P x.sent.length sx.c, .string ⟨y.wr.toArray⟩, .string ⟨x.wr.toArray⟩, .string ⟨y.rd.toArray⟩, .string ⟨x.rd.toArray⟩, .bool y.over, .bool x.over, .bool wrong]) := Lib.hid (by
    have h := HBX.out.onlyNil HO2.out
    rw [HM.out, hPa] at h
    exact h)
  have HEY : Hid (Blk wc ge 29 #[Value.slice sx.l.Ao x.e.out.length sx.l.co, .int .i64 x.e.base, .bool x.e.closed, .bool x.e.done, .slice sx.l.Ai x.e.inn.length sx.l.ci, .int .i64 x.e.next, .bool x.e.ended, .bool x.e.due]) := Lib.hid HY.out
  clear hk hkm hrl hr hPa hbl hcr hPB hp hce kb
  have hmi : (0 : Int) < (m : Int) := by omega
  have hmd : decide (0 < m) = true := decide_eq_true hmp
  go_upto_region 28 with fail
  go_cut [17, 18] (fun pe v wd => ∃ gf, pe = .pointer (some ⟨gf, 0, none⟩) ∧ v = .int .i64 0 ∧ EBox 29 wd gf a ∧ w.heap.size ≤ gf ∧ Only Nil wc wd)
  case first =>
    clear ka ke hmi hmd hmp hm0
    have HIN : Hid (∀ (L : Nat → Bool) (vs : Nat → Value) (u u' : World), Only Nil u u' → (fun L vs u => RI a 0 wc (L 15) (L 16) (L 17) (L 19) (L 20) (vs 15) (vs 16) (vs 17) (vs 19) u) L vs u → (fun L vs u => RI a 0 wc (L 15) (L 16) (L 17) (L 19) (L 20) (vs 15) (vs 16) (vs 17) (vs 19) u) L vs u') := Lib.hid (fun L vs u u' hO hI => by
      exact hI.keep hO)
    refine wp_region_any (by kernel_rfl) ?_
    change wpAny _ _ _ _ _ _ _ (World.drew _)
    refine take_first (i := 1) (v := ?v1_17) (some 186) rfl (by rfl) (by kernel_rfl) (by kernel_rfl) (by kernel_rfl) (fun _ _ _ h => h) (Or.inl ⟨by rfl, ?hy1_17⟩) ?rest1_17
    case hy1_17 => (intro w; go_simp <;> with_reducible rfl)
    refine take_first (i := 2) (v := ?v2_17) (some 187) rfl (by rfl) (by kernel_rfl) (by kernel_rfl) (by kernel_rfl) (fun _ _ _ h => h) (Or.inl ⟨by rfl, ?hy2_17⟩) ?rest2_17
    case hy2_17 => (intro w; go_simp <;> with_reducible rfl)
    refine take_first (i := 4) (v := ?v4_17) (some 189) rfl (by rfl) (by kernel_rfl) (by kernel_rfl) (by kernel_rfl) (fun _ _ _ h => h) (Or.inl ⟨by rfl, ?hy4_17⟩) ?rest4_17
    case hy4_17 => (intro w; go_simp <;> with_reducible rfl)
    refine take_first (i := 5) (v := ?v5_17) (some 190) rfl (by rfl) (by kernel_rfl) (by kernel_rfl) (by kernel_rfl) (fun _ _ _ h => h) (Or.inl ⟨by rfl, ?hy5_17⟩) ?rest5_17
    case hy5_17 => (intro w; go_simp <;> with_reducible rfl)
    refine take_first (i := 8) (v := ?v8_17) (some 193) rfl (by rfl) (by kernel_rfl) (by kernel_rfl) (by kernel_rfl) (fun _ _ _ h => h) (Or.inl ⟨by rfl, ?hy8_17⟩) ?rest8_17
    case hy8_17 => (intro w; go_simp <;> with_reducible rfl)
    refine take_first (i := 11) (v := ?v11_17) (some 196) rfl (by rfl) (by kernel_rfl) (by kernel_rfl) (by kernel_rfl) (fun _ _ _ h => h) (Or.inl ⟨by rfl, ?hy11_17⟩) ?rest11_17
    case hy11_17 => (intro w; go_simp <;> with_reducible rfl)
    refine wpAny_inv2 (X := [(0, some 185, []), (3, some 188, []), (6, some 191, [3]), (7, some 192, [6]), (9, some 194, []), (10, some 195, [9]), (12, some 197, [10]), (13, some 198, [7, 12]), (14, some 199, [13]), (15, some 200, [0, 14]), (16, some 184, [15]), (17, some 201, [16]), (18, some 202, [16]), (19, some 17, []), (20, none, [17, 19])]) (n := 15) (g := 1) (m := 21) (l0 := [false, true, true, false, true, true, false, false, true, false, false, true, false, false, false, false, false, false, false, false, false, false]) (T := fun x => wc.heap.size ≤ x) (Ps := [Cst (.agg #[Value.slice sx.l.Ao x.e.out.length sx.l.co, .int .i64 x.e.base, .bool x.e.closed, .bool x.e.done, .slice sx.l.Ai x.e.inn.length sx.l.ci, .int .i64 x.e.next, .bool x.e.ended, .bool x.e.due]), Any, Any, Cst (.int .i64 0), Any, Any, Cst (.pointer (some ⟨g, 16, none⟩)), Cst (.slice (some ⟨b, off, none⟩) m sy.c), Any, Cst (.int .u8 nn), Cst (.int .i64 nn), Any, Cst (.int .i64 (k : Int)), Cst (.pointer (some ⟨b, off + k * 6, none⟩)), Cst (.agg #[Value.int .i64 p.pair, .int .i64 p.side, .int .i64 p.seq, .int .i64 p.ack, .bool p.fin, .slice Ar p.data.length cr]), Any, Any, Any, Cst (.int .i64 0), Any, Any])
      (I := fun L vs u => RI a 0 wc (L 15) (L 16) (L 17) (L 19) (L 20) (vs 15) (vs 16) (vs 17) (vs 19) u)
      (by kernel_rfl) rfl (by kernel_rfl) (by kernel_rfl) (by kernel_rfl) rfl ?h0_17 ?st_17 ?i0_17 ?step_17 ?fin_17
    case h0_17 =>
      intro j hj v u
      match j, hj with
      | 0, hj => exact absurd hj (by decide)
      | 1, hj => trivial
      | 2, hj => trivial
      | 3, hj => exact absurd hj (by decide)
      | 4, hj => trivial
      | 5, hj => trivial
      | 6, hj => exact absurd hj (by decide)
      | 7, hj => exact absurd hj (by decide)
      | 8, hj => trivial
      | 9, hj => exact absurd hj (by decide)
      | 10, hj => exact absurd hj (by decide)
      | 11, hj => trivial
      | 12, hj => exact absurd hj (by decide)
      | 13, hj => exact absurd hj (by decide)
      | 14, hj => exact absurd hj (by decide)
      | 15, hj => exact absurd hj (by decide)
      | 16, hj => exact absurd hj (by decide)
      | 17, hj => exact absurd hj (by decide)
      | 18, hj => exact absurd hj (by decide)
      | 19, hj => exact absurd hj (by decide)
      | 20, hj => exact absurd hj (by decide)
      | 21, hj => exact absurd hj (by decide)
      | n + 22, hj => exact absurd hj (by simp)
    case st_17 =>
      intro p hp
      simp only [List.mem_cons, List.not_mem_nil, or_false] at hp
      rcases hp with rfl | rfl | rfl | rfl | rfl | rfl | rfl | rfl | rfl | rfl | rfl | rfl | rfl | rfl | rfl | rfl | rfl | rfl | rfl | rfl | rfl <;> first | exact Stays.cst _ | exact Stays.any
    case i0_17 =>
      intro vs
      exact RI.begin (Only.refl _ _).drew
    case step_17 =>
      intro x hx L vs u hI hA h0 hd
      simp only [List.mem_cons, List.not_mem_nil, or_false] at hx
      rcases hx with rfl | rfl | rfl | rfl | rfl | rfl | rfl | rfl | rfl | rfl | rfl | rfl | rfl | rfl | rfl
      · refine inv_step _ (by rfl) (by rfl) (fun K' hK => ?_)
        simp only [putAll, Act.put, List.setIfInBounds_toArray, List.set_cons_succ, List.set_cons_zero] at hK ⊢
        have ke : ∀ i, u.cell? ⟨ge, i, none⟩ = #[Value.slice sx.l.Ao x.e.out.length sx.l.co, .int .i64 x.e.base, .bool x.e.closed, .bool x.e.done, .slice sx.l.Ai x.e.inn.length sx.l.ci, .int .i64 x.e.next, .bool x.e.ended, .bool x.e.due][i]? := fun i => (HEY.out.onlyNil (show Only Nil wc u from (show RI a 0 wc (L 15) (L 16) (L 17) (L 19) (L 20) (vs 15) (vs 16) (vs 17) (vs 19) u from hI).only)).cell i
        go_simp
        exact hK _ _ ⟨Only.refl _ _, hI, rfl⟩
      · refine inv_step _ (by rfl) (by rfl) (fun K' hK => ?_)
        simp only [putAll, Act.put, List.setIfInBounds_toArray, List.set_cons_succ, List.set_cons_zero] at hK ⊢
        go_simp
        exact hK _ _ ⟨Only.refl _ _, hI, rfl⟩
      · refine inv_step _ (by rfl) (by rfl) (fun K' hK => ?_)
        simp only [putAll, Act.put, List.setIfInBounds_toArray, List.set_cons_succ, List.set_cons_zero] at hK ⊢
        have e3 := hA 3 (hd 3 (by simp))
        change vs 3 = (.int .i64 0) at e3
        simp only [e3] at hK
        go_simp
        exact hK _ _ ⟨Only.refl _ _, hI, rfl⟩
      · refine inv_step _ (by rfl) (by rfl) (fun K' hK => ?_)
        simp only [putAll, Act.put, List.setIfInBounds_toArray, List.set_cons_succ, List.set_cons_zero] at hK ⊢
        have e6 := hA 6 (hd 6 (by simp))
        change vs 6 = (.pointer (some ⟨g, 16, none⟩)) at e6
        simp only [e6] at hK
        have kb : ∀ i, u.cell? ⟨g, i, none⟩ = #[Value.slice sy.l.Ao y.e.out.length sy.l.co, .int .i64 y.e.base, .bool y.e.closed, .bool y.e.done, .slice sy.l.Ai y.e.inn.length sy.l.ci, .int .i64 y.e.next, .bool y.e.ended, .bool y.e.due, .slice sx.l.Ao x.e.out.length sx.l.co, .int .i64 x.e.base, .bool x.e.closed, .bool x.e.done, .slice sx.l.Ai x.e.inn.length sx.l.ci, .int .i64 x.e.next, .bool x.e.ended, .bool x.e.due, .slice (some ⟨b, off, none⟩) m sy.c, .slice sx.P x.sent.length sx.c, .string ⟨y.wr.toArray⟩, .string ⟨x.wr.toArray⟩, .string ⟨y.rd.toArray⟩, .string ⟨x.rd.toArray⟩, .bool y.over, .bool x.over, .bool wrong][i]? := fun i => (HBXB.out.onlyNil (show Only Nil wc u from (show RI a 0 wc (L 15) (L 16) (L 17) (L 19) (L 20) (vs 15) (vs 16) (vs 17) (vs 19) u from hI).only)).cell i
        go_simp
        exact hK _ _ ⟨Only.refl _ _, hI, rfl⟩
      · refine inv_step _ (by rfl) (by rfl) (fun K' hK => ?_)
        simp only [putAll, Act.put, List.setIfInBounds_toArray, List.set_cons_succ, List.set_cons_zero] at hK ⊢
        have ka : ∀ i, u.cell? ⟨w.heap.size, i, none⟩ = #[Value.int .u8 kd, .int .u8 sd, .int .u8 nn, .slice D d.length cd][i]? := fun i => (HA2.out.onlyNil (show Only Nil wc u from (show RI a 0 wc (L 15) (L 16) (L 17) (L 19) (L 20) (vs 15) (vs 16) (vs 17) (vs 19) u from hI).only)).cell i
        go_simp
        exact hK _ _ ⟨Only.refl _ _, hI, rfl⟩
      · refine inv_step _ (by rfl) (by rfl) (fun K' hK => ?_)
        simp only [putAll, Act.put, List.setIfInBounds_toArray, List.set_cons_succ, List.set_cons_zero] at hK ⊢
        have e9 := hA 9 (hd 9 (by simp))
        change vs 9 = (.int .u8 nn) at e9
        simp only [e9] at hK
        have hn0 : 0 ≤ nn := by have := HN.out; omega
        have hn1 : nn ≤ 255 := by have := HN.out; have := HN8.out; omega
        have hnw : IntKind.i64.wrap nn = nn := IntWalk.i64_in _ (by omega)
        go_simp
        exact hK _ _ ⟨Only.refl _ _, hI, rfl⟩
      · refine inv_step _ (by rfl) (by rfl) (fun K' hK => ?_)
        simp only [putAll, Act.put, List.setIfInBounds_toArray, List.set_cons_succ, List.set_cons_zero] at hK ⊢
        have e10 := hA 10 (hd 10 (by simp))
        change vs 10 = (.int .i64 nn) at e10
        simp only [e10] at hK
        have htm := HTM.out
        have hm0 : ¬ m = 0 := by have := HKM.out; omega
        have hkw : IntKind.i64.wrap (k : Int) = k := IntWalk.i64_in _ (by have := HKM.out; have := HMM.out; omega)
        go_simp
        exact hK _ _ ⟨Only.refl _ _, hI, rfl⟩
      · refine inv_step _ (by rfl) (by rfl) (fun K' hK => ?_)
        simp only [putAll, Act.put, List.setIfInBounds_toArray, List.set_cons_succ, List.set_cons_zero] at hK ⊢
        have e7 := hA 7 (hd 7 (by simp))
        change vs 7 = (.slice (some ⟨b, off, none⟩) m sy.c) at e7
        have e12 := hA 12 (hd 12 (by simp))
        change vs 12 = (.int .i64 (k : Int)) at e12
        simp only [e7, e12] at hK
        have hkm := HKM.out
        have hkd : decide (k < m) = true := decide_eq_true hkm
        go_simp
        exact hK _ _ ⟨Only.refl _ _, hI, rfl⟩
      · refine inv_step _ (by rfl) (by rfl) (fun K' hK => ?_)
        simp only [putAll, Act.put, List.setIfInBounds_toArray, List.set_cons_succ, List.set_cons_zero] at hK ⊢
        have e13 := hA 13 (hd 13 (by simp))
        change vs 13 = (.pointer (some ⟨b, off + k * 6, none⟩)) at e13
        simp only [e13] at hK
        obtain ⟨q0, q1, q2, q3, q4, q5⟩ := HKR.out u (show Only Nil wc u from (show RI a 0 wc (L 15) (L 16) (L 17) (L 19) (L 20) (vs 15) (vs 16) (vs 17) (vs 19) u from hI).only)
        go_simp
        exact hK _ _ ⟨Only.refl _ _, hI, rfl⟩
      · refine inv_step _ (by rfl) (by rfl) (fun K' hK => ?_)
        simp only [putAll, Act.put, List.setIfInBounds_toArray, List.set_cons_succ, List.set_cons_zero] at hK ⊢
        have e0 := hA 0 (hd 0 (by simp))
        change vs 0 = (.agg #[Value.slice sx.l.Ao x.e.out.length sx.l.co, .int .i64 x.e.base, .bool x.e.closed, .bool x.e.done, .slice sx.l.Ai x.e.inn.length sx.l.ci, .int .i64 x.e.next, .bool x.e.ended, .bool x.e.due]) at e0
        have e14 := hA 14 (hd 14 (by simp))
        change vs 14 = (.agg #[Value.int .i64 p.pair, .int .i64 p.side, .int .i64 p.seq, .int .i64 p.ack, .bool p.fin, .slice Ar p.data.length cr]) at e14
        simp only [e0, e14] at hK
        go_simp
        go_at_call 12
        refine (HCL.out _ (HC.out.fx.eb.next (show Only Nil wc u from (show RI a 0 wc (L 15) (L 16) (L 17) (L 19) (L 20) (vs 15) (vs 16) (vs 17) (vs 19) u from hI).only)) (HPB.out.next (show Only Nil wc u from (show RI a 0 wc (L 15) (L 16) (L 17) (L 19) (L 20) (vs 15) (vs 16) (vs 17) (vs 19) u from hI).only))).mono ?_
        rintro x5 u5 ⟨l5, rfl, hE5, hO5⟩
        go_simp
        have hI3 : RI a 0 wc (L 15) (L 16) (L 17) (L 19) (L 20) (vs 15) (vs 16) (vs 17) (vs 19) u := hI
        rw [show L 15 = false from h0] at hI3
        exact hK _ _ ⟨hO5.any, hI3.call hO5 hE5, trivial⟩
      · refine inv_step _ (by rfl) (by rfl) (fun K' hK => ?_)
        simp only [putAll, Act.put, List.setIfInBounds_toArray, List.set_cons_succ, List.set_cons_zero] at hK ⊢
        go_simp
        have hI3 : RI a 0 wc (L 15) (L 16) (L 17) (L 19) (L 20) (vs 15) (vs 16) (vs 17) (vs 19) u := hI
        rw [show L 15 = true from hd 15 (by simp), show L 16 = false from h0] at hI3
        refine hK _ _ ⟨Only.refl _ _, ?_, trivial⟩
        have hI4 := hI3.move
        have e4 := hd 15 (by simp)
        show RI a 0 wc (L 15) true (L 17) (L 19) (L 20) (vs 15) (vs 15) (vs 17) (vs 19) u
        rw [e4]
        exact hI4
      · refine inv_step _ (by rfl) (by rfl) (fun K' hK => ?_)
        simp only [putAll, Act.put, List.setIfInBounds_toArray, List.set_cons_succ, List.set_cons_zero] at hK ⊢
        have hI3 : RI a 0 wc (L 15) (L 16) (L 17) (L 19) (L 20) (vs 15) (vs 16) (vs 17) (vs 19) u := hI
        rw [show L 16 = true from hd 16 (by simp), show L 17 = false from h0] at hI3
        obtain ⟨l5, e5⟩ := hI3.tup
        simp only [e5] at hK
        go_simp
        refine hK _ _ ⟨Only.refl _ _, ?_, trivial⟩
        have h5 : L 16 = true := hd 16 (by simp)
        show RI a 0 wc (L 15) (L 16) true (L 19) (L 20) (vs 15) (vs 16) _ (vs 19) u
        rw [h5]
        exact hI3.ext e5
      · refine inv_step _ (by rfl) (by rfl) (fun K' hK => ?_)
        simp only [putAll, Act.put, List.setIfInBounds_toArray, List.set_cons_succ, List.set_cons_zero] at hK ⊢
        have hI3 : RI a 0 wc (L 15) (L 16) (L 17) (L 19) (L 20) (vs 15) (vs 16) (vs 17) (vs 19) u := hI
        rw [show L 16 = true from hd 16 (by simp)] at hI3
        obtain ⟨l5, e5⟩ := hI3.tup
        simp only [e5] at hK
        go_simp
        exact hK _ _ ⟨Only.refl _ _, hI, rfl⟩
      · refine inv_step _ (by rfl) (by rfl) (fun K' hK => ?_)
        simp only [putAll, Act.put, List.setIfInBounds_toArray, List.set_cons_succ, List.set_cons_zero] at hK ⊢
        go_simp
        have hI3 : RI a 0 wc (L 15) (L 16) (L 17) (L 19) (L 20) (vs 15) (vs 16) (vs 17) (vs 19) u := hI
        rw [show L 19 = false from h0] at hI3
        exact hK _ _ ⟨(Only.refl _ _).alloc _, hI3.box, trivial⟩
      · refine inv_step _ (by rfl) (by rfl) (fun K' hK => ?_)
        simp only [putAll, Act.put, List.setIfInBounds_toArray, List.set_cons_succ, List.set_cons_zero] at hK ⊢
        have hI3 : RI a 0 wc (L 15) (L 16) (L 17) (L 19) (L 20) (vs 15) (vs 16) (vs 17) (vs 19) u := hI
        rw [show L 17 = true from hd 17 (by simp), show L 19 = true from hd 19 (by simp), show L 20 = false from h0] at hI3
        obtain ⟨l5, g5, e6, e8, hg, hz, hE5⟩ := hI3.pre
        simp only [e6, e8] at hK
        have kz : ∀ i, u.cell? ⟨g5, i, none⟩ = #[Value.slice none 0 0, .int .i64 0, .bool false, .bool false, .slice none 0 0, .int .i64 0, .bool false, .bool false][i]? := fun i => hz.cell i
        have fz : ∀ i, u.frozen? ⟨g5, i, none⟩ = false := fun i => hz.frozen i
        go_simp
        refine hK undef (put8 u g5 l5 a) ⟨(put8_only _ _ _ _).more (fun x hx => by unfold One at hx; omega), ?_, trivial⟩
        have h6 : L 17 = true := hd 17 (by simp)
        have h8 : L 19 = true := hd 19 (by simp)
        show RI a 0 wc (L 15) (L 16) (L 17) (L 19) true (vs 15) (vs 16) (vs 17) (vs 19) _
        rw [h6, h8]
        exact hI3.store e8 hz hg hE5
    case fin_17 =>
      intro L vs u hI hL hA
      simp only [putAll, Act.put, List.setIfInBounds_toArray, List.set_cons_succ, List.set_cons_zero, List.drop_succ_cons, List.drop_zero]
      have hI3 : RI a 0 wc (L 15) (L 16) (L 17) (L 19) (L 20) (vs 15) (vs 16) (vs 17) (vs 19) u := hI
      rw [hL 19 (by omega), hL 20 (by omega)] at hI3
      obtain ⟨g5, e8, hg, hE, hO⟩ := hI3.fin
      have e7 := hA 18 (by omega)
      change vs 18 = .int .i64 0 at e7
      simp only [e7, e8]
      have HE5 := Lib.hid hE
      have HI5 := Lib.hid hO
      have HG5 := Lib.hid hg
      clear hA hL hI hI3 hE hO e7 e8 hg
      go_wp2_with fail
      go_meet
      case rel => exact ⟨g5, rfl, rfl, HE5.out, Nat.le_trans HO2.out.size HG5.out, HI5.out⟩
  case rest =>
  obtain ⟨gf, rfl, rfl, hEf, hgf, hO5⟩ := hcut
  obtain ⟨lf, hbf, hlf⟩ := hEf
  have HGF := Lib.hid (show gf ≠ g by have := HGL.out; omega)
  have HC3 := Lib.hid (HC.out.onlyNil hO5)
  have HO3' := Lib.hid (HO2.out.thenNil hO5)
  have HLF' := Lib.hid hlf
  have HBF' := Lib.hid hbf
  have kb : ∀ i, wc.cell? ⟨g, i, none⟩ = #[Value.slice sy.l.Ao y.e.out.length sy.l.co, .int .i64 y.e.base, .bool y.e.closed, .bool y.e.done, .slice sy.l.Ai y.e.inn.length sy.l.ci, .int .i64 y.e.next, .bool y.e.ended, .bool y.e.due, .slice sx.l.Ao x.e.out.length sx.l.co, .int .i64 x.e.base, .bool x.e.closed, .bool x.e.done, .slice sx.l.Ai x.e.inn.length sx.l.ci, .int .i64 x.e.next, .bool x.e.ended, .bool x.e.due, .slice sy.P y.sent.length sy.c, .slice sx.P x.sent.length sx.c, .string ⟨y.wr.toArray⟩, .string ⟨x.wr.toArray⟩, .string ⟨y.rd.toArray⟩, .string ⟨x.rd.toArray⟩, .bool y.over, .bool x.over, .bool wrong][i]? := fun i => (HBX.out.onlyNil HO3'.out).cell i
  have fb : ∀ i, wc.frozen? ⟨g, i, none⟩ = false := fun i => (HBX.out.onlyNil HO3'.out).frozen i
  clear ka ke hbf hlf hO5 hgf hmi hmd hmp hm0
  obtain ⟨u3, rfl⟩ : ∃ u3, u3 = wc := ⟨_, rfl⟩
  go_upto_region 29 with fail
  go_cut [] (fun wd => wd = u3.setCell ⟨g, 24, none⟩ (.bool wrong))
  case first =>
    cases wrong
    · go_wp2_with fail
      go_meet
      case rel => rfl
    · go_wp2_with fail
      go_meet
      case rel => rfl
  case rest =>
  have hOw : Only (One g) u3 wc := by rw [hcut]; (repeat' (first | with_reducible exact Only.refl _ _ | with_reducible refine Only.setCell ?_ (Or.inl ?_) _ | with_reducible refine Only.drewN ?_ _ | with_reducible refine Only.drew ?_ | with_reducible refine Only.alloc ?_ _ | (exact rfl)))
  have hbw : Blk wc g 68 (larr 1 x sx y sy wrong) := by
    have h := HC3.out.box.set_ 24 (.bool wrong)
    rw [hcut]
    unfold larr at h ⊢
    rw [if_neg (by decide)] at h ⊢
    simp only [List.setIfInBounds_toArray, List.set_cons_succ, List.set_cons_zero] at h
    exact h
  have hC4 : LK wc B0 g 1 x sx y sy wrong := HC3.out.turn hOw hbw rfl rfl rfl rfl HC3.out.fx.eb
  have HBW : Hid (Blk wc g 68 #[Value.slice sy.l.Ao y.e.out.length sy.l.co, .int .i64 y.e.base, .bool y.e.closed, .bool y.e.done, .slice sy.l.Ai y.e.inn.length sy.l.ci, .int .i64 y.e.next, .bool y.e.ended, .bool y.e.due, .slice sx.l.Ao x.e.out.length sx.l.co, .int .i64 x.e.base, .bool x.e.closed, .bool x.e.done, .slice sx.l.Ai x.e.inn.length sx.l.ci, .int .i64 x.e.next, .bool x.e.ended, .bool x.e.due, .slice sy.P y.sent.length sy.c, .slice sx.P x.sent.length sx.c, .string ⟨y.wr.toArray⟩, .string ⟨x.wr.toArray⟩, .string ⟨y.rd.toArray⟩, .string ⟨x.rd.toArray⟩, .bool y.over, .bool x.over, .bool wrong]) := Lib.hid (by
    unfold larr at hbw
    rw [if_neg (by decide)] at hbw
    exact hbw)
  have HC4 := Lib.hid hC4
  have HLF : Hid (EB wc wc.heap.size lf a) := Lib.hid ((HLF'.out.box HC3.out.box (larr_no _ _ _ _ _ _) hOw (Nat.le_refl _)).up hOw.size)
  have HBF : Hid (Blk wc gf 29 (earr lf a)) := Lib.hid (HBF'.out.only hOw HGF.out)
  have HO3 := Lib.hid (HO3'.out.any.trans (S := fun b => B0 ≤ b) hOw (fun x hx => .inl (by have := HC.out.new; unfold One at hx; omega)))
  clear hcut hOw hbw hC4 kb fb
  go_upto_region 30 with fail
  have HIN : Hid (∀ (L : Nat → Bool) (vs : Nat → Value) (u u' : World), Only Nil u u' → (fun _ _ u => Only Nil wc u) L vs u → (fun _ _ u => Only Nil wc u) L vs u') := Lib.hid (fun L vs u u' hO hI => by
    exact hI.thenNil hO)
  refine wp_region_inv (X := [(0, some 214, []), (1, some 215, []), (2, some 216, []), (3, some 217, [0]), (4, some 218, [3]), (5, some 219, [1, 4])]) (n := 6) (g := 1) (T := Nil) (Ps := [Cst (.pointer (some ⟨g, 0, none⟩)), Cst (.int .i64 1), Cst (.agg #[Value.slice lf.Ao a.out.length lf.co, .int .i64 a.base, .bool a.closed, .bool a.done, .slice lf.Ai a.inn.length lf.ci, .int .i64 a.next, .bool a.ended, .bool a.due]), Cst (.pointer (some ⟨g, 0, none⟩)), Cst (.pointer (some ⟨g, 0, none⟩)), Cst (.pointer (some ⟨g, 8, none⟩))])
    (I := fun _ _ u => Only Nil wc u)
    (by kernel_rfl) (by kernel_rfl) (by kernel_rfl) (by kernel_rfl) rfl ?st_18 ?i0_18 ?step_18 ?fin_18
  case st_18 =>
    have hT : ∀ x, (Nil) x → x < 0 := fun x h => h.elim
    intro p hp
    simp only [List.mem_cons, List.not_mem_nil, or_false] at hp
    rcases hp with rfl | rfl | rfl | rfl | rfl | rfl <;> first | exact Stays.cst _ | exact Stays.own hT | exact Stays.emp hT | exact Stays.any
  case i0_18 =>
    intro vs
    exact (Only.refl _ _).drew
  case step_18 =>
    intro x hx L vs u hI hA h0 hd
    simp only [List.mem_cons, List.not_mem_nil, or_false] at hx
    rcases hx with rfl | rfl | rfl | rfl | rfl | rfl
    · refine inv_step _ (by rfl) (by rfl) (fun K' hK => ?_)
      simp only [putAll, Act.put, List.setIfInBounds_toArray, List.set_cons_succ, List.set_cons_zero] at hK ⊢
      go_simp
      exact hK _ _ ⟨Only.refl _ _, hI, rfl⟩
    · refine inv_step _ (by rfl) (by rfl) (fun K' hK => ?_)
      simp only [putAll, Act.put, List.setIfInBounds_toArray, List.set_cons_succ, List.set_cons_zero] at hK ⊢
      go_simp
      exact hK _ _ ⟨Only.refl _ _, hI, rfl⟩
    · refine inv_step _ (by rfl) (by rfl) (fun K' hK => ?_)
      simp only [putAll, Act.put, List.setIfInBounds_toArray, List.set_cons_succ, List.set_cons_zero] at hK ⊢
      have kf : ∀ i, u.cell? ⟨gf, i, none⟩ = #[Value.slice lf.Ao a.out.length lf.co, .int .i64 a.base, .bool a.closed, .bool a.done, .slice lf.Ai a.inn.length lf.ci, .int .i64 a.next, .bool a.ended, .bool a.due][i]? := fun i => (HBF.out.onlyNil hI).cell i
      go_simp
      exact hK _ _ ⟨Only.refl _ _, hI, rfl⟩
    · refine inv_step _ (by rfl) (by rfl) (fun K' hK => ?_)
      simp only [putAll, Act.put, List.setIfInBounds_toArray, List.set_cons_succ, List.set_cons_zero] at hK ⊢
      have e0 := hA 0 (hd 0 (by simp))
      change vs 0 = (.pointer (some ⟨g, 0, none⟩)) at e0
      simp only [e0] at hK
      go_simp
      exact hK _ _ ⟨Only.refl _ _, hI, rfl⟩
    · refine inv_step _ (by rfl) (by rfl) (fun K' hK => ?_)
      simp only [putAll, Act.put, List.setIfInBounds_toArray, List.set_cons_succ, List.set_cons_zero] at hK ⊢
      have e3 := hA 3 (hd 3 (by simp))
      change vs 3 = (.pointer (some ⟨g, 0, none⟩)) at e3
      simp only [e3] at hK
      go_simp
      exact hK _ _ ⟨Only.refl _ _, hI, rfl⟩
    · refine inv_step _ (by rfl) (by rfl) (fun K' hK => ?_)
      simp only [putAll, Act.put, List.setIfInBounds_toArray, List.set_cons_succ, List.set_cons_zero] at hK ⊢
      have e1 := hA 1 (hd 1 (by simp))
      change vs 1 = (.int .i64 1) at e1
      have e4 := hA 4 (hd 4 (by simp))
      change vs 4 = (.pointer (some ⟨g, 0, none⟩)) at e4
      simp only [e1, e4] at hK
      go_simp
      exact hK _ _ ⟨Only.refl _ _, hI, rfl⟩
  case fin_18 =>
    intro L vs u hI hL hA
    simp only [putAll, Act.put, List.setIfInBounds_toArray, List.set_cons_succ, List.set_cons_zero, List.drop_succ_cons, List.drop_zero]
    have e2 := hA 2 (by omega)
    change vs 2 = .agg #[Value.slice lf.Ao a.out.length lf.co, .int .i64 a.base, .bool a.closed, .bool a.done, .slice lf.Ai a.inn.length lf.ci, .int .i64 a.next, .bool a.ended, .bool a.due] at e2
    have e5 := hA 5 (by omega)
    change vs 5 = .pointer (some ⟨g, 8, none⟩) at e5
    simp only [e2, e5]
    have kb : ∀ i, u.cell? ⟨g, i, none⟩ = #[Value.slice sy.l.Ao y.e.out.length sy.l.co, .int .i64 y.e.base, .bool y.e.closed, .bool y.e.done, .slice sy.l.Ai y.e.inn.length sy.l.ci, .int .i64 y.e.next, .bool y.e.ended, .bool y.e.due, .slice sx.l.Ao x.e.out.length sx.l.co, .int .i64 x.e.base, .bool x.e.closed, .bool x.e.done, .slice sx.l.Ai x.e.inn.length sx.l.ci, .int .i64 x.e.next, .bool x.e.ended, .bool x.e.due, .slice sy.P y.sent.length sy.c, .slice sx.P x.sent.length sx.c, .string ⟨y.wr.toArray⟩, .string ⟨x.wr.toArray⟩, .string ⟨y.rd.toArray⟩, .string ⟨x.rd.toArray⟩, .bool y.over, .bool x.over, .bool wrong][i]? := fun i => (HBW.out.onlyNil hI).cell i
    have fb : ∀ i, u.frozen? ⟨g, i, none⟩ = false := fun i => (HBW.out.onlyNil hI).frozen i
    have hL4 : LK (putE 1 u g lf a) B0 g 1 { x with e := a } { sx with l := lf } y sy wrong := (HC4.out.onlyNil hI).end_ (HLF.out.next hI)
    have hO4 : Only (One g) wc (putE 1 u g lf a) := hI.any.then_ (putE_only _ _ _ _ _)
    have HL4 := Lib.hid hL4
    have HO4 := Lib.hid hO4
    clear hL4 hO4 hA hL hI e2 e5
    go_wp2_with fail
    refine bodyPost_end (v := .tuple #[]) (by simp [results, Try.results30, go_sem]) rfl ?_
    have hfin : ∀ u', u' = putE 1 u g lf a → DoPost 4 n d 1 B0 g x y sy wrong w (.returned (.tuple #[])) u' := fun u' hu => by
      rw [hu]
      exact ⟨⟨_, rfl⟩, ⟨_, by rw [HST.out]; exact HL4.out⟩, HO3.out.trans HO4.out (fun x hx => .inl (by have := HC.out.new; unfold One at hx; omega))⟩
    exact hfin _ rfl



end Go.Proofs.Ytfichoekjjcjiaa
