/-
  link.do: what it answers; Close, Again, Write.
  Conditions: the link lies in memory as 'LK' says.
-/
import Derived.Test.YtfichoekjjcjiaaStK1
import Derived.BigRegion
import Derived.Deep.Cut
import Derived.Deep.DeepCutAuto
namespace Go.Proofs.Ytfichoekjjcjiaa
open Go.RowKit


/-- What do leaves. -/
def DoPost (k n : Nat) (d : List UInt8) (i : Nat) (B0 g : Nat) (x y : Sd) (sy : SC) (wrong : Bool) (w : World) (e : Ending) (w' : World) : Prop :=
  (∃ v, e = .returned v) ∧ (∃ sx', LK w' B0 g i (stepS k n d i x y).1 sx' y sy wrong) ∧ Only (fun b => B0 ≤ b) w w'

/-- The end of the acting side is stored. -/
def putE (i : Nat) (w : World) (g : Nat) (l : Loc) (e : E) : World :=
  if i = 0 then put8 w g l e else
    ((((((((w.setCell ⟨g, 8, none⟩ (.slice l.Ao e.out.length l.co)).setCell ⟨g, 9, none⟩ (.int .i64 e.base)).setCell ⟨g, 10, none⟩ (.bool e.closed)).setCell ⟨g, 11, none⟩ (.bool e.done)).setCell ⟨g, 12, none⟩ (.slice l.Ai e.inn.length l.ci)).setCell ⟨g, 13, none⟩ (.int .i64 e.next)).setCell ⟨g, 14, none⟩ (.bool e.ended)).setCell ⟨g, 15, none⟩ (.bool e.due))
theorem putE_only (i : Nat) (w : World) (g : Nat) (l : Loc) (e : E) : Only (One g) w (putE i w g l e) := by
  unfold putE
  split
  · exact put8_only _ _ _ _
  · (repeat' (first | with_reducible exact Only.refl _ _ | with_reducible refine Only.setCell ?_ (Or.inl ?_) _ | with_reducible refine Only.drewN ?_ _ | with_reducible refine Only.drew ?_ | with_reducible refine Only.alloc ?_ _ | (exact rfl)))
theorem putE_blk {i : Nat} {w : World} {g : Nat} {x y : Sd} {sx sy : SC} {wrong : Bool} (h : Blk w g 68 (larr i x sx y sy wrong)) (l : Loc) (e : E) :
    Blk (putE i w g l e) g 68 (larr i { x with e := e } { sx with l := l } y sy wrong) := by
  unfold putE
  unfold larr at h ⊢
  by_cases hi : i = 0
  · rw [if_pos hi] at h ⊢
    rw [if_pos hi]
    have := (((((((h.set_ 0 (.slice l.Ao e.out.length l.co)).set_ 1 (.int .i64 e.base)).set_ 2 (.bool e.closed)).set_ 3 (.bool e.done)).set_ 4 (.slice l.Ai e.inn.length l.ci)).set_ 5 (.int .i64 e.next)).set_ 6 (.bool e.ended)).set_ 7 (.bool e.due)
    simp only [List.setIfInBounds_toArray, List.set_cons_succ, List.set_cons_zero] at this
    exact this
  · rw [if_neg hi] at h ⊢
    rw [if_neg hi]
    have := (((((((h.set_ 8 (.slice l.Ao e.out.length l.co)).set_ 9 (.int .i64 e.base)).set_ 10 (.bool e.closed)).set_ 11 (.bool e.done)).set_ 12 (.slice l.Ai e.inn.length l.ci)).set_ 13 (.int .i64 e.next)).set_ 14 (.bool e.ended)).set_ 15 (.bool e.due)
    simp only [List.setIfInBounds_toArray, List.set_cons_succ, List.set_cons_zero] at this
    exact this
theorem LK.end_ {w : World} {B0 g i : Nat} {x y : Sd} {sx sy : SC} {wrong : Bool} (h : LK w B0 g i x sx y sy wrong) {l : Loc} {e : E} (he : EB w w.heap.size l e) : LK (putE i w g l e) B0 g i { x with e := e } { sx with l := l } y sy wrong :=
  h.turn (putE_only _ _ _ _ _) (putE_blk h.box l e) rfl rfl rfl rfl he

set_option maxRecDepth 100000 in
set_option maxHeartbeats 8000000 in
theorem do_again0 (kd sd nn : Int) (D : Option Addr) (cd : Nat) (d : List UInt8) (n : Nat) (B0 g : Nat) (x y : Sd) (sx sy : SC) (wrong : Bool) (w : World) (hk : kd % 6 = 5) (hs : sd % 2 = 0) (hkd : 0 ≤ kd ∧ kd ≤ 255) (hsd : 0 ≤ sd ∧ sd ≤ 255) (hn : nn = n) (hn8 : n ≤ 255)
    (h : LK w B0 g 0 x sx y sy wrong) (hB : B0 ≤ w.heap.size) (hd : Bs w w.heap.size D d) (hdl : d.length ≤ 200) (hv : VE x.e) :
    Calls Try.prog 30 #[.pointer (some ⟨g, 0, none⟩), .agg #[.int .u8 kd, .int .u8 sd, .int .u8 nn, .slice D d.length cd]] w (DoPost 5 n d 0 B0 g x y sy wrong w) := by
  have H := Lib.hid h
  have HD := Lib.hid hd
  have HBB := Lib.hid hB
  have HDL := Lib.hid hdl
  have HGL := Lib.hid h.box.lt
  have hE := h.fx.eb
  have hbx := h.box
  unfold larr at hbx
  rw [if_pos rfl] at hbx
  have HBX := Lib.hid hbx
  obtain ⟨w1, hw1⟩ : ∃ w1, w1 = w.alloc (.cells #[.int .u8 kd, .int .u8 sd, .int .u8 nn, .slice D d.length cd] 70) := ⟨_, rfl⟩
  have hO1 : Only Nil w w1 := by rw [hw1]; exact (Only.refl _ _).alloc _
  have HA := Lib.hid (show Blk w1 w.heap.size 70 #[.int .u8 kd, .int .u8 sd, .int .u8 nn, .slice D d.length cd] by rw [hw1]; exact Blk.new _ _ _)
  have HO1 := Lib.hid hO1
  have HN := Lib.hid hn
  have HN8 := Lib.hid hn8
  have ht1 : kd.tmod 6 = 5 := by rw [Int.tmod_eq_emod_of_nonneg hkd.1, hk]
  have ht2 : sd.tmod 2 = 0 := by rw [Int.tmod_eq_emod_of_nonneg hsd.1, hs]
  clear h hd hB hdl hbx hO1 hn hn8 hkd hsd
  have hv1 := hv.1
  have hv2 := hv.2.1
  have HST := Lib.hid (show (stepS 5 n d (0 : Nat) x y).1 = { x with e := againE x.e } from rfl)
  have HAG := Lib.hid (fun w' hE => again_any sx.l x.e w' hE (by omega) (by omega))
  clear hv hv1 hv2
  go_enter Try.func30, Try.ntmps30
  go_upto_region 1 with fail
  rw [← hw1]
  clear hw1
  have ka : ∀ i, w1.cell? ⟨w.heap.size, i, none⟩ = #[Value.int .u8 kd, .int .u8 sd, .int .u8 nn, .slice D d.length cd][i]? := fun i => HA.out.cell i
  have kb : ∀ i, w1.cell? ⟨g, i, none⟩ = #[Value.slice sx.l.Ao x.e.out.length sx.l.co, .int .i64 x.e.base, .bool x.e.closed, .bool x.e.done, .slice sx.l.Ai x.e.inn.length sx.l.ci, .int .i64 x.e.next, .bool x.e.ended, .bool x.e.due, .slice sy.l.Ao y.e.out.length sy.l.co, .int .i64 y.e.base, .bool y.e.closed, .bool y.e.done, .slice sy.l.Ai y.e.inn.length sy.l.ci, .int .i64 y.e.next, .bool y.e.ended, .bool y.e.due, .slice sx.P x.sent.length sx.c, .slice sy.P y.sent.length sy.c, .string ⟨x.wr.toArray⟩, .string ⟨y.wr.toArray⟩, .string ⟨x.rd.toArray⟩, .string ⟨y.rd.toArray⟩, .bool x.over, .bool y.over, .bool wrong][i]? := fun i => (HBX.out.onlyNil HO1.out).cell i
  go_upto_region 2 with fail
  go_cut [5] (fun pe wd => ∃ ge, pe = .pointer (some ⟨ge, 0, none⟩) ∧ Blk wd ge 29 (earr sx.l x.e) ∧ w.heap.size ≤ ge ∧ Only Nil w1 wd)
  case first =>
    go_wp2_with fail
    go_meet
    case rel => exact ⟨w1.heap.size, rfl, Blk.new _ _ _, HO1.out.size, (Only.refl _ _).alloc _⟩
  case rest =>
  obtain ⟨ge, rfl, hY, hge, hOc⟩ := hcut
  have HY := Lib.hid hY
  have HC := Lib.hid (H.out.onlyNil (HO1.out.thenNil hOc))
  have HA2 := Lib.hid (HA.out.onlyNil hOc)
  have HO2 := Lib.hid (HO1.out.thenNil hOc)
  have HGE := Lib.hid (show ge ≠ g by have := HGL.out; omega)
  clear ka kb hOc hge
  have ka : ∀ i, wc.cell? ⟨w.heap.size, i, none⟩ = #[Value.int .u8 kd, .int .u8 sd, .int .u8 nn, .slice D d.length cd][i]? := fun i => HA2.out.cell i
  have ke : ∀ i, wc.cell? ⟨ge, i, none⟩ = #[Value.slice sx.l.Ao x.e.out.length sx.l.co, .int .i64 x.e.base, .bool x.e.closed, .bool x.e.done, .slice sx.l.Ai x.e.inn.length sx.l.ci, .int .i64 x.e.next, .bool x.e.ended, .bool x.e.due][i]? := fun i => hY.cell i
  clear hY
  go_upto_region 4 with fail
  go_region_law (go_simp; go_at_call 18; refine (HAG.out _ (HC.out.fx.eb.next ((Only.refl _ _).drew))).mono ?_; rintro e5 u5 ⟨l5, rfl, hE5, hO5⟩; have kb : ∀ i, u5.cell? ⟨g, i, none⟩ = #[Value.slice sx.l.Ao x.e.out.length sx.l.co, .int .i64 x.e.base, .bool x.e.closed, .bool x.e.done, .slice sx.l.Ai x.e.inn.length sx.l.ci, .int .i64 x.e.next, .bool x.e.ended, .bool x.e.due, .slice sy.l.Ao y.e.out.length sy.l.co, .int .i64 y.e.base, .bool y.e.closed, .bool y.e.done, .slice sy.l.Ai y.e.inn.length sy.l.ci, .int .i64 y.e.next, .bool y.e.ended, .bool y.e.due, .slice sx.P x.sent.length sx.c, .slice sy.P y.sent.length sy.c, .string ⟨x.wr.toArray⟩, .string ⟨y.wr.toArray⟩, .string ⟨x.rd.toArray⟩, .string ⟨y.rd.toArray⟩, .bool x.over, .bool y.over, .bool wrong][i]? := fun i => (HBX.out.onlyNil (((HO2.out).drew).thenNil hO5)).cell i; have fb : ∀ i, u5.frozen? ⟨g, i, none⟩ = false := fun i => (HBX.out.onlyNil (((HO2.out).drew).thenNil hO5)).frozen i)
  all_goals
    have hL5 := HC.out.onlyNil (((Only.refl _ _).drew).thenNil hO5)
    have HL5 := Lib.hid (hL5.end_ hE5)
    have HO5 := Lib.hid (((HO2.out).drew).thenNil hO5)
    clear hL5 hE5 hO5
    go_wp2_with fail
    refine bodyPost_end (v := .tuple #[]) (by simp [results, Try.results30, go_sem]) rfl ?_
    have hfin : ∀ u', u' = putE 0 u5 g l5 (againE x.e) → DoPost 5 n d 0 B0 g x y sy wrong w (.returned (.tuple #[])) u' := fun u' hu => by
      rw [hu]
      refine ⟨⟨_, rfl⟩, ⟨_, by rw [HST.out]; exact HL5.out⟩, HO5.out.any.trans (putE_only _ _ _ _ _) (fun x hx => .inl (by have := HC.out.new; unfold One at hx; omega))⟩
    exact hfin _ rfl

set_option maxRecDepth 100000 in
set_option maxHeartbeats 8000000 in
theorem do_again1 (kd sd nn : Int) (D : Option Addr) (cd : Nat) (d : List UInt8) (n : Nat) (B0 g : Nat) (x y : Sd) (sx sy : SC) (wrong : Bool) (w : World) (hk : kd % 6 = 5) (hs : sd % 2 = 1) (hkd : 0 ≤ kd ∧ kd ≤ 255) (hsd : 0 ≤ sd ∧ sd ≤ 255) (hn : nn = n) (hn8 : n ≤ 255)
    (h : LK w B0 g 1 x sx y sy wrong) (hB : B0 ≤ w.heap.size) (hd : Bs w w.heap.size D d) (hdl : d.length ≤ 200) (hv : VE x.e) :
    Calls Try.prog 30 #[.pointer (some ⟨g, 0, none⟩), .agg #[.int .u8 kd, .int .u8 sd, .int .u8 nn, .slice D d.length cd]] w (DoPost 5 n d 1 B0 g x y sy wrong w) := by
  have H := Lib.hid h
  have HD := Lib.hid hd
  have HBB := Lib.hid hB
  have HDL := Lib.hid hdl
  have HGL := Lib.hid h.box.lt
  have hE := h.fx.eb
  have hbx := h.box
  unfold larr at hbx
  rw [if_neg (by decide)] at hbx
  have HBX := Lib.hid hbx
  obtain ⟨w1, hw1⟩ : ∃ w1, w1 = w.alloc (.cells #[.int .u8 kd, .int .u8 sd, .int .u8 nn, .slice D d.length cd] 70) := ⟨_, rfl⟩
  have hO1 : Only Nil w w1 := by rw [hw1]; exact (Only.refl _ _).alloc _
  have HA := Lib.hid (show Blk w1 w.heap.size 70 #[.int .u8 kd, .int .u8 sd, .int .u8 nn, .slice D d.length cd] by rw [hw1]; exact Blk.new _ _ _)
  have HO1 := Lib.hid hO1
  have HN := Lib.hid hn
  have HN8 := Lib.hid hn8
  have ht1 : kd.tmod 6 = 5 := by rw [Int.tmod_eq_emod_of_nonneg hkd.1, hk]
  have ht2 : sd.tmod 2 = 1 := by rw [Int.tmod_eq_emod_of_nonneg hsd.1, hs]
  clear h hd hB hdl hbx hO1 hn hn8 hkd hsd
  have hv1 := hv.1
  have hv2 := hv.2.1
  have HST := Lib.hid (show (stepS 5 n d (1 : Nat) x y).1 = { x with e := againE x.e } from rfl)
  have HAG := Lib.hid (fun w' hE => again_any sx.l x.e w' hE (by omega) (by omega))
  clear hv hv1 hv2
  go_enter Try.func30, Try.ntmps30
  go_upto_region 1 with fail
  rw [← hw1]
  clear hw1
  have ka : ∀ i, w1.cell? ⟨w.heap.size, i, none⟩ = #[Value.int .u8 kd, .int .u8 sd, .int .u8 nn, .slice D d.length cd][i]? := fun i => HA.out.cell i
  have kb : ∀ i, w1.cell? ⟨g, i, none⟩ = #[Value.slice sy.l.Ao y.e.out.length sy.l.co, .int .i64 y.e.base, .bool y.e.closed, .bool y.e.done, .slice sy.l.Ai y.e.inn.length sy.l.ci, .int .i64 y.e.next, .bool y.e.ended, .bool y.e.due, .slice sx.l.Ao x.e.out.length sx.l.co, .int .i64 x.e.base, .bool x.e.closed, .bool x.e.done, .slice sx.l.Ai x.e.inn.length sx.l.ci, .int .i64 x.e.next, .bool x.e.ended, .bool x.e.due, .slice sy.P y.sent.length sy.c, .slice sx.P x.sent.length sx.c, .string ⟨y.wr.toArray⟩, .string ⟨x.wr.toArray⟩, .string ⟨y.rd.toArray⟩, .string ⟨x.rd.toArray⟩, .bool y.over, .bool x.over, .bool wrong][i]? := fun i => (HBX.out.onlyNil HO1.out).cell i
  go_upto_region 2 with fail
  go_cut [5] (fun pe wd => ∃ ge, pe = .pointer (some ⟨ge, 0, none⟩) ∧ Blk wd ge 29 (earr sx.l x.e) ∧ w.heap.size ≤ ge ∧ Only Nil w1 wd)
  case first =>
    go_wp2_with fail
    go_meet
    case rel => exact ⟨w1.heap.size, rfl, Blk.new _ _ _, HO1.out.size, (Only.refl _ _).alloc _⟩
  case rest =>
  obtain ⟨ge, rfl, hY, hge, hOc⟩ := hcut
  have HY := Lib.hid hY
  have HC := Lib.hid (H.out.onlyNil (HO1.out.thenNil hOc))
  have HA2 := Lib.hid (HA.out.onlyNil hOc)
  have HO2 := Lib.hid (HO1.out.thenNil hOc)
  have HGE := Lib.hid (show ge ≠ g by have := HGL.out; omega)
  clear ka kb hOc hge
  have ka : ∀ i, wc.cell? ⟨w.heap.size, i, none⟩ = #[Value.int .u8 kd, .int .u8 sd, .int .u8 nn, .slice D d.length cd][i]? := fun i => HA2.out.cell i
  have ke : ∀ i, wc.cell? ⟨ge, i, none⟩ = #[Value.slice sx.l.Ao x.e.out.length sx.l.co, .int .i64 x.e.base, .bool x.e.closed, .bool x.e.done, .slice sx.l.Ai x.e.inn.length sx.l.ci, .int .i64 x.e.next, .bool x.e.ended, .bool x.e.due][i]? := fun i => hY.cell i
  clear hY
  go_upto_region 4 with fail
  go_region_law (go_simp; go_at_call 18; refine (HAG.out _ (HC.out.fx.eb.next ((Only.refl _ _).drew))).mono ?_; rintro e5 u5 ⟨l5, rfl, hE5, hO5⟩; have kb : ∀ i, u5.cell? ⟨g, i, none⟩ = #[Value.slice sy.l.Ao y.e.out.length sy.l.co, .int .i64 y.e.base, .bool y.e.closed, .bool y.e.done, .slice sy.l.Ai y.e.inn.length sy.l.ci, .int .i64 y.e.next, .bool y.e.ended, .bool y.e.due, .slice sx.l.Ao x.e.out.length sx.l.co, .int .i64 x.e.base, .bool x.e.closed, .bool x.e.done, .slice sx.l.Ai x.e.inn.length sx.l.ci, .int .i64 x.e.next, .bool x.e.ended, .bool x.e.due, .slice sy.P y.sent.length sy.c, .slice sx.P x.sent.length sx.c, .string ⟨y.wr.toArray⟩, .string ⟨x.wr.toArray⟩, .string ⟨y.rd.toArray⟩, .string ⟨x.rd.toArray⟩, .bool y.over, .bool x.over, .bool wrong][i]? := fun i => (HBX.out.onlyNil (((HO2.out).drew).thenNil hO5)).cell i; have fb : ∀ i, u5.frozen? ⟨g, i, none⟩ = false := fun i => (HBX.out.onlyNil (((HO2.out).drew).thenNil hO5)).frozen i)
  all_goals
    have hL5 := HC.out.onlyNil (((Only.refl _ _).drew).thenNil hO5)
    have HL5 := Lib.hid (hL5.end_ hE5)
    have HO5 := Lib.hid (((HO2.out).drew).thenNil hO5)
    clear hL5 hE5 hO5
    go_wp2_with fail
    refine bodyPost_end (v := .tuple #[]) (by simp [results, Try.results30, go_sem]) rfl ?_
    have hfin : ∀ u', u' = putE 1 u5 g l5 (againE x.e) → DoPost 5 n d 1 B0 g x y sy wrong w (.returned (.tuple #[])) u' := fun u' hu => by
      rw [hu]
      refine ⟨⟨_, rfl⟩, ⟨_, by rw [HST.out]; exact HL5.out⟩, HO5.out.any.trans (putE_only _ _ _ _ _) (fun x hx => .inl (by have := HC.out.new; unfold One at hx; omega))⟩
    exact hfin _ rfl

set_option maxRecDepth 100000 in
set_option maxHeartbeats 8000000 in
theorem do_close0 (kd sd nn : Int) (D : Option Addr) (cd : Nat) (d : List UInt8) (n : Nat) (B0 g : Nat) (x y : Sd) (sx sy : SC) (wrong : Bool) (w : World) (hk : kd % 6 = 2) (hs : sd % 2 = 0) (hkd : 0 ≤ kd ∧ kd ≤ 255) (hsd : 0 ≤ sd ∧ sd ≤ 255) (hn : nn = n) (hn8 : n ≤ 255)
    (h : LK w B0 g 0 x sx y sy wrong) (hB : B0 ≤ w.heap.size) (hd : Bs w w.heap.size D d) (hdl : d.length ≤ 200) :
    Calls Try.prog 30 #[.pointer (some ⟨g, 0, none⟩), .agg #[.int .u8 kd, .int .u8 sd, .int .u8 nn, .slice D d.length cd]] w (DoPost 2 n d 0 B0 g x y sy wrong w) := by
  have H := Lib.hid h
  have HD := Lib.hid hd
  have HBB := Lib.hid hB
  have HDL := Lib.hid hdl
  have HGL := Lib.hid h.box.lt
  have hE := h.fx.eb
  have hbx := h.box
  unfold larr at hbx
  rw [if_pos rfl] at hbx
  have HBX := Lib.hid hbx
  obtain ⟨w1, hw1⟩ : ∃ w1, w1 = w.alloc (.cells #[.int .u8 kd, .int .u8 sd, .int .u8 nn, .slice D d.length cd] 70) := ⟨_, rfl⟩
  have hO1 : Only Nil w w1 := by rw [hw1]; exact (Only.refl _ _).alloc _
  have HA := Lib.hid (show Blk w1 w.heap.size 70 #[.int .u8 kd, .int .u8 sd, .int .u8 nn, .slice D d.length cd] by rw [hw1]; exact Blk.new _ _ _)
  have HO1 := Lib.hid hO1
  have HN := Lib.hid hn
  have HN8 := Lib.hid hn8
  have ht1 : kd.tmod 6 = 2 := by rw [Int.tmod_eq_emod_of_nonneg hkd.1, hk]
  have ht2 : sd.tmod 2 = 0 := by rw [Int.tmod_eq_emod_of_nonneg hsd.1, hs]
  clear h hd hB hdl hbx hO1 hn hn8 hkd hsd
  obtain ⟨a, cn, hce⟩ : ∃ a cn, closeE x.e = (a, cn) := ⟨_, _, rfl⟩
  have HCE := Lib.hid hce
  have HCL := Lib.hid (fun w' hE => close_any sx.l x.e w' hE)
  rw [hce] at HCL
  clear hce
  go_enter Try.func30, Try.ntmps30
  go_upto_region 1 with fail
  rw [← hw1]
  clear hw1
  have ka : ∀ i, w1.cell? ⟨w.heap.size, i, none⟩ = #[Value.int .u8 kd, .int .u8 sd, .int .u8 nn, .slice D d.length cd][i]? := fun i => HA.out.cell i
  have kb : ∀ i, w1.cell? ⟨g, i, none⟩ = #[Value.slice sx.l.Ao x.e.out.length sx.l.co, .int .i64 x.e.base, .bool x.e.closed, .bool x.e.done, .slice sx.l.Ai x.e.inn.length sx.l.ci, .int .i64 x.e.next, .bool x.e.ended, .bool x.e.due, .slice sy.l.Ao y.e.out.length sy.l.co, .int .i64 y.e.base, .bool y.e.closed, .bool y.e.done, .slice sy.l.Ai y.e.inn.length sy.l.ci, .int .i64 y.e.next, .bool y.e.ended, .bool y.e.due, .slice sx.P x.sent.length sx.c, .slice sy.P y.sent.length sy.c, .string ⟨x.wr.toArray⟩, .string ⟨y.wr.toArray⟩, .string ⟨x.rd.toArray⟩, .string ⟨y.rd.toArray⟩, .bool x.over, .bool y.over, .bool wrong][i]? := fun i => (HBX.out.onlyNil HO1.out).cell i
  go_upto_region 2 with fail
  go_cut [5] (fun pe wd => ∃ ge, pe = .pointer (some ⟨ge, 0, none⟩) ∧ Blk wd ge 29 (earr sx.l x.e) ∧ w.heap.size ≤ ge ∧ Only Nil w1 wd)
  case first =>
    go_wp2_with fail
    go_meet
    case rel => exact ⟨w1.heap.size, rfl, Blk.new _ _ _, HO1.out.size, (Only.refl _ _).alloc _⟩
  case rest =>
  obtain ⟨ge, rfl, hY, hge, hOc⟩ := hcut
  have HY := Lib.hid hY
  have HC := Lib.hid (H.out.onlyNil (HO1.out.thenNil hOc))
  have HA2 := Lib.hid (HA.out.onlyNil hOc)
  have HO2 := Lib.hid (HO1.out.thenNil hOc)
  have HGE := Lib.hid (show ge ≠ g by have := HGL.out; omega)
  clear ka kb hOc hge
  have ka : ∀ i, wc.cell? ⟨w.heap.size, i, none⟩ = #[Value.int .u8 kd, .int .u8 sd, .int .u8 nn, .slice D d.length cd][i]? := fun i => HA2.out.cell i
  have ke : ∀ i, wc.cell? ⟨ge, i, none⟩ = #[Value.slice sx.l.Ao x.e.out.length sx.l.co, .int .i64 x.e.base, .bool x.e.closed, .bool x.e.done, .slice sx.l.Ai x.e.inn.length sx.l.ci, .int .i64 x.e.next, .bool x.e.ended, .bool x.e.due][i]? := fun i => hY.cell i
  clear hY
  go_upto_region 17 with fail
  go_cut [11, 12] (fun pe q wd => ∃ gf, pe = .pointer (some ⟨gf, 0, none⟩) ∧ q = .int .i64 cn ∧ EBox 29 wd gf a ∧ w.heap.size ≤ gf ∧ Only Nil wc wd)
  case first =>
    go_wp2_with fail
    refine (HCL.out _ HC.out.fx.eb).mono ?_
    rintro e5 u5 ⟨l5, rfl, hE5, hO5⟩
    go_wp2_with fail
    go_meet
    case rel => exact ⟨u5.heap.size, rfl, rfl, EBox.new _ hE5, Nat.le_trans HO2.out.size hO5.size, hO5.alloc _⟩
  case rest =>
  obtain ⟨gf, rfl, rfl, hEf, hgf, hO5⟩ := hcut
  obtain ⟨lf, hbf, hlf⟩ := hEf
  have HGF := Lib.hid (show gf ≠ g by have := HGL.out; omega)
  have HC3 := Lib.hid (HC.out.onlyNil hO5)
  have HA3 := Lib.hid (HA2.out.onlyNil hO5)
  have HO3 := Lib.hid (HO2.out.thenNil hO5)
  have HLF := Lib.hid hlf
  have HBF := Lib.hid hbf
  clear ka ke hbf hlf hO5 hgf
  by_cases hcn : cn = 0
  rotate_left
  · have HST : Hid ((stepS 2 n d (0 : Nat) x y).1 = x) := Lib.hid (by
      unfold stepS
      rw [if_neg (by decide), if_neg (by decide), if_pos rfl, HCE.out]
      dsimp only
      rw [if_neg hcn])
    have hcb : (cn == 0) = false := beq_false_of_ne hcn
    go_wp2_with fail
    refine bodyPost_end (v := .tuple #[]) (by simp [results, Try.results30, go_sem]) rfl ?_
    exact ⟨⟨_, rfl⟩, ⟨sx, by rw [HST.out]; exact HC3.out⟩, HO3.out.any⟩
  have HST : Hid ((stepS 2 n d (0 : Nat) x y).1 = { x with e := a }) := Lib.hid (by
      unfold stepS
      rw [if_neg (by decide), if_neg (by decide), if_pos rfl, HCE.out]
      dsimp only
      rw [if_pos hcn])
  subst hcn
  have HBW : Hid (Blk wc g 68 #[Value.slice sx.l.Ao x.e.out.length sx.l.co, .int .i64 x.e.base, .bool x.e.closed, .bool x.e.done, .slice sx.l.Ai x.e.inn.length sx.l.ci, .int .i64 x.e.next, .bool x.e.ended, .bool x.e.due, .slice sy.l.Ao y.e.out.length sy.l.co, .int .i64 y.e.base, .bool y.e.closed, .bool y.e.done, .slice sy.l.Ai y.e.inn.length sy.l.ci, .int .i64 y.e.next, .bool y.e.ended, .bool y.e.due, .slice sx.P x.sent.length sx.c, .slice sy.P y.sent.length sy.c, .string ⟨x.wr.toArray⟩, .string ⟨y.wr.toArray⟩, .string ⟨x.rd.toArray⟩, .string ⟨y.rd.toArray⟩, .bool x.over, .bool y.over, .bool wrong]) := Lib.hid (HBX.out.onlyNil HO3.out)
  go_upto_region 19 with fail
  have HIN : Hid (∀ (L : Nat → Bool) (vs : Nat → Value) (u u' : World), Only Nil u u' → (fun _ _ u => Only Nil wc u) L vs u → (fun _ _ u => Only Nil wc u) L vs u') := Lib.hid (fun L vs u u' hO hI => by
    exact hI.thenNil hO)
  refine wp_region_inv (X := [(0, some 126, []), (1, some 127, []), (2, some 128, []), (3, some 129, [0]), (4, some 130, [3]), (5, some 131, [1, 4])]) (n := 6) (g := 1) (T := Nil) (Ps := [Cst (.pointer (some ⟨g, 0, none⟩)), Cst (.int .i64 0), Cst (.agg #[Value.slice lf.Ao a.out.length lf.co, .int .i64 a.base, .bool a.closed, .bool a.done, .slice lf.Ai a.inn.length lf.ci, .int .i64 a.next, .bool a.ended, .bool a.due]), Cst (.pointer (some ⟨g, 0, none⟩)), Cst (.pointer (some ⟨g, 0, none⟩)), Cst (.pointer (some ⟨g, 0, none⟩))])
    (I := fun _ _ u => Only Nil wc u)
    (by kernel_rfl) (by kernel_rfl) (by kernel_rfl) (by kernel_rfl) rfl ?st_1 ?i0_1 ?step_1 ?fin_1
  case st_1 =>
    have hT : ∀ x, (Nil) x → x < 0 := fun x h => h.elim
    intro p hp
    simp only [List.mem_cons, List.not_mem_nil, or_false] at hp
    rcases hp with rfl | rfl | rfl | rfl | rfl | rfl <;> first | exact Stays.cst _ | exact Stays.own hT | exact Stays.emp hT | exact Stays.any
  case i0_1 =>
    intro vs
    exact (Only.refl _ _).drew
  case step_1 =>
    intro x hx L vs u hI hA h0 hd
    simp only [List.mem_cons, List.not_mem_nil, or_false] at hx
    rcases hx with rfl | rfl | rfl | rfl | rfl | rfl
    · refine inv_step _ (by rfl) (by rfl) (fun K' hK => ?_)
      simp only [putAll, Act.put, List.setIfInBounds_toArray, List.set_cons_succ, List.set_cons_zero] at hK ⊢
      go_simp
      exact hK _ _ ⟨Only.refl _ _, hI, rfl⟩
    · refine inv_step _ (by rfl) (by rfl) (fun K' hK => ?_)
      simp only [putAll, Act.put, List.setIfInBounds_toArray, List.set_cons_succ, List.set_cons_zero] at hK ⊢
      go_simp
      exact hK _ _ ⟨Only.refl _ _, hI, rfl⟩
    · refine inv_step _ (by rfl) (by rfl) (fun K' hK => ?_)
      simp only [putAll, Act.put, List.setIfInBounds_toArray, List.set_cons_succ, List.set_cons_zero] at hK ⊢
      have kf : ∀ i, u.cell? ⟨gf, i, none⟩ = #[Value.slice lf.Ao a.out.length lf.co, .int .i64 a.base, .bool a.closed, .bool a.done, .slice lf.Ai a.inn.length lf.ci, .int .i64 a.next, .bool a.ended, .bool a.due][i]? := fun i => (HBF.out.onlyNil hI).cell i
      go_simp
      exact hK _ _ ⟨Only.refl _ _, hI, rfl⟩
    · refine inv_step _ (by rfl) (by rfl) (fun K' hK => ?_)
      simp only [putAll, Act.put, List.setIfInBounds_toArray, List.set_cons_succ, List.set_cons_zero] at hK ⊢
      have e0 := hA 0 (hd 0 (by simp))
      change vs 0 = (.pointer (some ⟨g, 0, none⟩)) at e0
      simp only [e0] at hK
      go_simp
      exact hK _ _ ⟨Only.refl _ _, hI, rfl⟩
    · refine inv_step _ (by rfl) (by rfl) (fun K' hK => ?_)
      simp only [putAll, Act.put, List.setIfInBounds_toArray, List.set_cons_succ, List.set_cons_zero] at hK ⊢
      have e3 := hA 3 (hd 3 (by simp))
      change vs 3 = (.pointer (some ⟨g, 0, none⟩)) at e3
      simp only [e3] at hK
      go_simp
      exact hK _ _ ⟨Only.refl _ _, hI, rfl⟩
    · refine inv_step _ (by rfl) (by rfl) (fun K' hK => ?_)
      simp only [putAll, Act.put, List.setIfInBounds_toArray, List.set_cons_succ, List.set_cons_zero] at hK ⊢
      have e1 := hA 1 (hd 1 (by simp))
      change vs 1 = (.int .i64 0) at e1
      have e4 := hA 4 (hd 4 (by simp))
      change vs 4 = (.pointer (some ⟨g, 0, none⟩)) at e4
      simp only [e1, e4] at hK
      go_simp
      exact hK _ _ ⟨Only.refl _ _, hI, rfl⟩
  case fin_1 =>
    intro L vs u hI hL hA
    simp only [putAll, Act.put, List.setIfInBounds_toArray, List.set_cons_succ, List.set_cons_zero, List.drop_succ_cons, List.drop_zero]
    have e2 := hA 2 (by omega)
    change vs 2 = .agg #[Value.slice lf.Ao a.out.length lf.co, .int .i64 a.base, .bool a.closed, .bool a.done, .slice lf.Ai a.inn.length lf.ci, .int .i64 a.next, .bool a.ended, .bool a.due] at e2
    have e5 := hA 5 (by omega)
    change vs 5 = .pointer (some ⟨g, 0, none⟩) at e5
    simp only [e2, e5]
    have kb : ∀ i, u.cell? ⟨g, i, none⟩ = #[Value.slice sx.l.Ao x.e.out.length sx.l.co, .int .i64 x.e.base, .bool x.e.closed, .bool x.e.done, .slice sx.l.Ai x.e.inn.length sx.l.ci, .int .i64 x.e.next, .bool x.e.ended, .bool x.e.due, .slice sy.l.Ao y.e.out.length sy.l.co, .int .i64 y.e.base, .bool y.e.closed, .bool y.e.done, .slice sy.l.Ai y.e.inn.length sy.l.ci, .int .i64 y.e.next, .bool y.e.ended, .bool y.e.due, .slice sx.P x.sent.length sx.c, .slice sy.P y.sent.length sy.c, .string ⟨x.wr.toArray⟩, .string ⟨y.wr.toArray⟩, .string ⟨x.rd.toArray⟩, .string ⟨y.rd.toArray⟩, .bool x.over, .bool y.over, .bool wrong][i]? := fun i => (HBW.out.onlyNil hI).cell i
    have fb : ∀ i, u.frozen? ⟨g, i, none⟩ = false := fun i => (HBW.out.onlyNil hI).frozen i
    have hL4 : LK (putE 0 u g lf a) B0 g 0 { x with e := a } { sx with l := lf } y sy wrong := (HC3.out.onlyNil hI).end_ (HLF.out.next hI)
    have hO4 : Only (One g) wc (putE 0 u g lf a) := hI.any.then_ (putE_only _ _ _ _ _)
    have HL4 := Lib.hid hL4
    have HO4 := Lib.hid hO4
    clear hL4 hO4 hA hL hI e2 e5
    go_wp2_with fail
    refine bodyPost_end (v := .tuple #[]) (by simp [results, Try.results30, go_sem]) rfl ?_
    have hfin : ∀ u', u' = putE 0 u g lf a → DoPost 2 n d 0 B0 g x y sy wrong w (.returned (.tuple #[])) u' := fun u' hu => by
      rw [hu]
      exact ⟨⟨_, rfl⟩, ⟨_, by rw [HST.out]; exact HL4.out⟩, HO3.out.any.trans HO4.out (fun x hx => .inl (by have := HC.out.new; unfold One at hx; omega))⟩
    exact hfin _ rfl

set_option maxRecDepth 100000 in
set_option maxHeartbeats 8000000 in
theorem do_close1 (kd sd nn : Int) (D : Option Addr) (cd : Nat) (d : List UInt8) (n : Nat) (B0 g : Nat) (x y : Sd) (sx sy : SC) (wrong : Bool) (w : World) (hk : kd % 6 = 2) (hs : sd % 2 = 1) (hkd : 0 ≤ kd ∧ kd ≤ 255) (hsd : 0 ≤ sd ∧ sd ≤ 255) (hn : nn = n) (hn8 : n ≤ 255)
    (h : LK w B0 g 1 x sx y sy wrong) (hB : B0 ≤ w.heap.size) (hd : Bs w w.heap.size D d) (hdl : d.length ≤ 200) :
    Calls Try.prog 30 #[.pointer (some ⟨g, 0, none⟩), .agg #[.int .u8 kd, .int .u8 sd, .int .u8 nn, .slice D d.length cd]] w (DoPost 2 n d 1 B0 g x y sy wrong w) := by
  have H := Lib.hid h
  have HD := Lib.hid hd
  have HBB := Lib.hid hB
  have HDL := Lib.hid hdl
  have HGL := Lib.hid h.box.lt
  have hE := h.fx.eb
  have hbx := h.box
  unfold larr at hbx
  rw [if_neg (by decide)] at hbx
  have HBX := Lib.hid hbx
  obtain ⟨w1, hw1⟩ : ∃ w1, w1 = w.alloc (.cells #[.int .u8 kd, .int .u8 sd, .int .u8 nn, .slice D d.length cd] 70) := ⟨_, rfl⟩
  have hO1 : Only Nil w w1 := by rw [hw1]; exact (Only.refl _ _).alloc _
  have HA := Lib.hid (show Blk w1 w.heap.size 70 #[.int .u8 kd, .int .u8 sd, .int .u8 nn, .slice D d.length cd] by rw [hw1]; exact Blk.new _ _ _)
  have HO1 := Lib.hid hO1
  have HN := Lib.hid hn
  have HN8 := Lib.hid hn8
  have ht1 : kd.tmod 6 = 2 := by rw [Int.tmod_eq_emod_of_nonneg hkd.1, hk]
  have ht2 : sd.tmod 2 = 1 := by rw [Int.tmod_eq_emod_of_nonneg hsd.1, hs]
  clear h hd hB hdl hbx hO1 hn hn8 hkd hsd
  obtain ⟨a, cn, hce⟩ : ∃ a cn, closeE x.e = (a, cn) := ⟨_, _, rfl⟩
  have HCE := Lib.hid hce
  have HCL := Lib.hid (fun w' hE => close_any sx.l x.e w' hE)
  rw [hce] at HCL
  clear hce
  go_enter Try.func30, Try.ntmps30
  go_upto_region 1 with fail
  rw [← hw1]
  clear hw1
  have ka : ∀ i, w1.cell? ⟨w.heap.size, i, none⟩ = #[Value.int .u8 kd, .int .u8 sd, .int .u8 nn, .slice D d.length cd][i]? := fun i => HA.out.cell i
  have kb : ∀ i, w1.cell? ⟨g, i, none⟩ = #[Value.slice sy.l.Ao y.e.out.length sy.l.co, .int .i64 y.e.base, .bool y.e.closed, .bool y.e.done, .slice sy.l.Ai y.e.inn.length sy.l.ci, .int .i64 y.e.next, .bool y.e.ended, .bool y.e.due, .slice sx.l.Ao x.e.out.length sx.l.co, .int .i64 x.e.base, .bool x.e.closed, .bool x.e.done, .slice sx.l.Ai x.e.inn.length sx.l.ci, .int .i64 x.e.next, .bool x.e.ended, .bool x.e.due, .slice sy.P y.sent.length sy.c, .slice sx.P x.sent.length sx.c, .string ⟨y.wr.toArray⟩, .string ⟨x.wr.toArray⟩, .string ⟨y.rd.toArray⟩, .string ⟨x.rd.toArray⟩, .bool y.over, .bool x.over, .bool wrong][i]? := fun i => (HBX.out.onlyNil HO1.out).cell i
  go_upto_region 2 with fail
  go_cut [5] (fun pe wd => ∃ ge, pe = .pointer (some ⟨ge, 0, none⟩) ∧ Blk wd ge 29 (earr sx.l x.e) ∧ w.heap.size ≤ ge ∧ Only Nil w1 wd)
  case first =>
    go_wp2_with fail
    go_meet
    case rel => exact ⟨w1.heap.size, rfl, Blk.new _ _ _, HO1.out.size, (Only.refl _ _).alloc _⟩
  case rest =>
  obtain ⟨ge, rfl, hY, hge, hOc⟩ := hcut
  have HY := Lib.hid hY
  have HC := Lib.hid (H.out.onlyNil (HO1.out.thenNil hOc))
  have HA2 := Lib.hid (HA.out.onlyNil hOc)
  have HO2 := Lib.hid (HO1.out.thenNil hOc)
  have HGE := Lib.hid (show ge ≠ g by have := HGL.out; omega)
  clear ka kb hOc hge
  have ka : ∀ i, wc.cell? ⟨w.heap.size, i, none⟩ = #[Value.int .u8 kd, .int .u8 sd, .int .u8 nn, .slice D d.length cd][i]? := fun i => HA2.out.cell i
  have ke : ∀ i, wc.cell? ⟨ge, i, none⟩ = #[Value.slice sx.l.Ao x.e.out.length sx.l.co, .int .i64 x.e.base, .bool x.e.closed, .bool x.e.done, .slice sx.l.Ai x.e.inn.length sx.l.ci, .int .i64 x.e.next, .bool x.e.ended, .bool x.e.due][i]? := fun i => hY.cell i
  clear hY
  go_upto_region 17 with fail
  go_cut [11, 12] (fun pe q wd => ∃ gf, pe = .pointer (some ⟨gf, 0, none⟩) ∧ q = .int .i64 cn ∧ EBox 29 wd gf a ∧ w.heap.size ≤ gf ∧ Only Nil wc wd)
  case first =>
    go_wp2_with fail
    refine (HCL.out _ HC.out.fx.eb).mono ?_
    rintro e5 u5 ⟨l5, rfl, hE5, hO5⟩
    go_wp2_with fail
    go_meet
    case rel => exact ⟨u5.heap.size, rfl, rfl, EBox.new _ hE5, Nat.le_trans HO2.out.size hO5.size, hO5.alloc _⟩
  case rest =>
  obtain ⟨gf, rfl, rfl, hEf, hgf, hO5⟩ := hcut
  obtain ⟨lf, hbf, hlf⟩ := hEf
  have HGF := Lib.hid (show gf ≠ g by have := HGL.out; omega)
  have HC3 := Lib.hid (HC.out.onlyNil hO5)
  have HA3 := Lib.hid (HA2.out.onlyNil hO5)
  have HO3 := Lib.hid (HO2.out.thenNil hO5)
  have HLF := Lib.hid hlf
  have HBF := Lib.hid hbf
  clear ka ke hbf hlf hO5 hgf
  by_cases hcn : cn = 0
  rotate_left
  · have HST : Hid ((stepS 2 n d (1 : Nat) x y).1 = x) := Lib.hid (by
      unfold stepS
      rw [if_neg (by decide), if_neg (by decide), if_pos rfl, HCE.out]
      dsimp only
      rw [if_neg hcn])
    have hcb : (cn == 0) = false := beq_false_of_ne hcn
    go_wp2_with fail
    refine bodyPost_end (v := .tuple #[]) (by simp [results, Try.results30, go_sem]) rfl ?_
    exact ⟨⟨_, rfl⟩, ⟨sx, by rw [HST.out]; exact HC3.out⟩, HO3.out.any⟩
  have HST : Hid ((stepS 2 n d (1 : Nat) x y).1 = { x with e := a }) := Lib.hid (by
      unfold stepS
      rw [if_neg (by decide), if_neg (by decide), if_pos rfl, HCE.out]
      dsimp only
      rw [if_pos hcn])
  subst hcn
  have HBW : Hid (Blk wc g 68 #[Value.slice sy.l.Ao y.e.out.length sy.l.co, .int .i64 y.e.base, .bool y.e.closed, .bool y.e.done, .slice sy.l.Ai y.e.inn.length sy.l.ci, .int .i64 y.e.next, .bool y.e.ended, .bool y.e.due, .slice sx.l.Ao x.e.out.length sx.l.co, .int .i64 x.e.base, .bool x.e.closed, .bool x.e.done, .slice sx.l.Ai x.e.inn.length sx.l.ci, .int .i64 x.e.next, .bool x.e.ended, .bool x.e.due, .slice sy.P y.sent.length sy.c, .slice sx.P x.sent.length sx.c, .string ⟨y.wr.toArray⟩, .string ⟨x.wr.toArray⟩, .string ⟨y.rd.toArray⟩, .string ⟨x.rd.toArray⟩, .bool y.over, .bool x.over, .bool wrong]) := Lib.hid (HBX.out.onlyNil HO3.out)
  go_upto_region 19 with fail
  have HIN : Hid (∀ (L : Nat → Bool) (vs : Nat → Value) (u u' : World), Only Nil u u' → (fun _ _ u => Only Nil wc u) L vs u → (fun _ _ u => Only Nil wc u) L vs u') := Lib.hid (fun L vs u u' hO hI => by
    exact hI.thenNil hO)
  refine wp_region_inv (X := [(0, some 126, []), (1, some 127, []), (2, some 128, []), (3, some 129, [0]), (4, some 130, [3]), (5, some 131, [1, 4])]) (n := 6) (g := 1) (T := Nil) (Ps := [Cst (.pointer (some ⟨g, 0, none⟩)), Cst (.int .i64 1), Cst (.agg #[Value.slice lf.Ao a.out.length lf.co, .int .i64 a.base, .bool a.closed, .bool a.done, .slice lf.Ai a.inn.length lf.ci, .int .i64 a.next, .bool a.ended, .bool a.due]), Cst (.pointer (some ⟨g, 0, none⟩)), Cst (.pointer (some ⟨g, 0, none⟩)), Cst (.pointer (some ⟨g, 8, none⟩))])
    (I := fun _ _ u => Only Nil wc u)
    (by kernel_rfl) (by kernel_rfl) (by kernel_rfl) (by kernel_rfl) rfl ?st_2 ?i0_2 ?step_2 ?fin_2
  case st_2 =>
    have hT : ∀ x, (Nil) x → x < 0 := fun x h => h.elim
    intro p hp
    simp only [List.mem_cons, List.not_mem_nil, or_false] at hp
    rcases hp with rfl | rfl | rfl | rfl | rfl | rfl <;> first | exact Stays.cst _ | exact Stays.own hT | exact Stays.emp hT | exact Stays.any
  case i0_2 =>
    intro vs
    exact (Only.refl _ _).drew
  case step_2 =>
    intro x hx L vs u hI hA h0 hd
    simp only [List.mem_cons, List.not_mem_nil, or_false] at hx
    rcases hx with rfl | rfl | rfl | rfl | rfl | rfl
    · refine inv_step _ (by rfl) (by rfl) (fun K' hK => ?_)
      simp only [putAll, Act.put, List.setIfInBounds_toArray, List.set_cons_succ, List.set_cons_zero] at hK ⊢
      go_simp
      exact hK _ _ ⟨Only.refl _ _, hI, rfl⟩
    · refine inv_step _ (by rfl) (by rfl) (fun K' hK => ?_)
      simp only [putAll, Act.put, List.setIfInBounds_toArray, List.set_cons_succ, List.set_cons_zero] at hK ⊢
      go_simp
      exact hK _ _ ⟨Only.refl _ _, hI, rfl⟩
    · refine inv_step _ (by rfl) (by rfl) (fun K' hK => ?_)
      simp only [putAll, Act.put, List.setIfInBounds_toArray, List.set_cons_succ, List.set_cons_zero] at hK ⊢
      have kf : ∀ i, u.cell? ⟨gf, i, none⟩ = #[Value.slice lf.Ao a.out.length lf.co, .int .i64 a.base, .bool a.closed, .bool a.done, .slice lf.Ai a.inn.length lf.ci, .int .i64 a.next, .bool a.ended, .bool a.due][i]? := fun i => (HBF.out.onlyNil hI).cell i
      go_simp
      exact hK _ _ ⟨Only.refl _ _, hI, rfl⟩
    · refine inv_step _ (by rfl) (by rfl) (fun K' hK => ?_)
      simp only [putAll, Act.put, List.setIfInBounds_toArray, List.set_cons_succ, List.set_cons_zero] at hK ⊢
      have e0 := hA 0 (hd 0 (by simp))
      change vs 0 = (.pointer (some ⟨g, 0, none⟩)) at e0
      simp only [e0] at hK
      go_simp
      exact hK _ _ ⟨Only.refl _ _, hI, rfl⟩
    · refine inv_step _ (by rfl) (by rfl) (fun K' hK => ?_)
      simp only [putAll, Act.put, List.setIfInBounds_toArray, List.set_cons_succ, List.set_cons_zero] at hK ⊢
      have e3 := hA 3 (hd 3 (by simp))
      change vs 3 = (.pointer (some ⟨g, 0, none⟩)) at e3
      simp only [e3] at hK
      go_simp
      exact hK _ _ ⟨Only.refl _ _, hI, rfl⟩
    · refine inv_step _ (by rfl) (by rfl) (fun K' hK => ?_)
      simp only [putAll, Act.put, List.setIfInBounds_toArray, List.set_cons_succ, List.set_cons_zero] at hK ⊢
      have e1 := hA 1 (hd 1 (by simp))
      change vs 1 = (.int .i64 1) at e1
      have e4 := hA 4 (hd 4 (by simp))
      change vs 4 = (.pointer (some ⟨g, 0, none⟩)) at e4
      simp only [e1, e4] at hK
      go_simp
      exact hK _ _ ⟨Only.refl _ _, hI, rfl⟩
  case fin_2 =>
    intro L vs u hI hL hA
    simp only [putAll, Act.put, List.setIfInBounds_toArray, List.set_cons_succ, List.set_cons_zero, List.drop_succ_cons, List.drop_zero]
    have e2 := hA 2 (by omega)
    change vs 2 = .agg #[Value.slice lf.Ao a.out.length lf.co, .int .i64 a.base, .bool a.closed, .bool a.done, .slice lf.Ai a.inn.length lf.ci, .int .i64 a.next, .bool a.ended, .bool a.due] at e2
    have e5 := hA 5 (by omega)
    change vs 5 = .pointer (some ⟨g, 8, none⟩) at e5
    simp only [e2, e5]
    have kb : ∀ i, u.cell? ⟨g, i, none⟩ = #[Value.slice sy.l.Ao y.e.out.length sy.l.co, .int .i64 y.e.base, .bool y.e.closed, .bool y.e.done, .slice sy.l.Ai y.e.inn.length sy.l.ci, .int .i64 y.e.next, .bool y.e.ended, .bool y.e.due, .slice sx.l.Ao x.e.out.length sx.l.co, .int .i64 x.e.base, .bool x.e.closed, .bool x.e.done, .slice sx.l.Ai x.e.inn.length sx.l.ci, .int .i64 x.e.next, .bool x.e.ended, .bool x.e.due, .slice sy.P y.sent.length sy.c, .slice sx.P x.sent.length sx.c, .string ⟨y.wr.toArray⟩, .string ⟨x.wr.toArray⟩, .string ⟨y.rd.toArray⟩, .string ⟨x.rd.toArray⟩, .bool y.over, .bool x.over, .bool wrong][i]? := fun i => (HBW.out.onlyNil hI).cell i
    have fb : ∀ i, u.frozen? ⟨g, i, none⟩ = false := fun i => (HBW.out.onlyNil hI).frozen i
    have hL4 : LK (putE 1 u g lf a) B0 g 1 { x with e := a } { sx with l := lf } y sy wrong := (HC3.out.onlyNil hI).end_ (HLF.out.next hI)
    have hO4 : Only (One g) wc (putE 1 u g lf a) := hI.any.then_ (putE_only _ _ _ _ _)
    have HL4 := Lib.hid hL4
    have HO4 := Lib.hid hO4
    clear hL4 hO4 hA hL hI e2 e5
    go_wp2_with fail
    refine bodyPost_end (v := .tuple #[]) (by simp [results, Try.results30, go_sem]) rfl ?_
    have hfin : ∀ u', u' = putE 1 u g lf a → DoPost 2 n d 1 B0 g x y sy wrong w (.returned (.tuple #[])) u' := fun u' hu => by
      rw [hu]
      exact ⟨⟨_, rfl⟩, ⟨_, by rw [HST.out]; exact HL4.out⟩, HO3.out.any.trans HO4.out (fun x hx => .inl (by have := HC.out.new; unfold One at hx; omega))⟩
    exact hfin _ rfl


end Go.Proofs.Ytfichoekjjcjiaa
