/-
  wire.String of "ab"; Int of a reader over 128, 0: it fails.
  Conditions: the reader stands at its beginning.
-/
import Derived.Test.YtbhgaaendekghaaWnA
import Derived.Lib.AppendStr
namespace Go.Proofs.Ytbhgaaendekghaa
open Go.RowKit

theorem enc64 : encI 64 = [128, 1] := by
  unfold encI
  rw [show zig 64 = 128 from rfl, encU_big (by decide), encU_small (by decide)]
  rfl
theorem encM1 : encI (-1) = [1] := by
  unfold encI
  rw [show zig (-1) = 1 from rfl, encU_small (by decide)]
  rfl
theorem enc2 : encI 2 = [4] := by
  unfold encI
  rw [show zig 2 = 4 from rfl, encU_small (by decide)]
  rfl

theorem string_ab (w : World) : Calls Try.prog 32 #[.slice none 0 0, .string ⟨#[97, 98]⟩] w fun e w' => ∃ A c, e = .returned (.slice A 3 c) ∧ Bs w' w'.heap.size A [4, 97, 98] ∧ Only Nil w w' := by
  obtain ⟨i0, hi0, hz0, hz1, hz2⟩ := info_parts byte_info
  have hi := int_any none 0 w.heap.size [] 2 w (Nat.le_refl _) (World.ownsRow_nil _ _ _ _) (by simp) (by omega)
  rw [enc2] at hi
  have HI := Lib.hid hi
  clear hi
  go_enter Try.func32, Try.ntmps32
  go_wp2_with fail
  refine HI.out.mono ?_
  rintro e w1 ⟨A, c, rfl, hc, hown, hq, hO⟩
  have hown : w1.ownsRow w.heap.size 5 1 (.slice A 1 c) 1 (bcells [4]) := hown
  have HOW := Lib.hid hown
  have hO1 : Only Nil w w1 := hO.more (fun x hx => by cases hx)
  have HO := Lib.hid hO1
  clear hown hO hO1 hq hc
  go_wp2_with (at_builtin; go_must (refine Lib.wpList_append_own_string _ rfl (.tmp 8) (.tmp 9) _ _ rfl w.heap.size 5 i0 Try.underlying22 Try.underlying9 hi0 hz0 hz1 hz2 (.slice A 1 c) 1 (bcells [4]) rfl ?qown ⟨#[97, 98]⟩ rfl ?q63 ?qby ?qbase ?_))
  case qown => exact HOW.out
  case q63 => decide
  case qby => decide
  case qbase => exact HO.out.size
  intro v4 w4 hown4 hgr4 hat4
  obtain ⟨A4, c4, rfl, hc4⟩ := own_form hown4
  have hO4 : Only Nil w w4 := HO.out.trans (Only.of_grown hgr4) (fun x hx => .inr (ownBlock_ge HOW.out hx))
  have hb4 : Bs w4 w4.heap.size A4 [4, 97, 98] := (Bs.of_own (l := [4, 97, 98]) hown4).1
  have HO4 := Lib.hid hO4
  have HB4 := Lib.hid hb4
  clear hO4 hb4 hown4 hgr4 hat4
  go_wp2_with fail
  go_ret
  exact ⟨A4, c4, rfl, HB4.out, HO4.out⟩

set_option maxRecDepth 100000 in
set_option maxHeartbeats 2000000 in
theorem int_bad (p : Nat) (A : Option Addr) (c : Nat) (w : World) (h : RD w p A c [128, 0] 0 false) (hc : 2 ≤ c) :
    Calls Try.prog 62 #[.pointer (some ⟨p, 0, none⟩)] w fun e w' => e = .returned (.tuple #[.int .i64 0, .bool false]) ∧ Blk w' p 96 #[.slice A 2 c, .int .i64 2, .bool false] ∧ Only (One p) w w' := by
  obtain ⟨g, off, rfl, _, c0⟩ := h.bytes.at_ (i := 0) (b := 128) rfl
  obtain ⟨g', off', e', _, c1⟩ := h.bytes.at_ (i := 1) (b := 0) rfl
  injection e' with e'
  injection e' with e1 e2 _
  subst e1 e2
  have hne : g ≠ p := by
    rintro rfl
    have c0 := c0
    rw [h.box.cell] at c0
    match off, c0 with
    | 0, c0 => injection c0 with c0; cases c0
    | 1, c0 => injection c0 with c0; cases c0
    | 2, c0 => injection c0 with c0; cases c0
    | n + 3, c0 => rw [Array.getElem?_eq_none (by show 3 ≤ n + 3 + 0; omega)] at c0; cases c0
  have hne' : p ≠ g := fun h => hne h.symm
  have c0 : w.cell? ⟨g, off, none⟩ = some (.int .u8 128) := c0
  have c1 : w.cell? ⟨g, off + 1, none⟩ = some (.int .u8 0) := c1
  have kb : ∀ i, w.cell? ⟨p, i, none⟩ = #[Value.slice (some ⟨g, off, none⟩) 2 c, .int .i64 0, .bool false][i]? := fun i => h.box.cell i
  have fb : ∀ i, w.frozen? ⟨p, i, none⟩ = false := fun i => h.box.frozen i
  have HBX := Lib.hid h.box
  clear h
  go_enter Try.func62, Try.ntmps62
  go_wp2_with fail
  refine wp_loop_rounds 2 ?_
  rw [rounds_succ]
  go_wp2_with fail
  go_quiet (fail)
  go_wp2_with fail
  go_quiet (fail)
  go_wp2_with fail
  rw [rounds_succ]
  go_wp2_with fail
  go_quiet (fail)
  go_wp2_with fail
  go_quiet (fail)
  go_wp2_with fail
  refine bodyPost_ret (v := .tuple #[.int .i64 0, .bool false]) (by simp [results, Try.results62, go_sem]) rfl ?_
  refine ⟨rfl, (HBX.out.set_ 1 _).set_ 1 _, ?_⟩
  (repeat' (first | with_reducible exact Only.refl _ _ | with_reducible refine Only.setCell ?_ (Or.inl ?_) _ | with_reducible refine Only.drewN ?_ _ | with_reducible refine Only.drew ?_ | with_reducible refine Only.alloc ?_ _ | (exact rfl)))

set_option maxRecDepth 100000 in
theorem clo_bad (p g1 g2 : Nat) (A : Option Addr) (c : Nat) (w : World) (h : RD w p A c [128, 0] 0 false) (hc : 2 ≤ c) (b1 : Blk w g1 53 #[.pointer (some ⟨p, 0, none⟩)]) (b2 : Blk w g2 3 #[.int .i64 0]) :
    Calls Try.prog 61 #[.pointer (some ⟨g1, 0, none⟩), .pointer (some ⟨g2, 0, none⟩)] w fun e w' => e = .returned (.bool false) ∧ Blk w' p 96 #[.slice A 2 c, .int .i64 2, .bool false] ∧ Blk w' g2 3 #[.int .i64 0] ∧ Only (Two p g2) w w' := by
  have n2 : g2 ≠ p := b2.ne_ h.box (by decide)
  have HH := Lib.hid h
  have B2 := Lib.hid b2
  have k1 : w.cell? ⟨g1, 0, none⟩ = some (.pointer (some ⟨p, 0, none⟩)) := b1.cell 0
  clear h b1 b2
  go_enter Try.func61, Try.ntmps61
  go_wp2_with fail
  refine (int_bad p A c _ HH.out hc).mono ?_
  rintro e w1 ⟨rfl, hb, hO⟩
  have hb2 := B2.out.only hO (fun hx => n2 hx)
  have k2 : w1.cell? ⟨g2, 0, none⟩ = some (.int .i64 0) := hb2.cell 0
  have f2 : w1.frozen? ⟨g2, 0, none⟩ = false := hb2.frozen 0
  have HB := Lib.hid hb
  have HB2 := Lib.hid hb2
  have HO := Lib.hid hO
  clear hb hb2 hO
  go_wp2_with fail
  go_ret
  refine ⟨rfl, HB.out.far (fun h => n2 h.symm) _, HB2.out.set_ 0 _, (HO.out.more (fun x hx => .inl hx)).then_ ?_⟩
  (repeat' (first | with_reducible exact Only.refl _ _ | with_reducible refine Only.setCell ?_ (Or.inl ?_) _ | with_reducible refine Only.drewN ?_ _ | with_reducible refine Only.drew ?_ | with_reducible refine Only.alloc ?_ _ | (exact .inr rfl)))

set_option maxRecDepth 100000 in
set_option maxHeartbeats 1000000 in
theorem try_bad (p g1 g2 : Nat) (A : Option Addr) (c : Nat) (w : World) (h : RD w p A c [128, 0] 0 false) (hc : 2 ≤ c) (b1 : Blk w g1 53 #[.pointer (some ⟨p, 0, none⟩)]) (b2 : Blk w g2 3 #[.int .i64 0]) :
    Calls Try.prog 60 #[.pointer (some ⟨p, 0, none⟩), .func (Fn.func 61) #[] #[.pointer (some ⟨g1, 0, none⟩), .pointer (some ⟨g2, 0, none⟩)]] w fun e w' => (∃ v, e = .returned v) ∧ Blk w' p 96 #[.slice A 2 c, .int .i64 0, .bool true] ∧ Blk w' g2 3 #[.int .i64 0] ∧ Only (Two p g2) w w' := by
  have n2 : g2 ≠ p := b2.ne_ h.box (by decide)
  have hcl := clo_bad p g1 g2 A c w h hc b1 b2
  have HCL := Lib.hid hcl
  have kb : ∀ i, w.cell? ⟨p, i, none⟩ = #[Value.slice A 2 c, .int .i64 0, .bool false][i]? := fun i => h.box.cell i
  clear hcl h b1 b2
  go_enter Try.func60, Try.ntmps60
  go_wp2_with fail
  refine HCL.out.mono ?_
  rintro e w1 ⟨rfl, hb, hb2, hO⟩
  have kb1 : ∀ i, w1.cell? ⟨p, i, none⟩ = #[Value.slice A 2 c, .int .i64 2, .bool false][i]? := fun i => hb.cell i
  have fb1 : ∀ i, w1.frozen? ⟨p, i, none⟩ = false := fun i => hb.frozen i
  have HB := Lib.hid hb
  have HB2 := Lib.hid hb2
  have HO := Lib.hid hO
  clear hb hb2 hO
  go_wp2_with fail
  refine bodyPost_end (v := .tuple #[]) (by simp [results, Try.results60, go_sem]) rfl ?_
  refine ⟨⟨_, rfl⟩, (HB.out.set_ 1 _).set_ 2 _, (HB2.out.far n2 _).far n2 _, HO.out.then_ ?_⟩
  (repeat' (first | with_reducible exact Only.refl _ _ | with_reducible refine Only.setCell ?_ (Or.inl ?_) _ | with_reducible refine Only.drewN ?_ _ | with_reducible refine Only.drew ?_ | with_reducible refine Only.alloc ?_ _ | (exact .inl rfl)))

set_option maxRecDepth 100000 in
set_option maxHeartbeats 1000000 in
theorem rint_bad (p : Nat) (A : Option Addr) (c : Nat) (w : World) (h : RD w p A c [128, 0] 0 false) (hc : 2 ≤ c) :
    Calls Try.prog 24 #[.pointer (some ⟨p, 0, none⟩)] w fun e w' => e = .returned (.int .i64 0) ∧ Blk w' p 96 #[.slice A 2 c, .int .i64 0, .bool true] ∧ Only (One p) w w' := by
  have hp := h.box.lt
  have hOA : Only Nil w ((w.alloc (.cells #[.pointer (some ⟨p, 0, none⟩)] 53)).alloc (.cells #[.int .i64 0] 3)) := ((Only.refl _ _).alloc _).alloc _
  have ht := try_bad p w.heap.size (w.heap.size + 1) A c _ ⟨h.box.onlyNil hOA, (h.bytes.onlyNil hOA (Nat.le_refl _)).up hOA.size⟩ hc ((Blk.new w _ _).alloc _) (by have := Blk.new (w.alloc (.cells #[.pointer (some ⟨p, 0, none⟩)] 53)) 3 #[.int .i64 0]; rw [World.size_alloc] at this; exact this)
  have HT := Lib.hid ht
  clear ht h hOA
  go_enter Try.func24, Try.ntmps24
  go_wp2_with fail
  refine HT.out.mono ?_
  rintro e w1 ⟨⟨v, rfl⟩, hb, hb2, hO⟩
  have k2 : w1.cell? ⟨w.heap.size + 1, 0, none⟩ = some (.int .i64 0) := hb2.cell 0
  have f2 : w1.frozen? ⟨w.heap.size + 1, 0, none⟩ = false := hb2.frozen 0
  have HB := Lib.hid hb
  have HO := Lib.hid hO
  clear hb hb2 hO
  go_wp2_with fail
  refine bodyPost_ret (v := .int .i64 0) (by simp [results, Try.results24, go_sem, k2]) rfl ?_
  refine ⟨rfl, HB.out.far (show p ≠ w.heap.size + 1 by omega) _, ?_⟩
  have hO1 : Only (One p) w w1 := (((Only.refl _ _).alloc _).alloc _).trans HO.out (fun x hx => by rcases hx with hx | hx; exact .inl hx; exact .inr (by omega))
  refine hO1.trans (S' := One (w.heap.size + 1)) ?_ (fun x hx => .inr (by unfold One at hx; omega))
  (repeat' (first | with_reducible exact Only.refl _ _ | with_reducible refine Only.setCell ?_ (Or.inl ?_) _ | with_reducible refine Only.drewN ?_ _ | with_reducible refine Only.drew ?_ | with_reducible refine Only.alloc ?_ _ | (exact rfl)))

end Go.Proofs.Ytbhgaaendekghaa
