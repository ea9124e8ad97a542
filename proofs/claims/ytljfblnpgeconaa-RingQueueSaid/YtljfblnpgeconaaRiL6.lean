/-
  The law RingQueue: after each call on a message queue the results, Len and the encoding are the specified ones.
  No conditions.
-/
import Derived.Test.YtljfblnpgeconaaRiA
import Derived.Test.YtljfblnpgeconaaRiD3
import Derived.Test.YtljfblnpgeconaaRiN
import Derived.Test.YtljfblnpgeconaaRiQ6
import Derived.Test.YtljfblnpgeconaaMsgS
import Derived.Deep.LoopGhost
import Derived.Deep.CutBlock
import Derived.Deep.RegionHeld3
namespace Go.Proofs.Ytljfblnpgeconaa
open Go.ChangeShapes Go.WideShapes Go.ChangeAt Go.RowKit

namespace ringQueue
def wantR : List (Option Addr × Nat × M) → Option Addr × Nat × M
  | [] => (none, 0, zM)
  | r :: _ => r
theorem first_want {F : Nat → Prop} {rs : List (Option Addr × Nat × M)} {w w' : World} {e : Ending} (h : RFirstPost F rs w e w') : Only Nil w w' ∧ e = .returned (.tuple #[.agg (rcl (wantR rs)).toArray, .bool (!rs.isEmpty)]) := by
  obtain ⟨hO, ⟨rfl, rfl⟩ | ⟨r, rs', rfl, rfl⟩⟩ := h
  · exact ⟨hO, rfl⟩
  · exact ⟨hO, rfl⟩
theorem want_bs {w : World} {F : Nat → Prop} {A : Option Addr} {c : Nat} {rs : List (Option Addr × Nat × M)} (h : ML w F A c rs) : Bs w w.heap.size (wantR rs).1 (wantR rs).2.2.data ∧ (0 < (wantR rs).2.2.data.length → Av F (wantR rs).1) := by
  cases rs with
  | nil => exact ⟨Bs.nil _ _ _, fun h => absurd h (by simp [wantR, zM])⟩
  | cons r rs => exact ⟨(h.data r (by simp)).2.2.2.1, (h.data r (by simp)).2.2.2.2⟩
/-- First of the repository's queue, said like the reference's. -/
def GotPost (m : M) (b : Bool) (w : World) (e : Ending) (w' : World) : Prop := ∃ A c, e = .returned (.tuple #[.agg (mcells A c m).toArray, .bool b]) ∧ Bs w' w'.heap.size A m.data
theorem qfirst_got {F : Nat → Prop} {p size : Nat} {rs : List (Option Addr × Nat × M)} (w : World) (h : QU w F p size (rs.map fun r => r.2.2)) : Calls Try.prog 27 #[.pointer (some ⟨p, 0, none⟩)] w fun e w' => GotPost (wantR rs).2.2 (!rs.isEmpty) w e w' ∧ Only Nil w w' := by
  refine (qfirst_any w h).mono ?_
  rintro e w' ⟨h1, h2, h3⟩
  cases rs with
  | nil => exact ⟨⟨none, 0, h1 rfl, Bs.nil _ _ _⟩, h3⟩
  | cons r rs =>
    obtain ⟨A, c, e1, _, e3⟩ := h2 _ _ rfl
    exact ⟨⟨A, c, e1, (Bs.of_own e3).1⟩, h3⟩
theorem qtake_got {F : Nat → Prop} {p size : Nat} {rs : List (Option Addr × Nat × M)} (w : World) (h : QU w F p size (rs.map fun r => r.2.2)) : Calls Try.prog 25 #[.pointer (some ⟨p, 0, none⟩)] w fun e w' => GotPost (wantR rs).2.2 (!rs.isEmpty) w e w' ∧ QU w' (Fnew F w w') p size (rs.tail.map fun r => r.2.2) ∧ Only F w w' := by
  refine (qtake_any w h).mono ?_
  rintro e w' ⟨h1, h2, h3, h4⟩
  rw [← List.map_tail] at h3
  cases rs with
  | nil => exact ⟨⟨none, 0, h1 rfl, Bs.nil _ _ _⟩, h3, h4⟩
  | cons r rs =>
    obtain ⟨A, c, e1, _, e3⟩ := h2 _ _ rfl
    exact ⟨⟨A, c, e1, e3⟩, h3, h4⟩

theorem RU.next {w wr wf : World} {p gp n : Nat} {F F' : Nat → Prop} {rs rs' : List (Option Addr × Nat × M)} {A A' : Option Addr} {c c' : Nat} (h : RU w wr p gp n F rs A c) (hO : Only Nil w wf) (hq : QU wf F' p n (rs'.map fun r => r.2.2))
    (hv : Blk wf gp 73 #[.int .i64 n, .slice A' rs'.length c']) (hm : ML wf (Gp F' gp) A' c' rs') (hs : ∀ r ∈ rs', r.2.2.data.length ≤ 1536) (hg : ¬ F' gp) (hf : ∀ x, F' x → w.heap.size ≤ x) : RU w wf p gp n F' rs' A' c' :=
  ⟨hq, hv, hm, hs, hg, hf, h.gpw, hO⟩

set_option maxRecDepth 100000 in
set_option maxHeartbeats 4000000 in
theorem walk (Ab : Option Addr) (cb : Nat) (b : List UInt8) (A : Option Addr) (cap : Nat) (xs : List QC) (n : Int) (w : World) (hbb : Bs w w.heap.size Ab b) (hbc : b.length ≤ cb) (hbm : cb ≤ maxLen) (hmax : xs.length ≤ maxLen) (hQ : QCs w A xs) :
    Calls Try.prog 9 #[.slice Ab b.length cb, .slice A xs.length cap, .int .i64 n] w (LawPost w) := by
  have hfew : ∀ w', Only Nil w w' → Calls Try.prog 21 #[.slice A xs.length cap] w' (QFewPost xs.length w') := fun w' hO => qfew_any A cap xs w' (hQ.next hO) hmax
  have HBB := Lib.hid hbb
  have HBM := Lib.hid hbm
  have HBC := Lib.hid hbc
  have HQ := Lib.hid hQ
  obtain ⟨len, hlen⟩ : ∃ len, xs.length = len := ⟨_, rfl⟩
  rw [hlen] at hfew hmax ⊢
  have HSH := Lib.hid hfew
  have HL := Lib.hid hlen
  clear hfew hbb hbm hbc hQ hlen
  unfold maxLen at hmax
  by_cases hbl : b.length ≤ 1000
  rotate_left
  · have hd : decide ((1000 : Int) < (b.length : Int)) = true := decide_eq_true (by omega)
    clear hbl
    go_enter Try.func9, Try.ntmps9
    go_wp2_with fail
    refine (awake_any _).mono ?_
    rintro e w1 ⟨rfl, hO1⟩
    have HO1 := Lib.hid hO1
    clear hO1
    go_wp2_with fail
    go_ret
    exact ⟨rfl, HO1.out⟩
  have hd : decide ((1000 : Int) < (b.length : Int)) = false := decide_eq_false (by omega)
  have HBL := Lib.hid hbl
  clear hbl
  go_enter Try.func9, Try.ntmps9
  go_wp2_with fail
  refine (awake_any _).mono ?_
  rintro e w1 ⟨rfl, hO1⟩
  have HO1 := Lib.hid hO1
  clear hO1
  go_wp2_with fail
  refine (HSH.out _ HO1.out).mono ?_
  rintro e w2 ⟨fb, rfl, hfb, rfl⟩
  have HFB := Lib.hid hfb
  clear hfb
  cases fb
  · go_wp2_with fail
    go_ret
    exact ⟨rfl, HO1.out⟩
  have hl40 : len ≤ 40 := HFB.out rfl
  go_wp2_with fail
  refine (newQueue_st n _).mono ?_
  rintro e w3 ⟨q3, er3, rfl, hQ3, hO3⟩
  have HQ3 := Lib.hid (hQ3.base HO1.out.size)
  have HO3 := Lib.hid (HO1.out.thenNil hO3)
  clear hQ3 hO3
  go_wp2_with fail
  refine (Ref.newQ_st n _).mono ?_
  rintro e w4 ⟨m4, B4, k4, c4, er4, rfl, hV4, hO4⟩
  have HV4 := Lib.hid hV4
  have HN4 := Lib.hid hO4
  have HO4 := Lib.hid (HO3.out.thenNil hO4)
  clear hV4 hO4
  obtain ⟨w5, hw5⟩ : ∃ w5, w4.alloc (.cells #[.int .i64 m4, .slice B4 k4 c4] 73) = w5 := ⟨_, rfl⟩
  have hO5 : Only Nil w4 w5 := by rw [← hw5]; exact (Only.refl _ _).alloc _
  have hb5 : Blk w5 w4.heap.size 73 #[.int .i64 m4, .slice B4 k4 c4] := by rw [← hw5]; exact Blk.new _ _ _
  obtain ⟨gp, hgp⟩ : ∃ gp, w4.heap.size = gp := ⟨_, rfl⟩
  have hgw : w.heap.size ≤ gp := by have := HO4.out.size; omega
  have hgw5 : gp < w5.heap.size := by rw [← hgp]; exact hb5.lt
  rw [hgp] at hb5
  have HF5 := Lib.hid (bsu_of (gp := gp) (w := w) HQ3.out (Nat.le_refl _) HV4.out HO3.out HN4.out hgw (.inl ⟨hO5, Nat.le_of_eq hgp⟩) hb5)
  have HO5 := Lib.hid (HO4.out.thenNil hO5)
  have HB5 := Lib.hid hb5
  have HG5 := Lib.hid hgw5
  obtain ⟨r, hr⟩ : ∃ r, (if 0 < b.length then decQu b else newU n) = r := ⟨_, rfl⟩
  obtain ⟨E, hE⟩ : ∃ E : Int, (if 0 < b.length then 4 else 2) = E := ⟨_, rfl⟩
  have hE0 : E ≠ 0 := by rw [← hE]; split <;> decide
  have HRE := Lib.hid (And.intro hr hE)
  have HE0 := Lib.hid hE0
  clear hr hE hE0 hO5 hb5 HQ3 HV4 HO3 HO4 HN4 hgw5
  go_upto_if 46 with fail
  clear hw5 hgp
  go_cut [7, 8, 10] (fun q e f wc => ∃ (er er' m : Int) (B : Option Addr) (k c : Nat), e = .int .i64 er ∧ f = .int .i64 er' ∧ BSu r E w gp q er er' m B k c wc)
  case first =>
    by_cases h0 : 0 < b.length
    · obtain ⟨hr, hE⟩ := HRE.out
      rw [if_pos h0] at hr hE
      subst hr hE
      clear HF5
      go_wp2_with fail
      refine (decQueue_st Ab cb b _ ((HBB.out.onlyNil HO5.out (Nat.le_refl _)).up HO5.out.size) (by have := HBL.out; omega)).mono ?_
      rintro e w6 ⟨q6, er6, rfl, hQ6, hO6⟩
      have HQ6 := Lib.hid hQ6
      have HZ6 := Lib.hid hO6.size
      have HB6 := Lib.hid (HB5.out.onlyNil hO6)
      have HO6 := Lib.hid (HO5.out.thenNil hO6)
      clear hQ6 hO6
      go_wp2_with fail
      refine (Ref.decQueue_st Ab cb b _ ((HBB.out.onlyNil HO6.out (Nat.le_refl _)).up HO6.out.size) (by have := HBL.out; omega) HBC.out HBM.out).mono ?_
      rintro e w7 ⟨m7, B7, k7, c7, er7, rfl, hV7, hO7⟩
      have hb7 := HB6.out.onlyNil hO7
      have f7 : ∀ i, w7.frozen? ⟨gp, i, none⟩ = false := fun i => hb7.frozen i
      have g7 : ∀ i, w7.cell? ⟨gp, i, none⟩ = #[Value.int .i64 m4, .slice B4 k4 c4][i]? := fun i => hb7.cell i
      have hS7 : Only (One gp) w7 ((w7.setCell ⟨gp, 0, none⟩ (.int .i64 m7)).setCell ⟨gp, 1, none⟩ (.slice B7 k7 c7)) := ((Only.refl _ _).setCell (p := ⟨gp, 0, none⟩) (Or.inl (show One gp gp from rfl)) _).setCell (p := ⟨gp, 1, none⟩) (Or.inl (show One gp gp from rfl)) _
      have hb8 : Blk ((w7.setCell ⟨gp, 0, none⟩ (.int .i64 m7)).setCell ⟨gp, 1, none⟩ (.slice B7 k7 c7)) gp 73 #[.int .i64 m7, .slice B7 k7 c7] := by
        have := (hb7.set_ 0 (.int .i64 m7)).set_ 1 (.slice B7 k7 c7)
        simpa using this
      have HF := Lib.hid (bsu_of HQ6.out HO5.out.size hV7 HO6.out hO7 hgw (.inr ⟨HG5.out, HZ6.out, _, hb7, hS7⟩) hb8)
      clear hV7 hO7 hb7 hS7 hb8
      go_wp2_with fail
      go_meet
      case rel => exact ⟨er6, er7, m7, B7, k7, c7, rfl, rfl, HF.out⟩
    · obtain ⟨hr, hE⟩ := HRE.out
      rw [if_neg h0] at hr hE
      subst hr hE
      go_wp2_with fail
      go_meet
      case rel => exact ⟨er3, er4, m4, B4, k4, c4, rfl, rfl, HF5.out⟩
  case rest =>
    obtain ⟨er, er', m, B, k, c, rfl, rfl, hS⟩ := hcut
    clear HF5 HB5 HO5 HG5
    rcases r with _ | ⟨nn, ms0⟩
    · obtain ⟨rfl, e1, e2, hO⟩ := hS
      subst er er'
      have HO := Lib.hid hO
      have he1 : (E != E) = false := by simp
      have he2 : (E != 0) = true := by simpa using HE0.out
      have he3 : (E == 0) = false := by simpa using HE0.out
      clear hO
      go_wp2_with fail
      refine wp_loop_rounds 1 ?_
      rw [rounds_succ]
      go_wp2_with fail
      all_goals
        go_ret
        exact ⟨rfl, HO.out⟩
    · obtain ⟨rfl, rfl, rfl, rfl, p, F0, rs0, rfl, hms, hL⟩ := hS
      have HL0 := Lib.hid hL
      clear hL hms
      go_wp2_with fail
      go_loopw [11] (fun i wr => ∃ (k : Nat) (F : Nat → Prop) (rs : List (Option Addr × Nat × M)) (B : Option Addr) (c : Nat), k ≤ len ∧ i = .int .i64 k ∧ RU w wr p gp nn F rs B c) (fun i _ => len - (intOf i).toNat)
      case atStart => exact ⟨0, F0, rs0, B, c, Nat.zero_le _, rfl, HL0.out⟩
      case round =>
        obtain ⟨k, F, rs, B, c, hk, rfl, hL⟩ := hrel
        have HI := Lib.hid hL
        clear HL0 hL
        by_cases hlt : k < len
        · obtain ⟨x, hx⟩ : ∃ x, xs[k]? = some x := ⟨xs[k]'(by rw [HL.out]; exact hlt), List.getElem?_eq_getElem _⟩
          obtain ⟨b0, off, rfl, hbw, hc⟩ := (HQ.out.next HI.out.only).at_ hx
          have hok := HQ.out.ok x (List.mem_of_getElem? hx)
          obtain ⟨sk, ss, Am, cm, ⟨s, d, kd, q, a0, a1, a2, a3, x⟩⟩ := x
          have hmok := hok.msg
          unfold QC.cells mcells at hc
          dsimp only at hc hmok
          obtain ⟨X, hX⟩ : ∃ X, x.length = X := ⟨_, rfl⟩
          rw [hX] at hc
          have e0 : wr.cell? ⟨b0, off + k * 11, none⟩ = some (.int .i64 sk) := hc 0 _ rfl
          have e1 : wr.cell? ⟨b0, off + k * 11 + 1, none⟩ = some (.int .i64 ss) := hc 1 _ rfl
          have e2 : wr.cell? ⟨b0, off + k * 11 + 2, none⟩ = some (.int .i64 s) := hc 2 _ rfl
          have e3 : wr.cell? ⟨b0, off + k * 11 + 3, none⟩ = some (.int .i64 d) := hc 3 _ rfl
          have e4 : wr.cell? ⟨b0, off + k * 11 + 4, none⟩ = some (.int .i64 kd) := hc 4 _ rfl
          have e5 : wr.cell? ⟨b0, off + k * 11 + 5, none⟩ = some (.int .i64 q) := hc 5 _ rfl
          have e6 : wr.cell? ⟨b0, off + k * 11 + 6, none⟩ = some (.int .i64 a0) := hc 6 _ rfl
          have e7 : wr.cell? ⟨b0, off + k * 11 + 7, none⟩ = some (.int .i64 a1) := hc 7 _ rfl
          have e8 : wr.cell? ⟨b0, off + k * 11 + 8, none⟩ = some (.int .i64 a2) := hc 8 _ rfl
          have e9 : wr.cell? ⟨b0, off + k * 11 + 9, none⟩ = some (.int .i64 a3) := hc 9 _ rfl
          have e10 : wr.cell? ⟨b0, off + k * 11 + 10, none⟩ = some (.slice Am X cm) := hc 10 _ rfl
          have HMK := Lib.hid hmok
          have HX := Lib.hid hX
          obtain ⟨wa, hwa⟩ : ∃ wa, wa = wr.alloc (.cells #[.int .i64 sk, .int .i64 ss, .int .i64 s, .int .i64 d, .int .i64 kd, .int .i64 q, .int .i64 a0, .int .i64 a1, .int .i64 a2, .int .i64 a3, .slice Am X cm] 50) := ⟨_, rfl⟩
          obtain ⟨gs, hgs⟩ : ∃ gs, gs = wr.heap.size := ⟨_, rfl⟩
          have hOa : Only Nil wr wa := by rw [hwa]; exact (Only.refl _ _).alloc _
          have hba : Blk wa gs 50 #[.int .i64 sk, .int .i64 ss, .int .i64 s, .int .i64 d, .int .i64 kd, .int .i64 q, .int .i64 a0, .int .i64 a1, .int .i64 a2, .int .i64 a3, .slice Am X cm] := by rw [hwa, hgs]; exact Blk.new _ _ _
          have HIa := Lib.hid (HI.out.onlyNil hOa)
          have HSa := Lib.hid hba
          have HWa := Lib.hid hwa
          have HGS := Lib.hid hgs
          obtain ⟨R, hR⟩ : ∃ R, rs.length = R := ⟨_, rfl⟩
          have HR := Lib.hid hR
          have hva := HIa.out.v
          rw [hR] at hva
          have kga : ∀ i, wa.cell? ⟨gp, i, none⟩ = #[Value.int .i64 nn, .slice B R c][i]? := fun i => hva.cell i
          obtain ⟨hrl1, hrl2, hrl3⟩ := HI.out.len
          rw [hR] at hrl1
          have hki : (k : Int) < len := by omega
          have HFI := Lib.hid (Ref.qfirst_any nn (Gp F gp) B c rs wa HIa.out.ml)
          rw [hR] at HFI
          clear hOa hba hwa hgs hc hmok hok hX hx hva hR
          go_upto_region 16 with fail
          rw [← HWa.out, ← HGS.out]
          clear e0 e1 e2 e3 e4 e5 e6 e7 e8 e9 e10 HWa
          go_wp2_with fail
          refine HFI.out.mono ?_
          clear HFI
          intro e wb hpost
          obtain ⟨hOb, rfl⟩ := first_want hpost
          clear hpost
          obtain ⟨Aw, cw, mw, hwant⟩ : ∃ Aw cw mw, wantR rs = (Aw, cw, mw) := ⟨_, _, _, rfl⟩
          have hwb := want_bs (HIa.out.ml.onlyNil hOb)
          rw [hwant] at hwb ⊢
          obtain ⟨is, his⟩ : ∃ is, (!rs.isEmpty) = is := ⟨_, rfl⟩
          rw [his]
          obtain ⟨w6, hw6⟩ : ∃ w6, w6 = wb.alloc (.cells (mcells Aw cw mw).toArray 48) := ⟨_, rfl⟩
          obtain ⟨gw, hgw⟩ : ∃ gw, gw = wb.heap.size := ⟨_, rfl⟩
          have hO6 : Only Nil wb w6 := by rw [hw6]; exact (Only.refl _ _).alloc _
          have hb6 : Blk w6 gw 48 (mcells Aw cw mw).toArray := by rw [hw6, hgw]; exact Blk.new _ _ _
          have HI6 := Lib.hid (HIa.out.onlyNil (hOb.thenNil hO6))
          have HS6 := Lib.hid (HSa.out.onlyNil (hOb.thenNil hO6))
          have HWB := Lib.hid ((hwb.1.onlyNil hO6 (Nat.le_refl _)).up hO6.size)
          have HWA := Lib.hid hwb.2
          have HW6 := Lib.hid hb6
          have HWT := Lib.hid (And.intro hwant his)
          have HGW := Lib.hid hgw
          have HWW := Lib.hid hw6
          have hgwn : gw < w6.heap.size := hb6.lt
          have HNF := Lib.hid (show ¬ Gp F gp gs ∧ ¬ Gp F gp gw by
            have z1 := HIa.out.q.bound
            have z2 := HIa.out.v.lt
            have z3 := hOb.size
            have z4 := HI.out.q.bound
            have z5 := HI.out.v.lt
            have z6 := HGS.out
            refine ⟨?_, ?_⟩
            · rintro (hx | hx)
              · have := z4 _ hx; omega
              · omega
            · rintro (hx | hx)
              · have := z1 _ hx; omega
              · omega)
          obtain ⟨sw, dw, kw, qw, aw0, aw1, aw2, aw3, xw⟩ := mw
          dsimp only at HWB HWA
          unfold mcells at HW6 HWW
          unfold rcl mcells
          dsimp only at HW6 HWW ⊢
          obtain ⟨XW, hXW⟩ : ∃ X, xw.length = X := ⟨_, rfl⟩
          rw [hXW] at HW6 HWW ⊢
          have HXW := Lib.hid hXW
          have HMS := Lib.hid (show QC.ok w ⟨sk, ss, Am, cm, ⟨s, d, kd, q, a0, a1, a2, a3, x⟩⟩ → True from fun _ => trivial)
          have hv6 := HI6.out.v
          rw [HR.out] at hv6
          have hs6 := HS6.out
          have ks6 : ∀ o i, (wb.alloc o).cell? ⟨gs, i, none⟩ = #[Value.int .i64 sk, .int .i64 ss, .int .i64 s, .int .i64 d, .int .i64 kd, .int .i64 q, .int .i64 a0, .int .i64 a1, .int .i64 a2, .int .i64 a3, .slice Am X cm][i]? := fun o i => ((HSa.out.onlyNil hOb).alloc o).cell i
          have HV6 := Lib.hid hv6
          have HOb := Lib.hid (hOb.thenNil hO6)
          clear hOb hwb hwant his hw6 hgw hO6 hb6 hXW hv6 hs6 hgwn kga HMS HIa HSa
          go_upto_block 2 with fail
          rw [← HWW.out, ← HGW.out]
          clear HWW ks6
          go_cut [15] (fun f wc => f = .bool true ∧ ∃ (F' : Nat → Prop) (rs' : List (Option Addr × Nat × M)) (B' : Option Addr) (c' : Nat), RU w wc p gp nn F' rs' B' c')
          case first =>
            have kg6 : ∀ i, w6.cell? ⟨gp, i, none⟩ = #[Value.int .i64 nn, .slice B R c][i]? := fun i => HV6.out.cell i
            have ks6 : ∀ i, w6.cell? ⟨gs, i, none⟩ = #[Value.int .i64 sk, .int .i64 ss, .int .i64 s, .int .i64 d, .int .i64 kd, .int .i64 q, .int .i64 a0, .int .i64 a1, .int .i64 a2, .int .i64 a3, .slice Am X cm][i]? := fun i => HS6.out.cell i
            have hFb : ∀ y, Gp F gp y → y < w6.heap.size := fun y hy => by
              rcases hy with hy | hy
              · exact HI6.out.q.bound _ hy
              · rw [hy]; exact HI6.out.v.lt
            have HFB6 := Lib.hid hFb
            clear hFb
            by_cases hk0 : sk = 0
            · have hk0' : (sk == 0) = true := by simp [hk0]
              clear hk0
              have hmk := HMK.out
              have hmb : Bs w6 w6.heap.size Am x := (hmk.data.onlyNil HI6.out.only (Nat.le_refl _)).up HI6.out.only.size
              have hmav : 0 < x.length → Av (Gp F gp) Am := fun h0 a ha hy => by
                obtain ⟨b1, o1, e1, h1, _⟩ := hmk.data.2 h0
                rw [ha] at e1
                injection e1 with e1
                rw [e1] at hy
                have z1 := HI6.out.gpw
                rcases hy with hy | hy
                · have := HI6.out.far _ hy
                  dsimp only at this
                  omega
                · dsimp only at hy
                  omega
              have hrp := Ref.qput_any nn (Gp F gp) B c rs Am cm ⟨s, d, kd, q, a0, a1, a2, a3, x⟩ w6 HI6.out.ml HFB6.out (by rw [HR.out]; omega) ⟨hmk.cap, hmk.most, hmk.fits, hmb, hmav⟩
              have HMB := Lib.hid hmb
              unfold mcells at hrp
              dsimp only at hrp
              rw [HR.out, HX.out] at hrp
              obtain ⟨rs2, hrs2⟩ : ∃ rs2, qputR nn rs (Am, cm, ⟨s, d, kd, q, a0, a1, a2, a3, x⟩) = rs2 := ⟨_, rfl⟩
              have hsh : ∀ r ∈ rs2, r.2.2.data.length ≤ 1536 := fun r hr => by
                rw [← hrs2] at hr
                unfold qputR at hr
                split at hr
                · exact HI6.out.short r hr
                · rename_i hnot
                  rcases List.mem_append.1 hr with h1 | h1
                  · exact HI6.out.short r h1
                  · have : r = (Am, cm, ⟨s, d, kd, q, a0, a1, a2, a3, x⟩) := by simpa using h1
                    subst this
                    dsimp only at hnot ⊢
                    omega
              have hmap := qputR_map nn rs (Am, cm, ⟨s, d, kd, q, a0, a1, a2, a3, x⟩)
              rw [hrs2] at hmap
              dsimp only at hmap
              obtain ⟨G, hG⟩ : ∃ G, qputE nn (rs.map fun r => r.2.2) ⟨s, d, kd, q, a0, a1, a2, a3, x⟩ = G := ⟨_, rfl⟩
              have hrq : Calls Try.prog 43 #[.agg #[.int .i64 nn, .slice B R c], .agg #[.int .i64 s, .int .i64 d, .int .i64 kd, .int .i64 q, .int .i64 a0, .int .i64 a1, .int .i64 a2, .int .i64 a3, .slice Am X cm]] w6 fun e w' => ∃ A7 c7, e = .returned (.tuple #[.agg #[.int .i64 nn, .slice A7 rs2.length c7], .int .i64 G]) ∧ ML w' (Gp F gp) A7 c7 rs2 ∧ Only Nil w6 w' := hrp.mono (fun e w' h => by
                unfold RPutPost at h
                dsimp only at h
                rw [hrs2, hG] at h
                exact h)
              have HRP := Lib.hid hrq
              have HGG := Lib.hid hG
              have HSH2 := Lib.hid hsh
              have HMAP := Lib.hid hmap
              clear hmk hmb hmav hrp hrs2 hsh hmap hG hrq
              go_wp2_with fail
              refine HRP.out.mono ?_
              clear HRP
              rintro e w7 ⟨A7, c7, rfl, hM7, hO7⟩
              obtain ⟨R2, hR2⟩ : ∃ R2, rs2.length = R2 := ⟨_, rfl⟩
              rw [hR2]
              have HR2 := Lib.hid hR2
              obtain ⟨g14, hg14⟩ : ∃ g14, w7.heap.size = g14 := ⟨_, rfl⟩
              obtain ⟨w8, hw8⟩ : ∃ w8, w7.alloc (.cells #[.int .i64 nn, .slice A7 R2 c7] 73) = w8 := ⟨_, rfl⟩
              have hO8 : Only Nil w7 w8 := by rw [← hw8]; exact (Only.refl _ _).alloc _
              have hb8 : Blk w8 g14 73 #[.int .i64 nn, .slice A7 R2 c7] := by rw [← hw8, ← hg14]; exact Blk.new _ _ _
              have HI8 := Lib.hid (HI6.out.onlyNil (hO7.thenNil hO8))
              have hs8 := HS6.out.onlyNil (hO7.thenNil hO8)
              have ks8 : ∀ i, w8.cell? ⟨gs, i, none⟩ = #[Value.int .i64 sk, .int .i64 ss, .int .i64 s, .int .i64 d, .int .i64 kd, .int .i64 q, .int .i64 a0, .int .i64 a1, .int .i64 a2, .int .i64 a3, .slice Am X cm][i]? := fun i => hs8.cell i
              have hqp := qput_any (F := F) (p := p) (size := nn) (ms := rs.map fun r => r.2.2) ⟨s, d, kd, q, a0, a1, a2, a3, x⟩ Am cm w8 HI8.out.q ((HMB.out.onlyNil (hO7.thenNil hO8) (Nat.le_refl _)).up (hO7.thenNil hO8).size)
              unfold mcells QPutPost at hqp
              dsimp only at hqp
              rw [HX.out, HGG.out, ← HMAP.out] at hqp
              have HQP := Lib.hid hqp
              have HM8 := Lib.hid (hM7.onlyNil hO8)
              have HB8 := Lib.hid hb8
              have HZ7 := Lib.hid (show w6.heap.size ≤ g14 by rw [← hg14]; exact hO7.size)
              have HV8 := Lib.hid (HV6.out.onlyNil (hO7.thenNil hO8))
              have HOO := Lib.hid (HI6.out.only.thenNil (hO7.thenNil hO8))
              have hg8 : g14 < w8.heap.size := hb8.lt
              have HG8 := Lib.hid hg8
              clear hM7 hO7 hR2 hO8 hb8 hs8 hqp ks6 kg6 hg8
              go_wp2_with fail
              clear hw8 hg14 ks8
              refine HQP.out.mono ?_
              clear HQP
              rintro e w9 ⟨rfl, hq9, hO9⟩
              have hnF : ¬ F g14 := fun hy => by have := HI6.out.q.bound _ hy; have := HZ7.out; omega
              have hb9 := HB8.out.only hO9 hnF
              have hv9 := HV8.out.only hO9 HI6.out.gpF
              have k14 : ∀ i, w9.cell? ⟨g14, i, none⟩ = #[Value.int .i64 nn, .slice A7 R2 c7][i]? := fun i => hb9.cell i
              have fg : ∀ i, w9.frozen? ⟨gp, i, none⟩ = false := fun i => hv9.frozen i
              have kg9 : ∀ i, w9.cell? ⟨gp, i, none⟩ = #[Value.int .i64 nn, .slice B R c][i]? := fun i => hv9.cell i
              have hM9 : ML w9 (Gp (Fnew F w8 w9) gp) A7 c7 rs2 := (HM8.out.grow (F' := Gp (Fnew F w8 w9) gp) (fun y hy hy2 => by
                rcases hy2 with (hy2 | hy2) | hy2
                · exact .inl hy2
                · omega
                · exact .inr hy2)).only (hO9.more (fun y hy => .inl (.inl hy)))
              have hgF : ¬ Fnew F w8 w9 gp := fun hy => by
                rcases hy with hy | hy
                · exact HI6.out.gpF hy
                · have := HV8.out.lt; omega
              have hfar : ∀ y, Fnew F w8 w9 y → w.heap.size ≤ y := fun y hy => by
                rcases hy with hy | hy
                · exact HI6.out.far y hy
                · have := HOO.out.size; omega
              have hOf : Only (One gp) w9 ((w9.setCell ⟨gp, 0, none⟩ (.int .i64 nn)).setCell ⟨gp, 1, none⟩ (.slice A7 R2 c7)) := ((Only.refl _ _).setCell (p := ⟨gp, 0, none⟩) (Or.inl (show One gp gp from rfl)) _).setCell (p := ⟨gp, 1, none⟩) (Or.inl (show One gp gp from rfl)) _
              have hbf : Blk ((w9.setCell ⟨gp, 0, none⟩ (.int .i64 nn)).setCell ⟨gp, 1, none⟩ (.slice A7 R2 c7)) gp 73 #[.int .i64 nn, .slice A7 R2 c7] := by
                have := (hv9.set_ 0 (.int .i64 nn)).set_ 1 (.slice A7 R2 c7)
                simpa using this
              have HF := Lib.hid (RU.next HI6.out ((HOO.out.trans hO9 (fun y hy => .inr (HI6.out.far y hy))).trans hOf (fun y hy => .inr (by unfold One at hy; rw [hy]; exact HI6.out.gpw))) (hq9.only hOf (fun y hy hy2 => by unfold One at hy2; rw [hy2] at hy; exact hgF hy)) (by rw [HR2.out]; exact hbf) (hM9.only (hOf.more (fun y hy => .inr hy))) HSH2.out hgF hfar)
              have hGG : (G == G) = true := by simp
              clear hq9 hO9 hnF hb9 hv9 hM9 hgF hfar hOf hbf
              go_wp2_with fail
              go_meet
              case rel => exact ⟨rfl, _, rs2, A7, c7, HF.out⟩
            · have hk0' : (sk == 0) = false := by simp [hk0]
              by_cases hk1 : sk = 1
              · have hk1' : (sk == 1) = true := by simp [hk1]
                clear hk0 hk1
                go_wp2_with fail
                have hqt := qtake_got w6 HI6.out.q
                rw [HWT.out.1, HWT.out.2] at hqt
                refine hqt.mono ?_
                clear hqt
                unfold GotPost mcells
                dsimp only
                rintro e w7 ⟨⟨A3, c3, rfl, hB3⟩, hQ7, hO7⟩
                have hgF : ¬ Fnew F w6 w7 gp := fun hy => by
                  rcases hy with hy | hy
                  · exact HI6.out.gpF hy
                  · have := HV6.out.lt; omega
                have hfar : ∀ y, Fnew F w6 w7 y → w.heap.size ≤ y := fun y hy => by
                  rcases hy with hy | hy
                  · exact HI6.out.far y hy
                  · have := HI6.out.only.size; omega
                have hM7 : ML w7 (Gp (Fnew F w6 w7) gp) B c rs := (HI6.out.ml.grow (F' := Gp (Fnew F w6 w7) gp) (fun y hy hy2 => by
                  rcases hy2 with (hy2 | hy2) | hy2
                  · exact .inl hy2
                  · omega
                  · exact .inr hy2)).only (hO7.more (fun y hy => .inl (.inl hy)))
                have hwb7 : Bs w7 w7.heap.size Aw xw := Rd.more (rd_avoid HWB.out hO7 (Nat.le_refl _) (fun h0 a ha hy => HWA.out h0 a ha (.inl hy))) hO7.size
                have hw7 := HW6.out.only hO7 (fun hy => HNF.out.2 (.inl hy))
                have hv7 := HV6.out.only hO7 HI6.out.gpF
                obtain ⟨w8, hw8⟩ : ∃ w8, w8 = w7.alloc (.cells #[.int .i64 sw, .int .i64 dw, .int .i64 kw, .int .i64 qw, .int .i64 aw0, .int .i64 aw1, .int .i64 aw2, .int .i64 aw3, .slice A3 XW c3] 48) := ⟨_, rfl⟩
                obtain ⟨g18, hg18⟩ : ∃ g, g = w7.heap.size := ⟨_, rfl⟩
                have hO8 : Only Nil w7 w8 := by rw [hw8]; exact (Only.refl _ _).alloc _
                have hb8 : Blk w8 g18 48 #[.int .i64 sw, .int .i64 dw, .int .i64 kw, .int .i64 qw, .int .i64 aw0, .int .i64 aw1, .int .i64 aw2, .int .i64 aw3, .slice A3 XW c3] := by rw [hw8, hg18]; exact Blk.new _ _ _
                have HW8 := Lib.hid hw8
                have HG18 := Lib.hid hg18
                have k8 : ∀ i, w8.cell? ⟨g18, i, none⟩ = #[Value.int .i64 sw, .int .i64 dw, .int .i64 kw, .int .i64 qw, .int .i64 aw0, .int .i64 aw1, .int .i64 aw2, .int .i64 aw3, .slice A3 XW c3][i]? := fun i => hb8.cell i
                have hw8' := hw7.onlyNil hO8
                have kw8 : ∀ i, w8.cell? ⟨gw, i, none⟩ = #[Value.int .i64 sw, .int .i64 dw, .int .i64 kw, .int .i64 qw, .int .i64 aw0, .int .i64 aw1, .int .i64 aw2, .int .i64 aw3, .slice Aw XW cw][i]? := fun i => hw8'.cell i
                have hsm := same_msg A3 c3 ⟨sw, dw, kw, qw, aw0, aw1, aw2, aw3, xw⟩ Aw cw ⟨sw, dw, kw, qw, aw0, aw1, aw2, aw3, xw⟩ w8 ((hB3.onlyNil hO8 (Nat.le_refl _)).up hO8.size) ((hwb7.onlyNil hO8 (Nat.le_refl _)).up hO8.size)
                rw [sameM_iff.2 rfl] at hsm
                unfold mcells at hsm
                dsimp only at hsm
                rw [HXW.out] at hsm
                have HSM := Lib.hid hsm
                have HQ8 := Lib.hid (hQ7.onlyNil hO8)
                have HM8 := Lib.hid (hM7.onlyNil hO8)
                have HV8 := Lib.hid (hv7.onlyNil hO8)
                have HOO := Lib.hid ((HI6.out.only.trans hO7 (fun y hy => .inr (HI6.out.far y hy))).thenNil hO8)
                have HGF := Lib.hid hgF
                have HFAR := Lib.hid hfar
                clear hB3 hQ7 hO7 hgF hfar hM7 hwb7 hw7 hv7 hw8 hg18 hO8 hb8 hw8' hsm ks6 kg6
                rw [HXW.out]
                go_upto_region 28 with fail
                rw [← HW8.out, ← HG18.out]
                clear HW8
                go_wp2_with fail
                refine HSM.out.mono ?_
                clear HSM
                rintro e w9 ⟨rfl, hO9⟩
                have HQ9 := Lib.hid (HQ8.out.onlyNil hO9)
                have hv9 := HV8.out.onlyNil hO9
                have kg9 : ∀ i, w9.cell? ⟨gp, i, none⟩ = #[Value.int .i64 nn, .slice B R c][i]? := fun i => hv9.cell i
                have hrt := Ref.qtake_any nn (Gp (Fnew F w6 w7) gp) B c rs w9 (HM8.out.onlyNil hO9) (fun y hy => by
                  rcases hy with hy | hy
                  · exact HQ9.out.bound _ hy
                  · rw [hy]; exact hv9.lt) (by rw [HR.out]; omega)
                rw [HR.out] at hrt
                have HRT := Lib.hid hrt
                have HV9 := Lib.hid hv9
                have HO9 := Lib.hid (HOO.out.thenNil hO9)
                clear hO9 hv9 hrt k8 kw8
                go_wp2_with fail
                refine HRT.out.mono ?_
                clear HRT
                rintro e w10 ⟨A7, c7, rfl, hM10, hO10⟩
                obtain ⟨R2, hR2⟩ : ∃ R2, rs.tail.length = R2 := ⟨_, rfl⟩
                rw [hR2]
                have hv9 := HV9.out.onlyNil hO10
                have fg : ∀ i, w10.frozen? ⟨gp, i, none⟩ = false := fun i => hv9.frozen i
                have kg10 : ∀ i, w10.cell? ⟨gp, i, none⟩ = #[Value.int .i64 nn, .slice B R c][i]? := fun i => hv9.cell i
                have hOf : Only (One gp) w10 ((w10.setCell ⟨gp, 0, none⟩ (.int .i64 nn)).setCell ⟨gp, 1, none⟩ (.slice A7 R2 c7)) := ((Only.refl _ _).setCell (p := ⟨gp, 0, none⟩) (Or.inl (show One gp gp from rfl)) _).setCell (p := ⟨gp, 1, none⟩) (Or.inl (show One gp gp from rfl)) _
                have hbf : Blk ((w10.setCell ⟨gp, 0, none⟩ (.int .i64 nn)).setCell ⟨gp, 1, none⟩ (.slice A7 R2 c7)) gp 73 #[.int .i64 nn, .slice A7 R2 c7] := by
                  have := (hv9.set_ 0 (.int .i64 nn)).set_ 1 (.slice A7 R2 c7)
                  simpa using this
                have HF := Lib.hid (RU.next HI6.out ((HO9.out.thenNil hO10).trans hOf (fun y hy => .inr (by unfold One at hy; rw [hy]; exact HI6.out.gpw))) ((HQ9.out.onlyNil hO10).only hOf (fun y hy hy2 => by unfold One at hy2; rw [hy2] at hy; exact HGF.out hy)) (by rw [hR2]; exact hbf) (hM10.only (hOf.more (fun y hy => .inr hy))) (fun r hr => HI6.out.short r (List.mem_of_mem_tail hr)) HGF.out HFAR.out)
                clear hM10 hO10 hv9 hOf hbf kg9 hR2
                go_wp2_with fail
                go_meet
                case rel => exact ⟨rfl, _, rs.tail, A7, c7, HF.out⟩
              · have hk1' : (sk == 1) = false := by simp [hk1]
                by_cases hk2 : sk = 2
                · have hk2' : (sk == 2) = true := by simp [hk2]
                  clear hk0 hk1 hk2
                  go_wp2_with fail
                  have hqt := qfirst_got w6 HI6.out.q
                  rw [HWT.out.1, HWT.out.2] at hqt
                  refine hqt.mono ?_
                  clear hqt
                  unfold GotPost mcells
                  dsimp only
                  rintro e w7 ⟨⟨A3, c3, rfl, hB3⟩, hO7⟩
                  have hwb7 : Bs w7 w7.heap.size Aw xw := (HWB.out.onlyNil hO7 (Nat.le_refl _)).up hO7.size
                  have hw7 := HW6.out.onlyNil hO7
                  obtain ⟨w8, hw8⟩ : ∃ w8, w8 = w7.alloc (.cells #[.int .i64 sw, .int .i64 dw, .int .i64 kw, .int .i64 qw, .int .i64 aw0, .int .i64 aw1, .int .i64 aw2, .int .i64 aw3, .slice A3 XW c3] 48) := ⟨_, rfl⟩
                  obtain ⟨g18, hg18⟩ : ∃ g, g = w7.heap.size := ⟨_, rfl⟩
                  have hO8 : Only Nil w7 w8 := by rw [hw8]; exact (Only.refl _ _).alloc _
                  have hb8 : Blk w8 g18 48 #[.int .i64 sw, .int .i64 dw, .int .i64 kw, .int .i64 qw, .int .i64 aw0, .int .i64 aw1, .int .i64 aw2, .int .i64 aw3, .slice A3 XW c3] := by rw [hw8, hg18]; exact Blk.new _ _ _
                  have HW8 := Lib.hid hw8
                  have HG18 := Lib.hid hg18
                  have k8 : ∀ i, w8.cell? ⟨g18, i, none⟩ = #[Value.int .i64 sw, .int .i64 dw, .int .i64 kw, .int .i64 qw, .int .i64 aw0, .int .i64 aw1, .int .i64 aw2, .int .i64 aw3, .slice A3 XW c3][i]? := fun i => hb8.cell i
                  have hw8' := hw7.onlyNil hO8
                  have kw8 : ∀ i, w8.cell? ⟨gw, i, none⟩ = #[Value.int .i64 sw, .int .i64 dw, .int .i64 kw, .int .i64 qw, .int .i64 aw0, .int .i64 aw1, .int .i64 aw2, .int .i64 aw3, .slice Aw XW cw][i]? := fun i => hw8'.cell i
                  have hsm := same_msg A3 c3 ⟨sw, dw, kw, qw, aw0, aw1, aw2, aw3, xw⟩ Aw cw ⟨sw, dw, kw, qw, aw0, aw1, aw2, aw3, xw⟩ w8 ((hB3.onlyNil hO8 (Nat.le_refl _)).up hO8.size) ((hwb7.onlyNil hO8 (Nat.le_refl _)).up hO8.size)
                  rw [sameM_iff.2 rfl] at hsm
                  unfold mcells at hsm
                  dsimp only at hsm
                  rw [HXW.out] at hsm
                  have HSM := Lib.hid hsm
                  have HI8 := Lib.hid (HI6.out.onlyNil (hO7.thenNil hO8))
                  clear hB3 hO7 hwb7 hw7 hw8 hg18 hO8 hb8 hw8' hsm ks6 kg6
                  rw [HXW.out]
                  go_upto_region 32 with fail
                  rw [← HW8.out, ← HG18.out]
                  clear HW8
                  go_wp2_with fail
                  refine HSM.out.mono ?_
                  clear HSM
                  rintro e w9 ⟨rfl, hO9⟩
                  have HI9 := Lib.hid (HI8.out.onlyNil hO9)
                  clear hO9 k8 kw8
                  go_wp2_with fail
                  go_meet
                  case rel => exact ⟨rfl, F, rs, B, c, HI9.out⟩
                · have hk2' : (sk == 2) = false := by simp [hk2]
                  clear hk0 hk1 hk2
                  have hrp := Ref.qdrop_any nn (Gp F gp) B c rs ss w6 HI6.out.ml HFB6.out (by rw [HR.out]; omega)
                  unfold RDropPost at hrp
                  rw [HR.out] at hrp
                  obtain ⟨rs2, hrs2⟩ : ∃ rs2, rs.filter (keepQ ss) = rs2 := ⟨_, rfl⟩
                  have hsh : ∀ r ∈ rs2, r.2.2.data.length ≤ 1536 := fun r hr => by
                    rw [← hrs2] at hr
                    exact HI6.out.short r (List.mem_filter.1 hr).1
                  have hmap := keepQ_map ss rs
                  rw [hrs2] at hmap hrp
                  obtain ⟨R2, hR2⟩ : ∃ R2, rs2.length = R2 := ⟨_, rfl⟩
                  rw [hR2] at hrp
                  obtain ⟨G, hG⟩ : ∃ G : Int, (R : Int) - R2 = G := ⟨_, rfl⟩
                  rw [hG] at hrp
                  have HR2 := Lib.hid hR2
                  have HRP := Lib.hid hrp
                  have HGG := Lib.hid hG
                  have HSH2 := Lib.hid hsh
                  have HMAP := Lib.hid hmap
                  clear hrp hrs2 hsh hmap hG hR2
                  go_wp2_with fail
                  refine HRP.out.mono ?_
                  clear HRP
                  rintro e w7 ⟨A7, c7, rfl, hM7, hO7⟩
                  obtain ⟨g14, hg14⟩ : ∃ g14, w7.heap.size = g14 := ⟨_, rfl⟩
                  obtain ⟨w8, hw8⟩ : ∃ w8, w7.alloc (.cells #[.int .i64 nn, .slice A7 R2 c7] 73) = w8 := ⟨_, rfl⟩
                  have hO8 : Only Nil w7 w8 := by rw [← hw8]; exact (Only.refl _ _).alloc _
                  have hb8 : Blk w8 g14 73 #[.int .i64 nn, .slice A7 R2 c7] := by rw [← hw8, ← hg14]; exact Blk.new _ _ _
                  have HI8 := Lib.hid (HI6.out.onlyNil (hO7.thenNil hO8))
                  have hs8 := HS6.out.onlyNil (hO7.thenNil hO8)
                  have ks8 : ∀ i, w8.cell? ⟨gs, i, none⟩ = #[Value.int .i64 sk, .int .i64 ss, .int .i64 s, .int .i64 d, .int .i64 kd, .int .i64 q, .int .i64 a0, .int .i64 a1, .int .i64 a2, .int .i64 a3, .slice Am X cm][i]? := fun i => hs8.cell i
                  have hqp := qdrop_any (F := F) (p := p) (size := nn) (ms := rs.map fun r => r.2.2) ss w8 HI8.out.q
                  unfold QDropPost at hqp
                  rw [← HMAP.out, List.length_map, List.length_map, HR.out, HR2.out, HGG.out] at hqp
                  have HQP := Lib.hid hqp
                  have HM8 := Lib.hid (hM7.onlyNil hO8)
                  have HB8 := Lib.hid hb8
                  have HZ7 := Lib.hid (show w6.heap.size ≤ g14 by rw [← hg14]; exact hO7.size)
                  have HV8 := Lib.hid (HV6.out.onlyNil (hO7.thenNil hO8))
                  have HOO := Lib.hid (HI6.out.only.thenNil (hO7.thenNil hO8))
                  clear hM7 hO7 hO8 hb8 hs8 hqp ks6 kg6
                  go_wp2_with fail
                  clear hw8 hg14 ks8
                  refine HQP.out.mono ?_
                  clear HQP
                  rintro e w9 ⟨rfl, hq9, hO9⟩
                  have hnF : ¬ F g14 := fun hy => by have := HI6.out.q.bound _ hy; have := HZ7.out; omega
                  have hb9 := HB8.out.only hO9 hnF
                  have hv9 := HV8.out.only hO9 HI6.out.gpF
                  have k14 : ∀ i, w9.cell? ⟨g14, i, none⟩ = #[Value.int .i64 nn, .slice A7 R2 c7][i]? := fun i => hb9.cell i
                  have fg : ∀ i, w9.frozen? ⟨gp, i, none⟩ = false := fun i => hv9.frozen i
                  have kg9 : ∀ i, w9.cell? ⟨gp, i, none⟩ = #[Value.int .i64 nn, .slice B R c][i]? := fun i => hv9.cell i
                  have hM9 : ML w9 (Gp F gp) A7 c7 rs2 := HM8.out.only (hO9.more (fun y hy => .inl hy))
                  have hOf : Only (One gp) w9 ((w9.setCell ⟨gp, 0, none⟩ (.int .i64 nn)).setCell ⟨gp, 1, none⟩ (.slice A7 R2 c7)) := ((Only.refl _ _).setCell (p := ⟨gp, 0, none⟩) (Or.inl (show One gp gp from rfl)) _).setCell (p := ⟨gp, 1, none⟩) (Or.inl (show One gp gp from rfl)) _
                  have hbf : Blk ((w9.setCell ⟨gp, 0, none⟩ (.int .i64 nn)).setCell ⟨gp, 1, none⟩ (.slice A7 R2 c7)) gp 73 #[.int .i64 nn, .slice A7 R2 c7] := by
                    have := (hv9.set_ 0 (.int .i64 nn)).set_ 1 (.slice A7 R2 c7)
                    simpa using this
                  have HF := Lib.hid (RU.next HI6.out ((HOO.out.trans hO9 (fun y hy => .inr (HI6.out.far y hy))).trans hOf (fun y hy => .inr (by unfold One at hy; rw [hy]; exact HI6.out.gpw))) (hq9.only hOf (fun y hy hy2 => by unfold One at hy2; rw [hy2] at hy; exact HI6.out.gpF hy)) (by rw [HR2.out]; exact hbf) (hM9.only (hOf.more (fun y hy => .inr hy))) HSH2.out HI6.out.gpF HI6.out.far)
                  have hGG : (G == G) = true := by simp
                  clear hq9 hO9 hnF hb9 hv9 hM9 hOf hbf
                  go_wp2_with fail
                  go_meet
                  case rel => exact ⟨rfl, _, rs2, A7, c7, HF.out⟩
          case rest =>
            obtain ⟨rfl, F', rs', B', c', hL7⟩ := hcut
            clear HI6 HS6 HW6 HWB HWA HV6 HNF
            have HL7 := Lib.hid hL7
            obtain ⟨hl1, hl2, hl3⟩ := hL7.len
            obtain ⟨y, hy⟩ : ∃ y, encQ nn (rs'.map fun r => r.2.2) = y := ⟨_, rfl⟩
            obtain ⟨N, hN⟩ : ∃ N, y.length = N := ⟨_, rfl⟩
            obtain ⟨X', hX'⟩ : ∃ X, rs'.length = X := ⟨_, rfl⟩
            have hlenq : ∀ u, Only Nil wc u → Calls Try.prog 24 #[.pointer (some ⟨p, 0, none⟩)] u fun e u' => e = .returned (.int .i64 X') ∧ u' = u := fun u hu => by
              have := qlen_any u (HL7.out.onlyNil hu).q
              rw [List.length_map, hX'] at this
              exact this
            have henc : ∀ u, Only Nil wc u → Calls Try.prog 30 #[.pointer (some ⟨p, 0, none⟩)] u fun e u' => ∃ A c, e = .returned (.slice A N c) ∧ Bs u' u'.heap.size A y ∧ Only Nil u u' := fun u hu => by
              refine (qencode_any u (HL7.out.onlyNil hu).q (fun m hm => by
                obtain ⟨r, hr, rfl⟩ := List.mem_map.1 hm
                exact (HL7.out.ml.data r hr).2.2.1)).mono ?_
              rw [hy]
              rintro e u' ⟨A, c, rfl, _, hown, hO⟩
              exact ⟨A, c, by rw [hN], (Bs.of_own hown).1, hO⟩
            have hrenc : ∀ u, Only Nil wc u → Calls Try.prog 46 #[.agg #[.int .i64 nn, .slice B' X' c']] u fun e u' => ∃ A c, e = .returned (.slice A N c) ∧ Bs u' u'.heap.size A y ∧ Only Nil u u' := fun u hu => by
              rw [← hX']
              refine (Ref.qencode_any nn (Gp F' gp) B' c' rs' u (HL7.out.ml.onlyNil hu) (by omega) (by omega) HL7.out.short).mono ?_
              rw [hy]
              rintro e u' ⟨A, c, rfl, _, hown, hO⟩
              exact ⟨A, c, by rw [hN], (Bs.of_own hown).1, hO⟩
            have hsame : ∀ (A A' : Option Addr) (c c' : Nat) u, Bs u u.heap.size A y → Bs u u.heap.size A' y → Calls Try.prog 16 #[.slice A N c, .slice A' N c'] u fun e u' => e = .returned (.bool true) ∧ u' = u := fun A A' c c' u h1 h2 => by
              have := same_bytes A A' c c' y y u h1 h2
              rwa [beq_self_eq_true, hN] at this
            have hks : ∀ u, Only Nil wc u → u.cell? ⟨gp, 0, none⟩ = some (.int .i64 nn) ∧ u.cell? ⟨gp, 1, none⟩ = some (.slice B' X' c') := fun u hu => by
              have h1 := (HL7.out.onlyNil hu).v
              rw [h1.cell, h1.cell, ← hX']
              exact ⟨rfl, rfl⟩
            have HLEN := Lib.hid hlenq
            have HENC := Lib.hid henc
            have HRENC := Lib.hid hrenc
            have HSAME := Lib.hid hsame
            have HKS := Lib.hid hks
            have hs0 := hks _ (Only.refl _ _).drew
            have hb1 : ((X' : Int) != (X' : Int)) = false := by simp
            clear hlenq henc hrenc hsame hks hy hN hX' hL7 hl1 hl2 hl3
            go_upto_region 33 with fail
            go_cut [167] (fun v wd => v = .bool false ∧ Only Nil wc wd)
            case first =>
              go_region_held3 (fun u => u.cell? ⟨gp, 0, none⟩ = some (.int .i64 nn) ∧ u.cell? ⟨gp, 1, none⟩ = some (.slice B' X' c')) (first | with_reducible assumption | go_keep)
                (first
                  | (go_simp; go_at_call 16; have hh := HSAME.out A3 A4 c3 c4 u4 ((hB3.onlyNil hO4 (Nat.le_refl _)).up hO4.size) hB4; refine hh.mono ?_; rintro e u5 ⟨rfl, rfl⟩; have hs5 := HKS.out _ (hO3.thenNil hO4))
                  | (go_simp; go_at_call 46; have hh := HRENC.out _ hO3; refine hh.mono ?_; rintro e u4 ⟨A4, c4, rfl, hB4, hO4⟩; have hs4 := HKS.out _ (hO3.thenNil hO4))
                  | (go_simp; go_at_call 30; have hh := HENC.out _ hO1; refine hh.mono ?_; rintro e u3 ⟨A3, c3, rfl, hB3, hO3⟩; replace hO3 := hO1.thenNil hO3; have hs3 := HKS.out _ hO3)
                  | (go_simp; go_at_call 24; have hO1 := (Only.refl Nil wc).drew; have hh := HLEN.out _ hO1; refine hh.mono ?_; rintro e u1 ⟨rfl, rfl⟩; have hs1 := HKS.out _ hO1)
                  | fail)
              all_goals
                go_wp2_with fail
                go_meet
                case rel => exact ⟨by first | rfl | simp, hO3.thenNil hO4⟩
            case rest =>
              obtain ⟨rfl, hOe⟩ := hcut
              have HE := Lib.hid hOe
              clear hOe hs0
              go_wp2_with fail
              go_roundw
              case rel => exact ⟨k + 1, F', rs', B', c', by omega, by go_num, HL7.out.onlyNil HE.out⟩
              case measure => simp [intOf] <;> omega
        · have hkk : k = len := by omega
          subst hkk
          go_wp2_with fail
          go_ret
          exact ⟨rfl, HI.out.only⟩

set_option maxRecDepth 100000 in
theorem from_args {H : Type} {enc : TypeId × Value → H} (W : World) (base : Nat) (args : Array Value) (ds : List (DataW H)) (ps : List MemPlace)
    (hval0 : ∀ (j : Nat) t v, Try.f9.params[j]? = some t → args[j]? = some v → Value.okWide Try.prog W .any base t v)
    (hA : DataW.TrodAll enc Try.prog W 0 (fun _ => true) true Try.f9.params.toList args.toList ds ps) (_hlt : ∀ x ∈ ps, x.block < W.heap.size)
    (hsz : (DataW.weightsEach Try.prog Try.f9.params.toList ds).all (· ≤ reachBytes) = true) : Calls Try.prog 9 args W (LawPost W) := by
  have hval := hval0
  rw [Try.params9] at hA hval hsz
  obtain ⟨v0, vs0, d0, ds0, p0, q0, hargs, rfl, rfl, h0, r0⟩ := trodAll_cons hA
  obtain ⟨v1, vs1, d1, ds1, p1, q1, rfl, rfl, rfl, h1, r1⟩ := trodAll_cons r0
  obtain ⟨v2, vs2, d2, ds2, p2, q2, rfl, rfl, rfl, h2, r2⟩ := trodAll_cons r1
  obtain ⟨rfl, rfl, rfl⟩ := trodAll_nil r2
  obtain rfl : args = #[v0, v1, v2] := by cases args; simp_all
  obtain ⟨Ab, b, cb, rfl, hb1, hb2, hb3⟩ := open_barg (hval 0 _ v0 rfl rfl) h0
  obtain ⟨A, rs, c, rfl, hl, hm, hQ⟩ := open_calls (hval 1 _ v1 rfl rfl) h1
  obtain ⟨n, rfl, rfl, rfl, wn⟩ := open_int Try.underlying3 (hval 2 _ v2 rfl rfl) h2
  exact walk Ab cb b A c rs n W hb3 hb1 hb2 (by omega) hQ

set_option maxRecDepth 100000 in
theorem over : Rows.ringQueueRow.holds Try.pinned (OpenSpec.ofChange Rows.ringQueueSpec) :=
  OpenClaim.holds_of_wide 9 Try.f9 rfl rfl rfl rfl rfl rfl rfl ⟨rfl, rfl, rfl, rfl, rfl⟩ rfl rfl rfl rfl rfl (by kernel_rfl) Try.func9 (by kernel_rfl)
    (of_decide_eq_true (by kernel_rfl)) (by unfold Func.isWrapper; first | (rw [if_pos (by decide +kernel)]; kernel_rfl) | (rw [if_neg (by decide +kernel)]; exact ⟨rfl, rfl⟩))
    (fun os started H enc _ => law_lifted (f := 9) (F := Try.f9) (s := Rows.ringQueueSpec) os started H enc (by kernel_rfl) Try.func9 rfl rfl (by kernel_rfl) (by kernel_rfl)
      (fun ds hd => by match ds, hd with | [_, _, _], _ => rfl)
      (ChangeSpec.witness6 (enc := enc) (C := Try.checked) false ⟨#[], #[.slice none 0 0, .slice none 0 0, .int .i64 0], []⟩ 8 (by kernel_rfl) (by kernel_rfl) (by kernel_rfl) (by kernel_rfl))
      (fun W base args ds ps hv hA hlt hsz => from_args W base args ds ps hv hA hlt hsz))

/-- The statement. -/
theorem proved : Rows.RingQueueSaid := over

end ringQueue
end Go.Proofs.Ytljfblnpgeconaa
