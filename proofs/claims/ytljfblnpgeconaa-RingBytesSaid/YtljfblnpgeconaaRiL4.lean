/-
  The law RingBytes: after each call on a byte queue the results, Len, Free and the encoding are the specified ones.
  No conditions.
-/
import Derived.Test.YtljfblnpgeconaaRiA
import Derived.Test.YtljfblnpgeconaaRiB
import Derived.Test.YtljfblnpgeconaaRiN
import Derived.Test.YtljfblnpgeconaaRiE
import Derived.Test.YtljfblnpgeconaaRiH1
import Derived.Test.YtljfblnpgeconaaRiG3
import Derived.Test.YtljfblnpgeconaaRiG4
import Derived.Test.YtljfblnpgeconaaRiG6
import Derived.Deep.LoopGhost
import Derived.Deep.CutBlock
import Derived.Deep.RegionHeld3
namespace Go.Proofs.Ytljfblnpgeconaa
open Go.ChangeShapes Go.WideShapes Go.ChangeAt Go.RowKit

namespace ringBytes

/-- What is known at the head of the loop: both queues with the content x. -/
structure RL (w wr : World) (p g gp n : Nat) (x : List UInt8) (B : Option Addr) (cb : Nat) : Prop where
  q : RB wr p g n x
  v : Blk wr gp 61 #[.int .i64 n, .slice B x.length cb]
  cap : x.length ≤ cb
  own : wr.ownsRow w.heap.size 5 1 (.slice B x.length cb) x.length (bcells x)
  sep : ∀ k, (Value.slice B x.length cb).ownBlock = some k → k ≠ g
  only : Only Nil w wr
  far : w.heap.size ≤ p ∧ w.heap.size ≤ g ∧ w.heap.size ≤ gp

theorem RL.onlyNil {w wr w' : World} {p g gp n : Nat} {x : List UInt8} {B : Option Addr} {cb : Nat} (h : RL w wr p g gp n x B cb) (hO : Only Nil wr w') : RL w w' p g gp n x B cb :=
  ⟨h.q.onlyNil hO, h.v.onlyNil hO, h.cap, own_onlyNil h.own hO, h.sep, h.only.thenNil hO, h.far⟩
theorem tb_no (A : Option Addr) (n c : Nat) (y z : Int) : NoU8 #[.slice A n c, .int .i64 y, .int .i64 z] := by
  intro i z
  match i with
  | 0 => simp
  | 1 => simp
  | 2 => simp
  | n + 3 => simp
theorem own_frozen {w : World} {base n c : Nat} {e : TypeId} {A : Option Addr} {xs : List Value} (h : w.ownsRow base e 1 (.slice A n c) n xs) {g : Nat} (hA : A = some ⟨g, 0, none⟩) (i : Nat) : w.frozen? ⟨g, i, none⟩ = false := by
  subst hA
  rcases h.2 with ⟨hv, _⟩ | ⟨g', cap, cur, hv, _, hh, _⟩
  · cases hv
  · injection hv with hv
    injection hv with hv
    injection hv with hv
    subst hv
    simp [World.frozen?, hh]
def Thr (p g gp : Nat) : Nat → Prop := fun x => x = p ∨ x = g ∨ x = gp
theorem RL.next {w wr w' : World} {p g gp n : Nat} {x y : List UInt8} {B B' : Option Addr} {cb c' : Nat} (h : RL w wr p g gp n x B cb) (hO : Only (Thr p g gp) wr w') (hq : RB w' p g n y)
    (hv : Blk w' gp 61 #[.int .i64 n, .slice B' y.length c']) (hc : y.length ≤ c') (hown : w'.ownsRow wr.heap.size 5 1 (.slice B' y.length c') y.length (bcells y)) : RL w w' p g gp n y B' c' := by
  have h1 := h.far
  refine ⟨hq, hv, hc, own_base hown h.only.size, fun k hk e => ?_, h.only.trans hO fun x hx => .inr (by unfold Thr at hx; omega), h.far⟩
  have a1 := ownBlock_ge hown hk
  have a2 := h.q.lt.2
  omega

def BSt (r : Option (Nat × List UInt8)) (E : Int) (w : World) (gp : Nat) (q : Value) (er er' m : Int) (B : Option Addr) (k c : Nat) (wc : World) : Prop :=
  match r with
  | none => q = .pointer none ∧ er = E ∧ er' = E ∧ Only Nil w wc
  | some (n, x) => er = 0 ∧ er' = 0 ∧ m = n ∧ k = x.length ∧ ∃ p g, q = .pointer (some ⟨p, 0, none⟩) ∧ RL w wc p g gp n x B c

theorem bst_of {r : Option (Nat × List UInt8)} {E : Int} {w u u' u'' : World} {gp : Nat} {q : Value} {er er' m : Int} {B : Option Addr} {k c : Nat}
    (hq : QSt r E w.heap.size q er u) (hv : VSt r E u.heap.size m B k c er' u') (h0 : Only Nil w u) (h1 : Only Nil u u') (hgp : w.heap.size ≤ gp)
    (h2 : Only Nil u' u'' ∨ ∃ cs, Blk u' gp 61 cs ∧ Only (One gp) u' u'') (hb : Blk u'' gp 61 #[.int .i64 m, .slice B k c]) : BSt r E w gp q er er' m B k c u'' := by
  have hO : Only Nil w u'' := by
    rcases h2 with h | ⟨cs, _, h⟩
    · exact (h0.thenNil h1).thenNil h
    · exact (h0.thenNil h1).trans h fun x hx => .inr (by unfold One at hx; omega)
  unfold QSt at hq
  unfold VSt at hv
  unfold BSt
  split at hq
  · exact ⟨hq.1, hq.2, hv, hO⟩
  · rename_i n x
    obtain ⟨p, g, rfl, rfl, hp, hg, hR⟩ := hq
    obtain ⟨rfl, rfl, rfl, hc, hown⟩ := hv
    have hR1 := hR.onlyNil h1
    refine ⟨rfl, rfl, rfl, rfl, p, g, rfl, ?_⟩
    have hsep : ∀ k, (Value.slice B x.length c).ownBlock = some k → k ≠ g := fun k hk e => by
      have a1 := ownBlock_ge hown hk
      have a2 := hR.lt.2
      omega
    rcases h2 with h | ⟨cs, hcs, h⟩
    · exact ⟨hR1.onlyNil h, hb, hc, own_base (own_onlyNil hown h) h0.size, hsep, hO, hp, hg, hgp⟩
    · refine ⟨?_, hb, hc, own_base (own_only hown h fun k hk e => ?_) h0.size, hsep, hO, hp, hg, hgp⟩
      · obtain ⟨f, ring, hf⟩ := hR1
        exact ⟨f, ring, hf.only h (fun e => hf.tb.ne_ hcs (by decide) e) (fun e => hf.sb.ne_ hcs (by decide) e)⟩
      · unfold One at e
        subst e
        exact own_blk_ne hown hcs (by decide) hk

def firstB : List UInt8 → UInt8
  | [] => 0
  | b :: _ => b
theorem first_val (A : Option Addr) (c : Nat) (b : List UInt8) (w : World) (hb : Bs w w.heap.size A b) : Calls Try.prog 29 #[.slice A b.length c] w fun e w' => e = .returned (.int .u8 ((firstB b).toNat : Int)) ∧ w' = w := by
  rcases b with _ | ⟨x, b⟩
  · go_enter Try.func29, Try.ntmps29
    go_wp2_with fail
    go_ret
    exact ⟨rfl, rfl⟩
  · obtain ⟨g, off, rfl, _, hc⟩ := hb.at_ (i := 0) (b := x) rfl
    have hc' : w.cell? ⟨g, off, none⟩ = some (.int .u8 (x.toNat : Int)) := hc
    clear hc
    have hl : (((x :: b).length : Int) == 0) = false := by
      show decide _ = false
      rw [decide_eq_false_iff_not, List.length_cons]
      omega
    have hp : (0 : Int) < ((x :: b).length : Int) := by rw [List.length_cons]; omega
    obtain ⟨n, hn⟩ : ∃ n, (x :: b).length = n := ⟨_, rfl⟩
    rw [hn] at hl hp ⊢
    go_enter Try.func29, Try.ntmps29
    go_wp2_with fail
    go_ret
    exact ⟨rfl, rfl⟩

set_option maxRecDepth 100000 in
set_option maxHeartbeats 2000000 in
theorem walk (Ab : Option Addr) (cb : Nat) (b : List UInt8) (A : Option Addr) (len cap : Nat) (xs : List St) (n : Int) (w : World) (hbb : Bs w w.heap.size Ab b) (hbc : b.length ≤ cb) (hbm : cb ≤ maxLen) (hlen : xs.length = len) (hmax : len ≤ maxLen) (hR : Rd w w.heap.size 3 A len (xs.flatMap St.cells))
    (hB : ∀ s ∈ xs, s.b.length ≤ s.c ∧ s.c ≤ maxLen ∧ Bs w w.heap.size s.A s.b) :
    Calls Try.prog 7 #[.slice Ab b.length cb, .slice A len cap, .int .i64 n] w (LawPost w) := by
  obtain ⟨i0, hi0, hz0, hz1, hz2⟩ := info_parts byte_info
  have hshort : ∀ w', Only Nil w w' → Calls Try.prog 12 #[.slice A len cap] w' fun e w'' => e = .returned (.bool (shortB xs)) ∧ w'' = w' := fun w' hO =>
    short_any A len cap xs w' hlen hmax (Rd.more (hR.onlyNil hO (Nat.le_refl _)) hO.size)
  have HSH := Lib.hid hshort
  have HBB := Lib.hid hbb
  have HBM := Lib.hid hbm
  have HBC := Lib.hid hbc
  have HR := Lib.hid hR
  have HL := Lib.hid hlen
  have HB := Lib.hid hB
  clear hshort hbb hbm hbc hR hlen hB
  unfold maxLen at hmax
  by_cases hbl : b.length ≤ 1000
  rotate_left
  · have hd : decide ((1000 : Int) < (b.length : Int)) = true := decide_eq_true (by omega)
    clear hbl
    go_enter Try.func7, Try.ntmps7
    go_wp2_with fail
    refine (awake_any _).mono ?_
    rintro e w1 ⟨rfl, hO1⟩
    have HO1 := Lib.hid hO1
    clear hO1
    go_wp2_with fail
    go_ret
    exact ⟨rfl, HO1.out⟩
  have hd : decide ((1000 : Int) < (b.length : Int)) = false := decide_eq_false (by omega)
  have HBL := Lib.hid hbl
  clear hbl
  by_cases hs : shortB xs = true
  rotate_left
  · have hs' : shortB xs = false := by simpa using hs
    rw [hs'] at HSH
    clear hs hs'
    go_enter Try.func7, Try.ntmps7
    go_wp2_with fail
    refine (awake_any _).mono ?_
    rintro e w1 ⟨rfl, hO1⟩
    have HO1 := Lib.hid hO1
    clear hO1
    go_wp2_with fail
    refine (HSH.out _ HO1.out).mono ?_
    rintro e w2 ⟨rfl, rfl⟩
    go_wp2_with fail
    go_ret
    exact ⟨rfl, HO1.out⟩
  have hsb : (∀ s ∈ xs, s.b.length ≤ 200) ∧ xs.length ≤ 40 := by
    unfold shortB at hs
    rw [Bool.and_eq_true, List.all_eq_true, decide_eq_true_eq] at hs
    exact ⟨fun s h => by simpa using hs.1 s h, hs.2⟩
  have hl40 : len ≤ 40 := by have := HL.out; omega
  have HSB := Lib.hid hsb.1
  clear hsb
  rw [hs] at HSH
  clear hs
  go_enter Try.func7, Try.ntmps7
  go_wp2_with fail
  refine (awake_any _).mono ?_
  rintro e w1 ⟨rfl, hO1⟩
  have HO1 := Lib.hid hO1
  clear hO1
  go_wp2_with fail
  refine (HSH.out _ HO1.out).mono ?_
  rintro e w2 ⟨rfl, rfl⟩
  go_wp2_with fail
  refine (newBytes_st n _).mono ?_
  rintro e w3 ⟨q3, er3, rfl, hQ3, hO3⟩
  have HQ3 := Lib.hid (hQ3.base HO1.out.size)
  have HO3 := Lib.hid (HO1.out.thenNil hO3)
  clear hQ3 hO3
  go_wp2_with fail
  refine (Ref.newB_st n _).mono ?_
  rintro e w4 ⟨m4, B4, k4, c4, er4, rfl, hV4, hO4⟩
  have HV4 := Lib.hid hV4
  have HN4 := Lib.hid hO4
  have HO4 := Lib.hid (HO3.out.thenNil hO4)
  clear hV4 hO4
  obtain ⟨w5, hw5⟩ : ∃ w5, w4.alloc (.cells #[.int .i64 m4, .slice B4 k4 c4] 61) = w5 := ⟨_, rfl⟩
  have hO5 : Only Nil w4 w5 := by rw [← hw5]; exact (Only.refl _ _).alloc _
  have hb5 : Blk w5 w4.heap.size 61 #[.int .i64 m4, .slice B4 k4 c4] := by rw [← hw5]; exact Blk.new _ _ _
  obtain ⟨gp, hgp⟩ : ∃ gp, w4.heap.size = gp := ⟨_, rfl⟩
  have hgw : w.heap.size ≤ gp := by have := HO4.out.size; omega
  rw [hgp] at hb5
  have HF5 := Lib.hid (bst_of (gp := gp) HQ3.out HV4.out HO3.out HN4.out hgw (.inl hO5) hb5)
  have HO5 := Lib.hid (HO4.out.thenNil hO5)
  have HB5 := Lib.hid hb5
  obtain ⟨r, hr⟩ : ∃ r, (if 0 < b.length then decQ b else newR n) = r := ⟨_, rfl⟩
  obtain ⟨E, hE⟩ : ∃ E : Int, (if 0 < b.length then 4 else 2) = E := ⟨_, rfl⟩
  have hE0 : E ≠ 0 := by rw [← hE]; split <;> decide
  have HRE := Lib.hid (And.intro hr hE)
  have HE0 := Lib.hid hE0
  clear hr hE hE0 hO5 hb5 HQ3 HV4 HO3 HO4 HN4
  go_upto_if 41 with fail
  clear hw5 hgp
  go_cut [7, 8, 10] (fun q e f wc => ∃ (er er' m : Int) (B : Option Addr) (k c : Nat), e = .int .i64 er ∧ f = .int .i64 er' ∧ BSt r E w gp q er er' m B k c wc)
  case first =>
    by_cases h0 : 0 < b.length
    · obtain ⟨hr, hE⟩ := HRE.out
      rw [if_pos h0] at hr hE
      subst hr hE
      clear HF5
      go_wp2_with fail
      refine (decBytes_st Ab cb b _ ((HBB.out.onlyNil HO5.out (Nat.le_refl _)).up HO5.out.size) (by have := HBL.out; omega)).mono ?_
      rintro e w6 ⟨q6, er6, rfl, hQ6, hO6⟩
      have HQ6 := Lib.hid (hQ6.base HO5.out.size)
      have HB6 := Lib.hid (HB5.out.onlyNil hO6)
      have HO6 := Lib.hid (HO5.out.thenNil hO6)
      clear hQ6 hO6
      go_wp2_with fail
      refine (Ref.decBytes_st Ab cb b _ ((HBB.out.onlyNil HO6.out (Nat.le_refl _)).up HO6.out.size) (by have := HBL.out; omega) HBC.out HBM.out).mono ?_
      rintro e w7 ⟨m7, B7, k7, c7, er7, rfl, hV7, hO7⟩
      have hb7 := HB6.out.onlyNil hO7
      have f7 : ∀ i, w7.frozen? ⟨gp, i, none⟩ = false := fun i => hb7.frozen i
      have g7 : ∀ i, w7.cell? ⟨gp, i, none⟩ = #[Value.int .i64 m4, .slice B4 k4 c4][i]? := fun i => hb7.cell i
      have hS7 : Only (One gp) w7 ((w7.setCell ⟨gp, 0, none⟩ (.int .i64 m7)).setCell ⟨gp, 1, none⟩ (.slice B7 k7 c7)) := ((Only.refl _ _).setCell (p := ⟨gp, 0, none⟩) (Or.inl (show One gp gp from rfl)) _).setCell (p := ⟨gp, 1, none⟩) (Or.inl (show One gp gp from rfl)) _
      have hb8 : Blk ((w7.setCell ⟨gp, 0, none⟩ (.int .i64 m7)).setCell ⟨gp, 1, none⟩ (.slice B7 k7 c7)) gp 61 #[.int .i64 m7, .slice B7 k7 c7] := by
        have := (hb7.set_ 0 (.int .i64 m7)).set_ 1 (.slice B7 k7 c7)
        simpa using this
      have HF := Lib.hid (bst_of HQ6.out hV7 HO6.out hO7 hgw (.inr ⟨_, hb7, hS7⟩) hb8)
      clear hV7 hO7 hb7 hS7 hb8
      go_wp2_with fail
      go_meet
      case rel => exact ⟨er6, er7, m7, B7, k7, c7, rfl, rfl, HF.out⟩
    · obtain ⟨hr, hE⟩ := HRE.out
      rw [if_neg h0] at hr hE
      subst hr hE
      go_wp2_with fail
      go_meet
      case rel => exact ⟨er3, er4, m4, B4, k4, c4, rfl, rfl, HF5.out⟩
  case rest =>
    obtain ⟨er, er', m, B, k, c, rfl, rfl, hS⟩ := hcut
    clear HF5 HB5 HO5
    rcases r with _ | ⟨nn, x0⟩
    · obtain ⟨rfl, e1, e2, hO⟩ := hS
      subst er er'
      have HO := Lib.hid hO
      have he1 : (E != E) = false := by simp
      have he2 : (E != 0) = true := by simpa using HE0.out
      have he3 : (E == 0) = false := by simpa using HE0.out
      clear hO
      go_wp2_with fail
      refine wp_loop_rounds 1 ?_
      rw [rounds_succ]
      go_wp2_with fail
      all_goals
        go_ret
        exact ⟨rfl, HO.out⟩
    · obtain ⟨rfl, rfl, rfl, rfl, p, g, rfl, hL⟩ := hS
      have HL0 := Lib.hid hL
      clear hL
      go_wp2_with fail
      go_loopw [11] (fun i wr => ∃ (k : Nat) (x : List UInt8) (B : Option Addr) (c : Nat), k ≤ len ∧ i = .int .i64 k ∧ RL w wr p g gp nn x B c) (fun i _ => len - (intOf i).toNat)
      case atStart => exact ⟨0, x0, B, c, Nat.zero_le _, rfl, HL0.out⟩
      case round =>
        obtain ⟨k, x, B, c, hk, rfl, hL⟩ := hrel
        have HI := Lib.hid hL
        clear HL0 hL
        by_cases hlt : k < len
        · obtain ⟨s, hs⟩ : ∃ s, xs[k]? = some s := ⟨xs[k]'(by rw [HL.out]; exact hlt), List.getElem?_eq_getElem _⟩
          obtain ⟨b0, off, rfl, hbw, hc⟩ := (HR.out.onlyNil HI.out.only (Nat.le_refl _)).row St.cells_len hs (by omega)
          have c0 : wr.cell? ⟨b0, off + k * 3, none⟩ = some (.int .i64 s.kind) := hc 0 _ rfl
          have c1 : wr.cell? ⟨b0, off + k * 3 + 1, none⟩ = some (.int .i64 s.n) := hc 1 _ rfl
          have c2 : wr.cell? ⟨b0, off + k * 3 + 2, none⟩ = some (.slice s.A s.b.length s.c) := hc 2 _ rfl
          have hbl := HSB.out s (List.mem_of_getElem? hs)
          obtain ⟨hcap, hcm, hbs⟩ := HB.out s (List.mem_of_getElem? hs)
          obtain ⟨sk, sn, sA, sc, sb⟩ := s
          dsimp only at c0 c1 c2 hbl hcap hcm hbs
          have HBS := Lib.hid hbs
          clear hc hs hbs
          unfold maxLen at hcm
          obtain ⟨w6, hw6⟩ : ∃ w6, wr.alloc (.cells #[.int .i64 sk, .int .i64 sn, .slice sA sb.length sc] 31) = w6 := ⟨_, rfl⟩
          have hO6 : Only Nil wr w6 := by rw [← hw6]; exact (Only.refl _ _).alloc _
          have hb6 : Blk w6 wr.heap.size 31 #[.int .i64 sk, .int .i64 sn, .slice sA sb.length sc] := by rw [← hw6]; exact Blk.new _ _ _
          obtain ⟨gs, hgs⟩ : ∃ gs, wr.heap.size = gs := ⟨_, rfl⟩
          rw [hgs] at hb6
          have ks0 : w6.cell? ⟨gs, 0, none⟩ = some (.int .i64 sk) := hb6.cell 0
          have HS6 := Lib.hid hb6
          have HI6 := Lib.hid (HI.out.onlyNil hO6)
          clear hO6 hb6 HI
          have HX6 := Lib.hid ((HBS.out.onlyNil HI6.out.only (Nat.le_refl _)).up HI6.out.only.size)
          obtain ⟨hroom, hn1, hn2⟩ := HI6.out.q.room
          have hki : (k : Int) < len := by omega
          go_upto_block 2 with fail
          clear hw6 hgs c0 c1 c2 ks0
          go_cut [13] (fun f wc => f = .bool true ∧ ∃ (x' : List UInt8) (B' : Option Addr) (c' : Nat), RL w wc p g gp nn x' B' c')
          case first =>
            have hb6 := HI6.out.v
            have hs6 := HS6.out
            have kg : ∀ i, w6.cell? ⟨gp, i, none⟩ = #[Value.int .i64 nn, .slice B x.length c][i]? := fun i => hb6.cell i
            have ks : ∀ i, w6.cell? ⟨gs, i, none⟩ = #[Value.int .i64 sk, .int .i64 sn, .slice sA sb.length sc][i]? := fun i => hs6.cell i
            have HBx := Lib.hid (Bs.of_own HI6.out.own).1
            clear hb6 hs6
            by_cases hk0 : sk = 0
            · have hk0' : (sk == 0) = true := by simp [hk0]
              clear hk0
              go_wp2_with fail
              refine (Ref.bput_any nn B c x sA sc sb w6 HBx.out HX6.out hcap hroom hn2 (by omega)).mono ?_
              obtain ⟨K, hK⟩ : ∃ K, min sb.length (nn - x.length) = K := ⟨_, rfl⟩
              rw [hK]
              rintro e w7 ⟨A7, c7, rfl, hc7, hown7, hO7⟩
              obtain ⟨y, hy⟩ : ∃ y, x ++ sb.take K = y := ⟨_, rfl⟩
              rw [hy] at hc7 hown7 ⊢
              have htk : sb.take (nn - x.length) = sb.take K := by
                rw [← hK]
                rcases Nat.le_total sb.length (nn - x.length) with h1 | h1
                · rw [Nat.min_eq_left h1, List.take_of_length_le h1, List.take_length]
                · rw [Nat.min_eq_right h1]
              have HY := Lib.hid (show x ++ sb.take (nn - x.length) = y by rw [htk, hy])
              have HK := Lib.hid hK
              obtain ⟨g14, hg14⟩ : ∃ g14, w7.heap.size = g14 := ⟨_, rfl⟩
              obtain ⟨w8, hw8⟩ : ∃ w8, w7.alloc (.cells #[.int .i64 nn, .slice A7 y.length c7] 61) = w8 := ⟨_, rfl⟩
              have hO8 : Only Nil w7 w8 := by rw [← hw8]; exact (Only.refl _ _).alloc _
              have hb8 : Blk w8 g14 61 #[.int .i64 nn, .slice A7 y.length c7] := by rw [← hw8, ← hg14]; exact Blk.new _ _ _
              have HR8 := Lib.hid ((HI6.out.onlyNil hO7).onlyNil hO8)
              have hs8 := (HS6.out.onlyNil hO7).onlyNil hO8
              have ks8 : ∀ i, w8.cell? ⟨gs, i, none⟩ = #[Value.int .i64 sk, .int .i64 sn, .slice sA sb.length sc][i]? := fun i => hs8.cell i
              have HX8 := Lib.hid ((HX6.out.onlyNil (hO7.thenNil hO8) (Nat.le_refl _)).up (hO7.thenNil hO8).size)
              have HO8 := Lib.hid (hO7.thenNil hO8)
              have HW8 := Lib.hid (own_onlyNil hown7 hO8)
              have HB8 := Lib.hid hb8
              have HC7 := Lib.hid hc7
              have HG14 := Lib.hid (show w6.heap.size ≤ g14 by rw [← hg14]; exact hO7.size)
              clear hO7 hown7 hO8 hb8 hs8 hc7 htk hy hK kg ks
              go_wp2_with fail
              clear hw8 hg14
              have hsep : 0 < sb.length → ∀ a, sA = some a → ¬ TwoB p g a.block := fun h0 a ha => by
                obtain ⟨b1, o1, e1, h1, _⟩ := HBS.out.2 h0
                rw [ha] at e1
                injection e1 with e1
                subst e1
                have := HI6.out.far
                rintro (hx | hx) <;> (dsimp only at hx; omega)
              refine (put_any (b := sb) w8 HR8.out.q HX8.out hsep (by omega)).mono ?_
              rw [HK.out, HY.out]
              clear hsep
              rintro e w9 ⟨rfl, hq9, hO9⟩
              have hne : ¬ TwoB p g g14 := by
                have h1 := HI6.out.q.lt
                have h2 := HG14.out
                rintro (hx | hx) <;> omega
              have hb9 := HB8.out.only hO9 hne
              have hv8 := HR8.out.v
              have hnv : ¬ TwoB p g gp := by
                obtain ⟨f, ring, hf⟩ := HR8.out.q
                rintro (hx | hx)
                · exact hv8.ne_ hf.tb (by decide) hx
                · exact hv8.ne_ hf.sb (by decide) hx
              have hv9 := hv8.only hO9 hnv
              have k14 : ∀ i, w9.cell? ⟨g14, i, none⟩ = #[Value.int .i64 nn, .slice A7 y.length c7][i]? := fun i => hb9.cell i
              have fg : ∀ i, w9.frozen? ⟨gp, i, none⟩ = false := fun i => hv9.frozen i
              have kg9 : ∀ i, w9.cell? ⟨gp, i, none⟩ = #[Value.int .i64 nn, .slice B x.length c][i]? := fun i => hv9.cell i
              have hOf : Only (One gp) w9 ((w9.setCell ⟨gp, 0, none⟩ (.int .i64 nn)).setCell ⟨gp, 1, none⟩ (.slice A7 y.length c7)) := ((Only.refl _ _).setCell (p := ⟨gp, 0, none⟩) (Or.inl (show One gp gp from rfl)) _).setCell (p := ⟨gp, 1, none⟩) (Or.inl (show One gp gp from rfl)) _
              have hbf : Blk ((w9.setCell ⟨gp, 0, none⟩ (.int .i64 nn)).setCell ⟨gp, 1, none⟩ (.slice A7 y.length c7)) gp 61 #[.int .i64 nn, .slice A7 y.length c7] := by
                have := (hv9.set_ 0 (.int .i64 nn)).set_ 1 (.slice A7 y.length c7)
                simpa using this
              have hqf : RB ((w9.setCell ⟨gp, 0, none⟩ (.int .i64 nn)).setCell ⟨gp, 1, none⟩ (.slice A7 y.length c7)) p g nn y := hq9.only hOf (fun hx => hnv (.inl hx.symm)) (fun hx => hnv (.inr hx.symm))
              have how : ((w9.setCell ⟨gp, 0, none⟩ (.int .i64 nn)).setCell ⟨gp, 1, none⟩ (.slice A7 y.length c7)).ownsRow w6.heap.size 5 1 (.slice A7 y.length c7) y.length (bcells y) :=
                own_only (own_only HW8.out hO9 fun q hq hx => by
                  have h1 := ownBlock_ge HW8.out hq
                  have h2 := HI6.out.q.lt
                  rcases hx with hx | hx <;> omega) hOf fun q hq hx => by
                  have h1 := ownBlock_ge HW8.out hq
                  have h2 := HI6.out.v.lt
                  unfold One at hx
                  omega
              have HF := Lib.hid (HI6.out.next (((HO8.out.any (S := Thr p g gp)).then_ (hO9.more fun x hx => (by rcases hx with hx | hx; exact .inl hx; exact .inr (.inl hx)))).then_ (hOf.more fun x hx => .inr (.inr hx))) hqf hbf HC7.out how)
              have hKK : ((K : Int) == (K : Int)) = true := by simp
              clear hq9 hO9 hne hb9 hv8 hnv hv9 hOf hbf hqf how
              go_wp2_with fail
              go_meet
              case rel => exact ⟨rfl, y, A7, c7, HF.out⟩
            · have hk0' : (sk == 0) = false := by simp [hk0]
              by_cases hk1 : sk = 1
              · have hk1' : (sk == 1) = true := by simp [hk1]
                clear hk0 hk1
                go_wp2_with fail
                refine (Ref.btake_any nn B c x sn w6 HBx.out HI6.out.cap (by omega)).mono ?_
                obtain ⟨y, hy⟩ : ∃ y, x.drop sn.toNat = y := ⟨_, rfl⟩
                obtain ⟨z, hz⟩ : ∃ z, x.take sn.toNat = z := ⟨_, rfl⟩
                unfold BTakePost
                rw [hy, hz]
                rintro e w7 ⟨A7, c7, A2, c2, rfl, hc7, hown7, hB2, hO7⟩
                obtain ⟨g14, hg14⟩ : ∃ g14, w7.heap.size = g14 := ⟨_, rfl⟩
                obtain ⟨w8, hw8⟩ : ∃ w8, w7.alloc (.cells #[.int .i64 nn, .slice A7 y.length c7] 61) = w8 := ⟨_, rfl⟩
                have hO8 : Only Nil w7 w8 := by rw [← hw8]; exact (Only.refl _ _).alloc _
                have hb8 : Blk w8 g14 61 #[.int .i64 nn, .slice A7 y.length c7] := by rw [← hw8, ← hg14]; exact Blk.new _ _ _
                have HR8 := Lib.hid ((HI6.out.onlyNil hO7).onlyNil hO8)
                have hs8 := (HS6.out.onlyNil hO7).onlyNil hO8
                have ks8 : ∀ i, w8.cell? ⟨gs, i, none⟩ = #[Value.int .i64 sk, .int .i64 sn, .slice sA sb.length sc][i]? := fun i => hs8.cell i
                have HO8 := Lib.hid (hO7.thenNil hO8)
                have HW8 := Lib.hid (own_onlyNil hown7 hO8)
                have HB8 := Lib.hid hb8
                have HZ8 := Lib.hid ((hB2.onlyNil hO8 (Nat.le_refl _)).up hO8.size)
                have HC7 := Lib.hid hc7
                have HG14 := Lib.hid (show w6.heap.size ≤ g14 by rw [← hg14]; exact hO7.size)
                have HY := Lib.hid hy
                have HZ := Lib.hid hz
                clear hO7 hown7 hO8 hb8 hs8 hc7 hy hz hB2 kg ks
                go_wp2_with fail
                clear hw8 hg14
                refine (take_any sn w8 HR8.out.q).mono ?_
                unfold TakePost
                rw [HY.out, HZ.out]
                rintro e w9 ⟨⟨A3, c3, rfl, hc3, hown3, hO9⟩, hq9⟩
                have hne : ¬ One p g14 := by
                  have h1 := HI6.out.q.lt
                  have h2 := HG14.out
                  intro hx
                  unfold One at hx
                  omega
                have hb9 := HB8.out.only hO9 hne
                have hv8 := HR8.out.v
                have hnv : ¬ TwoB p g gp := by
                  obtain ⟨f, ring, hf⟩ := HR8.out.q
                  rintro (hx | hx)
                  · exact hv8.ne_ hf.tb (by decide) hx
                  · exact hv8.ne_ hf.sb (by decide) hx
                have hv9 := hv8.only hO9 (fun hx => hnv (.inl hx))
                have k14 : ∀ i, w9.cell? ⟨g14, i, none⟩ = #[Value.int .i64 nn, .slice A7 y.length c7][i]? := fun i => hb9.cell i
                have fg : ∀ i, w9.frozen? ⟨gp, i, none⟩ = false := fun i => hv9.frozen i
                have kg9 : ∀ i, w9.cell? ⟨gp, i, none⟩ = #[Value.int .i64 nn, .slice B x.length c][i]? := fun i => hv9.cell i
                have hOf : Only (One gp) w9 ((w9.setCell ⟨gp, 0, none⟩ (.int .i64 nn)).setCell ⟨gp, 1, none⟩ (.slice A7 y.length c7)) := ((Only.refl _ _).setCell (p := ⟨gp, 0, none⟩) (Or.inl (show One gp gp from rfl)) _).setCell (p := ⟨gp, 1, none⟩) (Or.inl (show One gp gp from rfl)) _
                have hbf : Blk ((w9.setCell ⟨gp, 0, none⟩ (.int .i64 nn)).setCell ⟨gp, 1, none⟩ (.slice A7 y.length c7)) gp 61 #[.int .i64 nn, .slice A7 y.length c7] := by
                  have := (hv9.set_ 0 (.int .i64 nn)).set_ 1 (.slice A7 y.length c7)
                  simpa using this
                have hqf : RB ((w9.setCell ⟨gp, 0, none⟩ (.int .i64 nn)).setCell ⟨gp, 1, none⟩ (.slice A7 y.length c7)) p g nn y := hq9.only hOf (fun hx => hnv (.inl hx.symm)) (fun hx => hnv (.inr hx.symm))
                have how : ((w9.setCell ⟨gp, 0, none⟩ (.int .i64 nn)).setCell ⟨gp, 1, none⟩ (.slice A7 y.length c7)).ownsRow w6.heap.size 5 1 (.slice A7 y.length c7) y.length (bcells y) :=
                  own_only (own_only HW8.out hO9 fun q hq hx => by
                    have h1 := ownBlock_ge HW8.out hq
                    have h2 := HI6.out.q.lt
                    unfold One at hx
                    omega) hOf fun q hq hx => by
                    have h1 := ownBlock_ge HW8.out hq
                    have h2 := HI6.out.v.lt
                    unfold One at hx
                    omega
                have HF := Lib.hid (HI6.out.next (((HO8.out.any (S := Thr p g gp)).then_ (hO9.more fun x hx => .inl hx)).then_ (hOf.more fun x hx => .inr (.inr hx))) hqf hbf HC7.out how)
                have hz9 : Bs w9 w9.heap.size A2 z := by
                  obtain ⟨f, ring, hf⟩ := HR8.out.q
                  exact (HZ8.out.box hf.tb (tb_no _ _ _ _ _) hO9 (Nat.le_refl _)).up hO9.size
                have HZ9 := Lib.hid hz9
                have HZ3 := Lib.hid (Bs.of_own hown3).1
                clear hq9 hO9 hne hb9 hv8 hnv hv9 hOf hbf hqf how hz9 hown3 hc3
                go_wp2_with fail
                refine (same_any A3 A2 c3 c2 z z w9 HZ3.out HZ9.out).mono ?_
                rw [beq_self_eq_true]
                rintro e w10 ⟨rfl, rfl⟩
                go_wp2_with fail
                go_meet
                case rel => exact ⟨rfl, y, A7, c7, HF.out⟩
              · have hk1' : (sk == 1) = false := by simp [hk1]
                by_cases hk2 : sk = 2
                · have hk2' : (sk == 2) = true := by simp [hk2]
                  clear hk0 hk1 hk2
                  go_wp2_with fail
                  refine (peek_any sn w6 HI6.out.q).mono ?_
                  obtain ⟨z, hz⟩ : ∃ z, x.take sn.toNat = z := ⟨_, rfl⟩
                  rw [hz]
                  rintro e w7 ⟨A3, c3, rfl, hc3, hown3, hO7⟩
                  have hs7 := HS6.out.onlyNil hO7
                  have hv7 := (HI6.out.onlyNil hO7).v
                  have ks7 : ∀ i, w7.cell? ⟨gs, i, none⟩ = #[Value.int .i64 sk, .int .i64 sn, .slice sA sb.length sc][i]? := fun i => hs7.cell i
                  have kg7 : ∀ i, w7.cell? ⟨gp, i, none⟩ = #[Value.int .i64 nn, .slice B x.length c][i]? := fun i => hv7.cell i
                  have HZ := Lib.hid hz
                  have HW7 := Lib.hid hown3
                  have HO7 := Lib.hid hO7
                  have HBx7 := Lib.hid ((HBx.out.onlyNil hO7 (Nat.le_refl _)).up hO7.size)
                  clear hz hown3 hO7 hs7 hv7 kg ks hc3
                  go_wp2_with fail
                  refine (Ref.bpeek_any nn B c x sn w7 HBx7.out HI6.out.cap (by omega)).mono ?_
                  rw [HZ.out]
                  rintro e w8 ⟨A4, c4, rfl, hc4, hown4, hO8⟩
                  have HW8 := Lib.hid (own_onlyNil HW7.out hO8)
                  have HB3 := Lib.hid (Bs.of_own (own_onlyNil HW7.out hO8)).1
                  have HB4 := Lib.hid (Bs.of_own hown4).1
                  have HO8 := Lib.hid (HO7.out.thenNil hO8)
                  clear hown4 hO8 ks7 kg7 hc4
                  go_wp2_with fail
                  refine (same_any A3 A4 c3 c4 z z w8 HB3.out HB4.out).mono ?_
                  rw [beq_self_eq_true]
                  rintro e w9 ⟨rfl, rfl⟩
                  rcases z with _ | ⟨z0, zs⟩
                  · have hzl : (([] : List UInt8).length : Int) = 0 := rfl
                    go_wp2_with fail
                    go_meet
                    case rel => exact ⟨rfl, x, B, c, HI6.out.onlyNil HO8.out⟩
                  · obtain ⟨g3, hA3, hg3, hlt3, hc3⟩ := own_cell HW8.out (j := 0) (u := .int .u8 (z0.toNat : Int)) rfl
                    have f3 : w9.frozen? ⟨g3, 0, none⟩ = false := own_frozen HW8.out hA3 0
                    subst hA3
                    have hzl : (0 : Int) < (((z0 :: zs).length : Nat) : Int) := by rw [List.length_cons]; omega
                    obtain ⟨N, hN⟩ : ∃ N, (z0 :: zs).length = N := ⟨_, rfl⟩
                    rw [hN] at hzl ⊢
                    clear hN
                    go_wp2_with fail
                    go_meet
                    case rel => exact ⟨rfl, x, B, c, HI6.out.onlyNil (HO8.out.setCell (Or.inr hg3) _)⟩
                · have hk2' : (sk == 2) = false := by simp [hk2]
                  clear hk0 hk1 hk2 kg ks
                  obtain ⟨vv, hvv⟩ : ∃ vv, firstB sb = vv := ⟨_, rfl⟩
                  have hfi : ∀ u, Only Nil w6 u → Calls Try.prog 29 #[.slice sA sb.length sc] u fun e w' => e = .returned (.int .u8 (vv.toNat : Int)) ∧ w' = u := fun u hu => by
                    rw [← hvv]
                    exact first_val sA sc sb u ((HX6.out.onlyNil hu (Nat.le_refl _)).up hu.size)
                  have hid : ∀ u, Only Nil w6 u → Calls Try.prog 28 #[.pointer (some ⟨p, 0, none⟩), .int .u8 (vv.toNat : Int)] u (IdxPost x vv u) := fun u hu => index_any vv u (HI6.out.onlyNil hu).q
                  have hri : ∀ u, Only Nil w6 u → Calls Try.prog 37 #[.agg #[.int .i64 nn, .slice B x.length c], .int .u8 (vv.toNat : Int)] u (IdxPost x vv u) := fun u hu => Ref.bindex_any nn B c x vv u ((HBx.out.onlyNil hu (Nat.le_refl _)).up hu.size) (by omega)
                  have hks : ∀ u, Only Nil w6 u → u.cell? ⟨gp, 0, none⟩ = some (.int .i64 nn) ∧ u.cell? ⟨gp, 1, none⟩ = some (.slice B x.length c) ∧ u.cell? ⟨gs, 2, none⟩ = some (.slice sA sb.length sc) := fun u hu => by
                    have h1 := (HI6.out.onlyNil hu).v
                    have h2 := HS6.out.onlyNil hu
                    rw [h1.cell, h1.cell, h2.cell]
                    exact ⟨rfl, rfl, rfl⟩
                  have HFI := Lib.hid hfi
                  have HID := Lib.hid hid
                  have HRI := Lib.hid hri
                  have HKS := Lib.hid hks
                  have hs0 := hks _ (Only.refl _ _).drew
                  clear hfi hid hri hks hvv
                  unfold IdxPost at HID HRI
                  go_wp2_with fail
                  go_region_held3 (fun u => u.cell? ⟨gp, 0, none⟩ = some (.int .i64 nn) ∧ u.cell? ⟨gp, 1, none⟩ = some (.slice B x.length c) ∧ u.cell? ⟨gs, 2, none⟩ = some (.slice sA sb.length sc)) (first | with_reducible assumption | go_keep)
                    (first
                      | (go_simp; go_at_call 37; refine (HRI.out _ hO2).mono ?_; rintro e u4 ⟨z4, rfl, hz4, hO4⟩; obtain rfl := hz2.one hz4; have hs4 := HKS.out _ (hO2.thenNil hO4))
                      | (go_simp; go_at_call 29; refine (HFI.out _ hO2).mono ?_; rintro e u3 ⟨rfl, rfl⟩; have hs3 := HKS.out _ hO2)
                      | (go_simp; go_at_call 28; refine (HID.out _ hO1).mono ?_; rintro e u2 ⟨z2, rfl, hz2, hO2⟩; replace hO2 := hO1.thenNil hO2; have hs2 := HKS.out _ hO2)
                      | (go_simp; go_at_call 29; have hO1 := (Only.refl Nil w6).drew; refine (HFI.out _ hO1).mono ?_; rintro e u1 ⟨rfl, rfl⟩; have hs1 := HKS.out _ hO1))
                  all_goals
                    go_wp2_with fail
                    go_meet
                    case rel => exact ⟨by first | rfl | simp, x, B, c, HI6.out.onlyNil (hO2.thenNil hO4)⟩
          case rest =>
            obtain ⟨rfl, x', B', c', hL7⟩ := hcut
            clear HI6 HS6 HX6
            have HL7 := Lib.hid hL7
            have hroom' := hL7.q.room.1
            obtain ⟨y, hy⟩ : ∃ y, encI nn ++ (encI x'.length ++ x') = y := ⟨_, rfl⟩
            obtain ⟨N, hN⟩ : ∃ N, y.length = N := ⟨_, rfl⟩
            obtain ⟨X, hX⟩ : ∃ X, x'.length = X := ⟨_, rfl⟩
            obtain ⟨F, hF⟩ : ∃ F : Int, (nn : Int) - X = F := ⟨_, rfl⟩
            have hlen : ∀ u, Only Nil wc u → Calls Try.prog 18 #[.pointer (some ⟨p, 0, none⟩)] u fun e u' => e = .returned (.int .i64 X) ∧ u' = u := fun u hu => by
              rw [← hX]
              exact len_any u (HL7.out.onlyNil hu).q
            have hfree : ∀ u, Only Nil wc u → Calls Try.prog 14 #[.pointer (some ⟨p, 0, none⟩)] u fun e u' => e = .returned (.int .i64 F) ∧ Only Nil u u' := fun u hu => by
              rw [← hF, ← hX]
              refine (free_any u (HL7.out.onlyNil hu).q).mono ?_
              rintro e u' ⟨rfl, n, rfl⟩
              exact ⟨rfl, (Only.refl _ _).drewN n⟩
            have henc : ∀ u, Only Nil wc u → Calls Try.prog 19 #[.pointer (some ⟨p, 0, none⟩)] u fun e u' => ∃ A c, e = .returned (.slice A N c) ∧ Bs u' u'.heap.size A y ∧ Only Nil u u' := fun u hu => by
              refine (encode_any u (HL7.out.onlyNil hu).q).mono ?_
              rw [List.append_assoc, hy]
              rintro e u' ⟨A, c, rfl, _, hown, hO⟩
              exact ⟨A, c, by rw [hN], (Bs.of_own hown).1, hO⟩
            have hrenc : ∀ u, Only Nil wc u → Calls Try.prog 38 #[.agg #[.int .i64 nn, .slice B' X c']] u fun e u' => ∃ A c, e = .returned (.slice A N c) ∧ Bs u' u'.heap.size A y ∧ Only Nil u u' := fun u hu => by
              rw [← hX]
              refine (Ref.bencode_any nn B' c' x' u (((Bs.of_own HL7.out.own).1.onlyNil hu (Nat.le_refl _)).up hu.size) (by omega) hn2).mono ?_
              rw [hy]
              rintro e u' ⟨A, c, rfl, _, hown, hO⟩
              exact ⟨A, c, by rw [hN], (Bs.of_own hown).1, hO⟩
            have hsame : ∀ (A A' : Option Addr) (c c' : Nat) u, Bs u u.heap.size A y → Bs u u.heap.size A' y → Calls Try.prog 16 #[.slice A N c, .slice A' N c'] u fun e u' => e = .returned (.bool true) ∧ u' = u := fun A A' c c' u h1 h2 => by
              have := same_any A A' c c' y y u h1 h2
              rwa [beq_self_eq_true, hN] at this
            have hks : ∀ u, Only Nil wc u → u.cell? ⟨gp, 0, none⟩ = some (.int .i64 nn) ∧ u.cell? ⟨gp, 1, none⟩ = some (.slice B' X c') := fun u hu => by
              have h1 := (HL7.out.onlyNil hu).v
              rw [h1.cell, h1.cell, ← hX]
              exact ⟨rfl, rfl⟩
            have HLEN := Lib.hid hlen
            have HFREE := Lib.hid hfree
            have HENC := Lib.hid henc
            have HRENC := Lib.hid hrenc
            have HSAME := Lib.hid hsame
            have HKS := Lib.hid hks
            have hs0 := hks _ (Only.refl _ _).drew
            have hX2 : X ≤ nn := by omega
            have hw1 : IntKind.i64.wrap (nn : Int) = nn := IntWalk.i64_in _ (by omega)
            have hw2 : (X : Int) + F = nn := by omega
            have hb1 : ((X : Int) != (X : Int)) = false := by simp
            have hb2 : ((nn : Int) != (nn : Int)) = false := by simp
            clear hlen hfree henc hrenc hsame hks hy hN hX hL7 hroom' hF hX2
            go_upto_region 32 with fail
            go_cut [168] (fun v wd => v = .bool false ∧ Only Nil wc wd)
            case first =>
              go_region_held3 (fun u => u.cell? ⟨gp, 0, none⟩ = some (.int .i64 nn) ∧ u.cell? ⟨gp, 1, none⟩ = some (.slice B' X c')) (first | with_reducible assumption | go_keep)
                (first
                  | (go_simp; go_at_call 16; refine (HSAME.out _ _ _ _ _ ((hB3.onlyNil hO4 (Nat.le_refl _)).up hO4.size) hB4).mono ?_; rintro e u5 ⟨rfl, rfl⟩; have hs5 := HKS.out _ (hO3.thenNil hO4))
                  | (go_simp; go_at_call 38; refine (HRENC.out _ hO3).mono ?_; rintro e u4 ⟨A4, c4, rfl, hB4, hO4⟩; have hs4 := HKS.out _ (hO3.thenNil hO4))
                  | (go_simp; go_at_call 19; refine (HENC.out _ hO2).mono ?_; rintro e u3 ⟨A3, c3, rfl, hB3, hO3⟩; replace hO3 := hO2.thenNil hO3; have hs3 := HKS.out _ hO3)
                  | (go_simp; go_at_call 14; refine (HFREE.out _ hO1).mono ?_; rintro e u2 ⟨rfl, hO2⟩; replace hO2 := hO1.thenNil hO2; have hs2 := HKS.out _ hO2)
                  | (go_simp; go_at_call 18; have hO1 := (Only.refl Nil wc).drew; refine (HLEN.out _ hO1).mono ?_; rintro e u1 ⟨rfl, rfl⟩; have hs1 := HKS.out _ hO1))
              all_goals
                go_wp2_with fail
                go_meet
                case rel => exact ⟨by first | rfl | simp, hO3.thenNil hO4⟩
            case rest =>
              obtain ⟨rfl, hOe⟩ := hcut
              have HE := Lib.hid hOe
              clear hOe hs0
              go_wp2_with fail
              go_roundw
              case rel => exact ⟨k + 1, x', B', c', by omega, by go_num, HL7.out.onlyNil HE.out⟩
              case measure => simp [intOf] <;> omega
        · obtain rfl : k = len := by omega
          go_wp2_with fail
          go_ret
          exact ⟨rfl, HI.out.only⟩

set_option maxRecDepth 100000 in
theorem from_args {H : Type} {enc : TypeId × Value → H} (W : World) (base : Nat) (args : Array Value) (ds : List (DataW H)) (ps : List MemPlace)
    (hval0 : ∀ (j : Nat) t v, Try.f7.params[j]? = some t → args[j]? = some v → Value.okWide Try.prog W .any base t v)
    (hA : DataW.TrodAll enc Try.prog W 0 (fun _ => true) true Try.f7.params.toList args.toList ds ps) (_hlt : ∀ x ∈ ps, x.block < W.heap.size)
    (hsz : (DataW.weightsEach Try.prog Try.f7.params.toList ds).all (· ≤ reachBytes) = true) : Calls Try.prog 7 args W (LawPost W) := by
  have hval := hval0
  rw [Try.params7] at hA hval hsz
  obtain ⟨v0, vs0, d0, ds0, p0, q0, hargs, rfl, rfl, h0, r0⟩ := trodAll_cons hA
  obtain ⟨v1, vs1, d1, ds1, p1, q1, rfl, rfl, rfl, h1, r1⟩ := trodAll_cons r0
  obtain ⟨v2, vs2, d2, ds2, p2, q2, rfl, rfl, rfl, h2, r2⟩ := trodAll_cons r1
  obtain ⟨rfl, rfl, rfl⟩ := trodAll_nil r2
  obtain rfl : args = #[v0, v1, v2] := by cases args; simp_all
  obtain ⟨Ab, b, cb, rfl, hb1, hb2, hb3⟩ := open_barg (hval 0 _ v0 rfl rfl) h0
  obtain ⟨A, len, cap, xs, rfl, hl, hm, hR, hB⟩ := open_steps (hval 1 _ v1 rfl rfl) h1
  obtain ⟨n, rfl, rfl, rfl, wn⟩ := open_int Try.underlying3 (hval 2 _ v2 rfl rfl) h2
  exact walk Ab cb b A len cap xs n W hb3 hb1 hb2 hl hm hR hB

set_option maxRecDepth 100000 in
theorem over : Rows.ringBytesRow.holds Try.pinned (OpenSpec.ofChange Rows.ringBytesSpec) :=
  OpenClaim.holds_of_wide 7 Try.f7 rfl rfl rfl rfl rfl rfl rfl ⟨rfl, rfl, rfl, rfl, rfl⟩ rfl rfl rfl rfl rfl (by kernel_rfl) Try.func7 (by kernel_rfl)
    (of_decide_eq_true (by kernel_rfl)) (by unfold Func.isWrapper; first | (rw [if_pos (by decide +kernel)]; kernel_rfl) | (rw [if_neg (by decide +kernel)]; exact ⟨rfl, rfl⟩))
    (fun os started H enc _ => law_lifted (f := 7) (F := Try.f7) (s := Rows.ringBytesSpec) os started H enc (by kernel_rfl) Try.func7 rfl rfl (by kernel_rfl) (by kernel_rfl)
      (fun ds hd => by match ds, hd with | [_, _, _], _ => rfl)
      (ChangeSpec.witness6 (enc := enc) (C := Try.checked) false ⟨#[], #[.slice none 0 0, .slice none 0 0, .int .i64 0], []⟩ 8 (by kernel_rfl) (by kernel_rfl) (by kernel_rfl) (by kernel_rfl))
      (fun W base args ds ps hv hA hlt hsz => from_args W base args ds ps hv hA hlt hsz))

/-- The statement. -/
theorem proved : Rows.RingBytesSaid := over

end ringBytes
end Go.Proofs.Ytljfblnpgeconaa
