/-
  The law StreamValid: for valid ends, all functions return valid ends.
  No conditions.
-/
import Derived.Test.YtfichoekjjcjiaaStL1
import Derived.Test.YtfichoekjjcjiaaStQ2
import Derived.Deep.LoopGhost
namespace Go.Proofs.Ytfichoekjjcjiaa
open Go.ChangeShapes Go.WideShapes Go.ChangeAt Go.RowKit

namespace streamValid
set_option maxRecDepth 100000 in
set_option maxHeartbeats 4000000 in
theorem walk (l : Loc) (e : E) (A : Option Addr) (c : Nat) (p : Pk) (B : Option Addr) (cb : Nat) (b : List UInt8) (w : World) (h : EB w w.heap.size l e) (hp : PB w w.heap.size A c p) (hb : Bs w w.heap.size B b) (hbl : b.length ≤ maxLen) :
    Calls Try.prog 7 #[.agg (ecells l e).toArray, .agg (pcells A c p).toArray, .slice B b.length cb] w (LawPost w) := by
  obtain ⟨w2, hw2⟩ : ∃ w2, w2 = (w.alloc (.cells (ecells l e).toArray 24)).alloc (.cells (pcells A c p).toArray 26) := ⟨_, rfl⟩
  have hbx := BoxesL.mk2 w l e A c p
  rw [← hw2] at hbx
  have HX := Lib.hid hbx
  have HB := Lib.hid h
  have HP := Lib.hid hp
  have HD := Lib.hid hb
  clear hbx h hp hb
  have hF := few_any l e
  have hV := valid_any l e
  obtain ⟨out, base, closed, done, inn, next, ended, due⟩ := e
  obtain ⟨pair, side, seq, ack, fin, data⟩ := p
  unfold ecells pcells at hw2 ⊢
  unfold ecells at hF hV
  dsimp only at hw2 hF hV ⊢
  obtain ⟨fw, hfw⟩ : ∃ r, few ⟨out, base, closed, done, inn, next, ended, due⟩ = r := ⟨_, rfl⟩
  rw [hfw] at hF
  have HF := Lib.hid hF
  clear hF hfw
  unfold maxLen at hbl
  have hA0 : ∀ (P0 : Ending → World → Prop), True := fun _ => trivial
  clear hA0
  by_cases hv : VE ⟨out, base, closed, done, inn, next, ended, due⟩
  rotate_left
  · rw [decide_eq_false hv] at hV
    have HV := Lib.hid hV
    clear hV
    by_cases hd : (200 : Int) < data.length
    all_goals by_cases hbb : (300 : Int) < b.length
    all_goals cases fw
    all_goals
      go_enter Try.func7, Try.ntmps7
      go_wp2_with fail
      refine (awake_any _).mono ?_
      rintro x w3 ⟨rfl, hO3⟩
      have HO3 : Hid (Only Nil w2 w3) := Lib.hid (by rw [hw2]; exact hO3)
      have k0 : ∀ i, w3.cell? ⟨w.heap.size, i, none⟩ = #[Value.slice l.Ao out.length l.co, .int .i64 base, .bool closed, .bool done, .slice l.Ai inn.length l.ci, .int .i64 next, .bool ended, .bool due][i]? := fun i => (HX.out.b0.onlyNil HO3.out).cell i
      clear hO3
      go_wp2_with fail
      refine (HF.out _).mono ?_
      rintro x w4 ⟨rfl, hO4⟩
      have HO4 := Lib.hid (HO3.out.thenNil hO4)
      have k04 : ∀ i, w4.cell? ⟨w.heap.size, i, none⟩ = #[Value.slice l.Ao out.length l.co, .int .i64 base, .bool closed, .bool done, .slice l.Ai inn.length l.ci, .int .i64 next, .bool ended, .bool due][i]? := fun i => (HX.out.b0.onlyNil HO4.out).cell i
      have k14 : ∀ i, w4.cell? ⟨w.heap.size + 1, i, none⟩ = #[Value.int .i64 pair, .int .i64 side, .int .i64 seq, .int .i64 ack, .bool fin, .slice A data.length c][i]? := fun i => (HX.out.b1.onlyNil HO4.out).cell i
      clear hO4 k0
      go_wp2_with fail
      first
        | (go_ret; exact ⟨rfl, HX.out.only.thenNil HO4.out⟩)
        | (refine (HV.out _).mono ?_; rintro x w5 ⟨rfl, hO5⟩; go_wp2_with fail; go_ret; exact ⟨rfl, HX.out.only.thenNil (HO4.out.thenNil hO5)⟩)
  rw [decide_eq_true hv] at hV
  have HV := Lib.hid hV
  clear hV
  go_enter Try.func7, Try.ntmps7
  go_wp2_with fail
  refine (awake_any _).mono ?_
  rintro x w3 ⟨rfl, hO3⟩
  have HO3 : Hid (Only Nil w2 w3) := Lib.hid (by rw [hw2]; exact hO3)
  have k0 : ∀ i, w3.cell? ⟨w.heap.size, i, none⟩ = #[Value.slice l.Ao out.length l.co, .int .i64 base, .bool closed, .bool done, .slice l.Ai inn.length l.ci, .int .i64 next, .bool ended, .bool due][i]? := fun i => (HX.out.b0.onlyNil HO3.out).cell i
  clear hO3
  go_wp2_with fail
  refine (HF.out _).mono ?_
  rintro x w4 ⟨rfl, hO4⟩
  have HO4 := Lib.hid (HO3.out.thenNil hO4)
  have k04 : ∀ i, w4.cell? ⟨w.heap.size, i, none⟩ = #[Value.slice l.Ao out.length l.co, .int .i64 base, .bool closed, .bool done, .slice l.Ai inn.length l.ci, .int .i64 next, .bool ended, .bool due][i]? := fun i => (HX.out.b0.onlyNil HO4.out).cell i
  have k14 : ∀ i, w4.cell? ⟨w.heap.size + 1, i, none⟩ = #[Value.int .i64 pair, .int .i64 side, .int .i64 seq, .int .i64 ack, .bool fin, .slice A data.length c][i]? := fun i => (HX.out.b1.onlyNil HO4.out).cell i
  clear hO4 k0
  cases fw
  · go_wp2_with fail
    go_ret
    exact ⟨rfl, HX.out.only.thenNil HO4.out⟩
  by_cases hd : (200 : Int) < data.length
  · go_wp2_with fail
    go_ret
    exact ⟨rfl, HX.out.only.thenNil HO4.out⟩
  by_cases hbb : (300 : Int) < b.length
  · go_wp2_with fail
    go_ret
    exact ⟨rfl, HX.out.only.thenNil HO4.out⟩
  go_wp2_with fail
  refine (HV.out _).mono ?_
  rintro x w5 ⟨rfl, hO5⟩
  have HO5 := Lib.hid (HO4.out.thenNil hO5)
  have k05 : ∀ i, w5.cell? ⟨w.heap.size, i, none⟩ = #[Value.slice l.Ao out.length l.co, .int .i64 base, .bool closed, .bool done, .slice l.Ai inn.length l.ci, .int .i64 next, .bool ended, .bool due][i]? := fun i => (HX.out.b0.onlyNil HO5.out).cell i
  clear hO5 k04 k14
  go_upto_region 5 with fail
  go_cut [7] (fun py wd => ∃ gy, py = .pointer (some ⟨gy, 0, none⟩) ∧ w.heap.size + 1 < gy ∧ Blk wd gy 29 (earr l ⟨out, base, closed, done, inn, next, ended, due⟩) ∧ Only Nil w2 wd)
  case first =>
    go_wp2_with fail
    go_meet
    case rel => exact ⟨w5.heap.size, rfl, (HX.out.b1.onlyNil HO5.out).lt, Blk.new _ _ _, HO5.out.alloc _⟩
  case rest =>
    obtain ⟨gy, rfl, hgy, hY, hO6⟩ := hcut
    clear k05
    have HW2 := Lib.hid hw2
    clear hw2
    have HY := Lib.hid hY
    have HO6 := Lib.hid hO6
    clear hY hO6
    go_wp2_with fail
    go_loopw [8] (fun i wr => ∃ k : Nat, k ≤ 5 ∧ i = .int .i64 k ∧ Blk wr gy 29 (earr l ⟨out, base, closed, done, inn, next, ended, due⟩) ∧ Only Nil w2 wr) (fun i _ => 5 - (intOf i).toNat)
    case atStart => exact ⟨0, by omega, rfl, HY.out, HO6.out⟩
    case round =>
      obtain ⟨k, hk, rfl, hY, hO⟩ := hrel
      have HYr := Lib.hid hY
      have HOr := Lib.hid hO
      have ky : ∀ i, wr.cell? ⟨gy, i, none⟩ = #[Value.slice l.Ao out.length l.co, .int .i64 base, .bool closed, .bool done, .slice l.Ai inn.length l.ci, .int .i64 next, .bool ended, .bool due][i]? := fun i => hY.cell i
      have kyA : ∀ o i, (wr.alloc o).cell? ⟨gy, i, none⟩ = #[Value.slice l.Ao out.length l.co, .int .i64 base, .bool closed, .bool done, .slice l.Ai inn.length l.ci, .int .i64 next, .bool ended, .bool due][i]? := fun o i => (hY.alloc o).cell i
      have kpA : ∀ o i, (wr.alloc o).cell? ⟨w.heap.size + 1, i, none⟩ = #[Value.int .i64 pair, .int .i64 side, .int .i64 seq, .int .i64 ack, .bool fin, .slice A data.length c][i]? := fun o i => ((HX.out.b1.onlyNil hO).alloc o).cell i
      have hZ := Blk.new wr 29 #[Value.slice l.Ao out.length l.co, .int .i64 base, .bool closed, .bool done, .slice l.Ai inn.length l.ci, .int .i64 next, .bool ended, .bool due]
      have HZ := Lib.hid hZ
      have HOZ := Lib.hid (hO.alloc (.cells #[Value.slice l.Ao out.length l.co, .int .i64 base, .bool closed, .bool done, .slice l.Ai inn.length l.ci, .int .i64 next, .bool ended, .bool due] 29))
      have HGY := Lib.hid hY.lt
      have HSZ := Lib.hid (Nat.le_trans HX.out.only.size hO.size)
      clear hY hO hZ
      by_cases h5 : k = 5
      · subst h5
        go_wp2_with fail
        refine (again_any l ⟨out, base, closed, done, inn, next, ended, due⟩ _ (HB.out.next (HX.out.only.thenNil HOr.out)) (by have := hv.1; dsimp only at this ⊢; omega) (by have := hv.2.1; dsimp only at this ⊢; omega)).mono ?_
        rintro x w7 ⟨l7, rfl, hE7, hO7⟩
        have hVa := valid_any l7 (againE ⟨out, base, closed, done, inn, next, ended, due⟩) w7
        rw [decide_eq_true (again_valid hv)] at hVa
        unfold ecells at hVa
        have HVa := Lib.hid hVa
        clear hVa
        go_wp2_with fail
        refine (HVa.out).mono ?_
        rintro x w8 ⟨rfl, hO8⟩
        go_wp2_with fail
        go_ret
        exact ⟨rfl, ((HX.out.only.thenNil HOr.out).thenNil hO7).thenNil hO8⟩
      by_cases hk0 : k = 0
      · subst hk0
        clear h5
        obtain ⟨a, n, han⟩ : ∃ a n, writeE ⟨out, base, closed, done, inn, next, ended, due⟩ b = (a, n) := ⟨_, _, rfl⟩
        have HAN := Lib.hid han
        clear han
        go_wp2_with fail
        refine (write_any l ⟨out, base, closed, done, inn, next, ended, due⟩ B cb b _ (HB.out.next (HX.out.only.thenNil HOZ.out)) ((HD.out.onlyNil (HX.out.only.thenNil HOZ.out) (Nat.le_refl _)).up (HX.out.only.thenNil HOZ.out).size) (by omega)).mono ?_
        rw [HAN.out]
        rintro x w5 ⟨l5, rfl, hE5, hO5⟩
        have hz5 := HZ.out.onlyNil hO5
        have kz5 : ∀ i, w5.cell? ⟨wr.heap.size, i, none⟩ = #[Value.slice l.Ao out.length l.co, .int .i64 base, .bool closed, .bool done, .slice l.Ai inn.length l.ci, .int .i64 next, .bool ended, .bool due][i]? := fun i => hz5.cell i
        have fz5 : ∀ i, w5.frozen? ⟨wr.heap.size, i, none⟩ = false := fun i => hz5.frozen i
        have HZ5 := Lib.hid hz5
        have HO5 := Lib.hid hO5
        have HE5 := Lib.hid hE5
        clear hz5 hO5 hE5
        have hNx : ∀ w', Only (One wr.heap.size) w5 w' → Blk w' gy 29 (earr l ⟨out, base, closed, done, inn, next, ended, due⟩) ∧ Only Nil w2 w' := fun w' hO =>
          ⟨Blk.only ((HYr.out.alloc _).onlyNil HO5.out) hO (fun hx => by have := HGY.out; unfold One at hx; omega), (HOZ.out.thenNil HO5.out).trans hO (fun x hx => .inr (by have := HOr.out.size; unfold One at hx; omega))⟩
        have HNx := Lib.hid hNx
        clear hNx
        obtain ⟨aout, abase, aclosed, adone, ainn, anext, aended, adue⟩ := a
        by_cases hn : n = 0
        rotate_left
        · have hnb : (n == 0) = false := beq_false_of_ne hn
          go_wp2_with fail
          go_round
          case rel =>
            obtain ⟨h1, h2⟩ := HNx.out (put8 w5 wr.heap.size l5 ⟨aout, abase, aclosed, adone, ainn, anext, aended, adue⟩) (put8_only _ _ _ _)
            exact ⟨1, by omega, rfl, h1, h2⟩
          case measure => simp [intOf]
        · subst hn
          have hva := write_valid HAN.out
          have hv1 : ¬ (128 : Int) < ainn.length := by have := hva.2.1; dsimp only at this; omega
          have hv2 : ¬ (128 : Int) < aout.length := by have := hva.1; dsimp only at this; omega
          have hVa := valid_any l5 ⟨aout, abase, aclosed, adone, ainn, anext, aended, adue⟩
          rw [decide_eq_true hva] at hVa
          unfold ecells at hVa
          have HVa := Lib.hid hVa
          clear hVa hva
          go_wp2_with fail
          refine (HVa.out _).mono ?_
          rintro x w6 ⟨rfl, hO6'⟩
          have k6 : ∀ i, w6.cell? ⟨wr.heap.size, i, none⟩ = #[Value.slice l5.Ao aout.length l5.co, .int .i64 abase, .bool aclosed, .bool adone, .slice l5.Ai ainn.length l5.ci, .int .i64 anext, .bool aended, .bool adue][i]? := fun i => ((Blk.all8 HZ5.out rfl _ _ _ _ _ _ _ _).onlyNil hO6').cell i
          go_wp2_with fail
          go_round
          case rel =>
            obtain ⟨h1, h2⟩ := HNx.out w6 ((put8_only _ _ l5 ⟨aout, abase, aclosed, adone, ainn, anext, aended, adue⟩).then_ hO6'.any)
            exact ⟨1, by omega, rfl, h1, h2⟩
          case measure => simp [intOf]
      by_cases hk1 : k = 1
      · subst hk1
        clear h5
        obtain ⟨a, d, n, han⟩ : ∃ a d n, readE ⟨out, base, closed, done, inn, next, ended, due⟩ (b.length : Int) = (a, d, n) := ⟨_, _, _, rfl⟩
        have HAN := Lib.hid han
        clear han
        go_wp2_with fail
        refine (read_any l ⟨out, base, closed, done, inn, next, ended, due⟩ (b.length : Int) _ (HB.out.next (HX.out.only.thenNil HOZ.out)) (by omega)).mono ?_
        rw [HAN.out]
        rintro x w5 ⟨l5, A5, c5, rfl, hE5, hB5, hc5, hO5⟩
        have hz5 := HZ.out.onlyNil hO5
        have kz5 : ∀ i, w5.cell? ⟨wr.heap.size, i, none⟩ = #[Value.slice l.Ao out.length l.co, .int .i64 base, .bool closed, .bool done, .slice l.Ai inn.length l.ci, .int .i64 next, .bool ended, .bool due][i]? := fun i => hz5.cell i
        have fz5 : ∀ i, w5.frozen? ⟨wr.heap.size, i, none⟩ = false := fun i => hz5.frozen i
        have HZ5 := Lib.hid hz5
        have HO5 := Lib.hid hO5
        have HE5 := Lib.hid hE5
        clear hz5 hO5 hE5
        have hNx : ∀ w', Only (One wr.heap.size) w5 w' → Blk w' gy 29 (earr l ⟨out, base, closed, done, inn, next, ended, due⟩) ∧ Only Nil w2 w' := fun w' hO =>
          ⟨Blk.only ((HYr.out.alloc _).onlyNil HO5.out) hO (fun hx => by have := HGY.out; unfold One at hx; omega), (HOZ.out.thenNil HO5.out).trans hO (fun x hx => .inr (by have := HOr.out.size; unfold One at hx; omega))⟩
        have HNx := Lib.hid hNx
        clear hNx
        obtain ⟨aout, abase, aclosed, adone, ainn, anext, aended, adue⟩ := a
        by_cases hn : n = 0
        rotate_left
        · have hnb : (n == 0) = false := beq_false_of_ne hn
          go_wp2_with fail
          go_round
          case rel =>
            obtain ⟨h1, h2⟩ := HNx.out (put8 w5 wr.heap.size l5 ⟨aout, abase, aclosed, adone, ainn, anext, aended, adue⟩) (put8_only _ _ _ _)
            exact ⟨2, by omega, rfl, h1, h2⟩
          case measure => simp [intOf]
        · subst hn
          have hva := read_valid HAN.out
          have hv1 : ¬ (128 : Int) < ainn.length := by have := hva.2.1; dsimp only at this; omega
          have hv2 : ¬ (128 : Int) < aout.length := by have := hva.1; dsimp only at this; omega
          have hVa := valid_any l5 ⟨aout, abase, aclosed, adone, ainn, anext, aended, adue⟩
          rw [decide_eq_true hva] at hVa
          unfold ecells at hVa
          have HVa := Lib.hid hVa
          clear hVa hva
          go_wp2_with fail
          refine (HVa.out _).mono ?_
          rintro x w6 ⟨rfl, hO6'⟩
          have k6 : ∀ i, w6.cell? ⟨wr.heap.size, i, none⟩ = #[Value.slice l5.Ao aout.length l5.co, .int .i64 abase, .bool aclosed, .bool adone, .slice l5.Ai ainn.length l5.ci, .int .i64 anext, .bool aended, .bool adue][i]? := fun i => ((Blk.all8 HZ5.out rfl _ _ _ _ _ _ _ _).onlyNil hO6').cell i
          go_wp2_with fail
          go_round
          case rel =>
            obtain ⟨h1, h2⟩ := HNx.out w6 ((put8_only _ _ l5 ⟨aout, abase, aclosed, adone, ainn, anext, aended, adue⟩).then_ hO6'.any)
            exact ⟨2, by omega, rfl, h1, h2⟩
          case measure => simp [intOf]
      by_cases hk2 : k = 2
      · subst hk2
        clear h5
        obtain ⟨a, n, han⟩ : ∃ a n, closeE ⟨out, base, closed, done, inn, next, ended, due⟩ = (a, n) := ⟨_, _, rfl⟩
        have HAN := Lib.hid han
        clear han
        go_wp2_with fail
        refine (close_any l ⟨out, base, closed, done, inn, next, ended, due⟩ _ (HB.out.next (HX.out.only.thenNil HOZ.out))).mono ?_
        rw [HAN.out]
        rintro x w5 ⟨l5, rfl, hE5, hO5⟩
        have hz5 := HZ.out.onlyNil hO5
        have kz5 : ∀ i, w5.cell? ⟨wr.heap.size, i, none⟩ = #[Value.slice l.Ao out.length l.co, .int .i64 base, .bool closed, .bool done, .slice l.Ai inn.length l.ci, .int .i64 next, .bool ended, .bool due][i]? := fun i => hz5.cell i
        have fz5 : ∀ i, w5.frozen? ⟨wr.heap.size, i, none⟩ = false := fun i => hz5.frozen i
        have HZ5 := Lib.hid hz5
        have HO5 := Lib.hid hO5
        have HE5 := Lib.hid hE5
        clear hz5 hO5 hE5
        have hNx : ∀ w', Only (One wr.heap.size) w5 w' → Blk w' gy 29 (earr l ⟨out, base, closed, done, inn, next, ended, due⟩) ∧ Only Nil w2 w' := fun w' hO =>
          ⟨Blk.only ((HYr.out.alloc _).onlyNil HO5.out) hO (fun hx => by have := HGY.out; unfold One at hx; omega), (HOZ.out.thenNil HO5.out).trans hO (fun x hx => .inr (by have := HOr.out.size; unfold One at hx; omega))⟩
        have HNx := Lib.hid hNx
        clear hNx
        obtain ⟨aout, abase, aclosed, adone, ainn, anext, aended, adue⟩ := a
        by_cases hn : n = 0
        rotate_left
        · have hnb : (n == 0) = false := beq_false_of_ne hn
          go_wp2_with fail
          go_round
          case rel =>
            obtain ⟨h1, h2⟩ := HNx.out (put8 w5 wr.heap.size l5 ⟨aout, abase, aclosed, adone, ainn, anext, aended, adue⟩) (put8_only _ _ _ _)
            exact ⟨3, by omega, rfl, h1, h2⟩
          case measure => simp [intOf]
        · subst hn
          have hva := close_valid HAN.out
          have hv1 : ¬ (128 : Int) < ainn.length := by have := hva.2.1; dsimp only at this; omega
          have hv2 : ¬ (128 : Int) < aout.length := by have := hva.1; dsimp only at this; omega
          have hVa := valid_any l5 ⟨aout, abase, aclosed, adone, ainn, anext, aended, adue⟩
          rw [decide_eq_true hva] at hVa
          unfold ecells at hVa
          have HVa := Lib.hid hVa
          clear hVa hva
          go_wp2_with fail
          refine (HVa.out _).mono ?_
          rintro x w6 ⟨rfl, hO6'⟩
          have k6 : ∀ i, w6.cell? ⟨wr.heap.size, i, none⟩ = #[Value.slice l5.Ao aout.length l5.co, .int .i64 abase, .bool aclosed, .bool adone, .slice l5.Ai ainn.length l5.ci, .int .i64 anext, .bool aended, .bool adue][i]? := fun i => ((Blk.all8 HZ5.out rfl _ _ _ _ _ _ _ _).onlyNil hO6').cell i
          go_wp2_with fail
          go_round
          case rel =>
            obtain ⟨h1, h2⟩ := HNx.out w6 ((put8_only _ _ l5 ⟨aout, abase, aclosed, adone, ainn, anext, aended, adue⟩).then_ hO6'.any)
            exact ⟨3, by omega, rfl, h1, h2⟩
          case measure => simp [intOf]
      by_cases hk3 : k = 3
      · subst hk3
        clear h5
        obtain ⟨a, q, n, han⟩ : ∃ a q n, sendE ⟨out, base, closed, done, inn, next, ended, due⟩ pair side = (a, q, n) := ⟨_, _, _, rfl⟩
        have HAN := Lib.hid han
        clear han
        go_wp2_with fail
        refine (send_any l ⟨out, base, closed, done, inn, next, ended, due⟩ pair side _ (HB.out.next (HX.out.only.thenNil HOZ.out))).mono ?_
        rw [HAN.out]
        rintro x w5 ⟨l5, A5, c5, rfl, hE5, hP5, hO5⟩
        have hz5 := HZ.out.onlyNil hO5
        have kz5 : ∀ i, w5.cell? ⟨wr.heap.size, i, none⟩ = #[Value.slice l.Ao out.length l.co, .int .i64 base, .bool closed, .bool done, .slice l.Ai inn.length l.ci, .int .i64 next, .bool ended, .bool due][i]? := fun i => hz5.cell i
        have fz5 : ∀ i, w5.frozen? ⟨wr.heap.size, i, none⟩ = false := fun i => hz5.frozen i
        have HZ5 := Lib.hid hz5
        have HO5 := Lib.hid hO5
        have HE5 := Lib.hid hE5
        clear hz5 hO5 hE5
        have hNx : ∀ w', Only (One wr.heap.size) w5 w' → Blk w' gy 29 (earr l ⟨out, base, closed, done, inn, next, ended, due⟩) ∧ Only Nil w2 w' := fun w' hO =>
          ⟨Blk.only ((HYr.out.alloc _).onlyNil HO5.out) hO (fun hx => by have := HGY.out; unfold One at hx; omega), (HOZ.out.thenNil HO5.out).trans hO (fun x hx => .inr (by have := HOr.out.size; unfold One at hx; omega))⟩
        have HNx := Lib.hid hNx
        clear hNx
        obtain ⟨aout, abase, aclosed, adone, ainn, anext, aended, adue⟩ := a
        by_cases hn : n = 0
        rotate_left
        · have hnb : (n == 0) = false := beq_false_of_ne hn
          go_wp2_with fail
          go_round
          case rel =>
            obtain ⟨h1, h2⟩ := HNx.out (put8 w5 wr.heap.size l5 ⟨aout, abase, aclosed, adone, ainn, anext, aended, adue⟩) (put8_only _ _ _ _)
            exact ⟨4, by omega, rfl, h1, h2⟩
          case measure => simp [intOf]
        · subst hn
          have hva := send_valid HAN.out
          have hv1 : ¬ (128 : Int) < ainn.length := by have := hva.2.1; dsimp only at this; omega
          have hv2 : ¬ (128 : Int) < aout.length := by have := hva.1; dsimp only at this; omega
          have hVa := valid_any l5 ⟨aout, abase, aclosed, adone, ainn, anext, aended, adue⟩
          rw [decide_eq_true hva] at hVa
          unfold ecells at hVa
          have HVa := Lib.hid hVa
          clear hVa hva
          go_wp2_with fail
          refine (HVa.out _).mono ?_
          rintro x w6 ⟨rfl, hO6'⟩
          have k6 : ∀ i, w6.cell? ⟨wr.heap.size, i, none⟩ = #[Value.slice l5.Ao aout.length l5.co, .int .i64 abase, .bool aclosed, .bool adone, .slice l5.Ai ainn.length l5.ci, .int .i64 anext, .bool aended, .bool adue][i]? := fun i => ((Blk.all8 HZ5.out rfl _ _ _ _ _ _ _ _).onlyNil hO6').cell i
          go_wp2_with fail
          go_round
          case rel =>
            obtain ⟨h1, h2⟩ := HNx.out w6 ((put8_only _ _ l5 ⟨aout, abase, aclosed, adone, ainn, anext, aended, adue⟩).then_ hO6'.any)
            exact ⟨4, by omega, rfl, h1, h2⟩
          case measure => simp [intOf]
      obtain rfl : k = 4 := by omega
      · clear h5
        obtain ⟨a, n, han⟩ : ∃ a n, recvE ⟨out, base, closed, done, inn, next, ended, due⟩ ⟨pair, side, seq, ack, fin, data⟩ = (a, n) := ⟨_, _, rfl⟩
        have HAN := Lib.hid han
        clear han
        go_wp2_with fail
        refine (receive_any l ⟨out, base, closed, done, inn, next, ended, due⟩ A c ⟨pair, side, seq, ack, fin, data⟩ _ (HB.out.next (HX.out.only.thenNil HOZ.out)) (HP.out.next (HX.out.only.thenNil HOZ.out))).mono ?_
        rw [HAN.out]
        rintro x w5 ⟨l5, rfl, hE5, hO5⟩
        have hz5 := HZ.out.onlyNil hO5
        have kz5 : ∀ i, w5.cell? ⟨wr.heap.size, i, none⟩ = #[Value.slice l.Ao out.length l.co, .int .i64 base, .bool closed, .bool done, .slice l.Ai inn.length l.ci, .int .i64 next, .bool ended, .bool due][i]? := fun i => hz5.cell i
        have fz5 : ∀ i, w5.frozen? ⟨wr.heap.size, i, none⟩ = false := fun i => hz5.frozen i
        have HZ5 := Lib.hid hz5
        have HO5 := Lib.hid hO5
        have HE5 := Lib.hid hE5
        clear hz5 hO5 hE5
        have hNx : ∀ w', Only (One wr.heap.size) w5 w' → Blk w' gy 29 (earr l ⟨out, base, closed, done, inn, next, ended, due⟩) ∧ Only Nil w2 w' := fun w' hO =>
          ⟨Blk.only ((HYr.out.alloc _).onlyNil HO5.out) hO (fun hx => by have := HGY.out; unfold One at hx; omega), (HOZ.out.thenNil HO5.out).trans hO (fun x hx => .inr (by have := HOr.out.size; unfold One at hx; omega))⟩
        have HNx := Lib.hid hNx
        clear hNx
        obtain ⟨aout, abase, aclosed, adone, ainn, anext, aended, adue⟩ := a
        by_cases hn : n = 0
        rotate_left
        · have hnb : (n == 0) = false := beq_false_of_ne hn
          go_wp2_with fail
          go_round
          case rel =>
            obtain ⟨h1, h2⟩ := HNx.out (put8 w5 wr.heap.size l5 ⟨aout, abase, aclosed, adone, ainn, anext, aended, adue⟩) (put8_only _ _ _ _)
            exact ⟨5, by omega, rfl, h1, h2⟩
          case measure => simp [intOf]
        · subst hn
          have hva := recv_valid HAN.out
          have hv1 : ¬ (128 : Int) < ainn.length := by have := hva.2.1; dsimp only at this; omega
          have hv2 : ¬ (128 : Int) < aout.length := by have := hva.1; dsimp only at this; omega
          have hVa := valid_any l5 ⟨aout, abase, aclosed, adone, ainn, anext, aended, adue⟩
          rw [decide_eq_true hva] at hVa
          unfold ecells at hVa
          have HVa := Lib.hid hVa
          clear hVa hva
          go_wp2_with fail
          refine (HVa.out _).mono ?_
          rintro x w6 ⟨rfl, hO6'⟩
          have k6 : ∀ i, w6.cell? ⟨wr.heap.size, i, none⟩ = #[Value.slice l5.Ao aout.length l5.co, .int .i64 abase, .bool aclosed, .bool adone, .slice l5.Ai ainn.length l5.ci, .int .i64 anext, .bool aended, .bool adue][i]? := fun i => ((Blk.all8 HZ5.out rfl _ _ _ _ _ _ _ _).onlyNil hO6').cell i
          go_wp2_with fail
          go_round
          case rel =>
            obtain ⟨h1, h2⟩ := HNx.out w6 ((put8_only _ _ l5 ⟨aout, abase, aclosed, adone, ainn, anext, aended, adue⟩).then_ hO6'.any)
            exact ⟨5, by omega, rfl, h1, h2⟩
          case measure => simp [intOf]

set_option maxRecDepth 100000 in
theorem from_args {H : Type} {enc : TypeId × Value → H} (W : World) (base : Nat) (args : Array Value) (ds : List (DataW H)) (ps : List MemPlace)
    (hval0 : ∀ (j : Nat) t v, Try.f7.params[j]? = some t → args[j]? = some v → Value.okWide Try.prog W .any base t v)
    (hA : DataW.TrodAll enc Try.prog W 0 (fun _ => true) true Try.f7.params.toList args.toList ds ps) (_hlt : ∀ x ∈ ps, x.block < W.heap.size)
    (hsz : (DataW.weightsEach Try.prog Try.f7.params.toList ds).all (· ≤ reachBytes) = true) : Calls Try.prog 7 args W (LawPost W) := by
  have hval := hval0
  rw [Try.params7] at hA hval hsz
  obtain ⟨v0, vs0, d0, ds0, p0, q0, hargs, rfl, rfl, h0, r0⟩ := trodAll_cons hA
  obtain ⟨v1, vs1, d1, ds1, p1, q1, rfl, rfl, rfl, h1, r1⟩ := trodAll_cons r0
  obtain ⟨v2, vs2, d2, ds2, p2, q2, rfl, rfl, rfl, h2, r2⟩ := trodAll_cons r1
  obtain ⟨rfl, rfl, rfl⟩ := trodAll_nil r2
  obtain rfl : args = #[v0, v1, v2] := by cases args; simp_all
  obtain ⟨l, e, rfl, hE⟩ := open_end (hval 0 _ v0 rfl rfl) h0
  obtain ⟨A, c, p, rfl, hP⟩ := open_pk (hval 1 _ v1 rfl rfl) h1
  obtain ⟨B, b, cb, rfl, hb1, hb2, hB⟩ := open_barg (hval 2 _ v2 rfl rfl) h2
  exact walk l e A c p B cb b W hE hP hB (by omega)

set_option maxRecDepth 100000 in
theorem over : Rows.streamValidRow.holds Try.pinned (OpenSpec.ofChange Rows.streamValidSpec) :=
  OpenClaim.holds_of_wide 7 Try.f7 rfl rfl rfl rfl rfl rfl rfl ⟨rfl, rfl, rfl, rfl, rfl⟩ rfl rfl rfl rfl rfl (by kernel_rfl) Try.func7 (by kernel_rfl)
    (of_decide_eq_true (by kernel_rfl)) (by unfold Func.isWrapper; first | (rw [if_pos (by decide +kernel)]; kernel_rfl) | (rw [if_neg (by decide +kernel)]; exact ⟨rfl, rfl⟩))
    (fun os started H enc _ => law_lifted (f := 7) (F := Try.f7) (s := Rows.streamValidSpec) os started H enc (by kernel_rfl) Try.func7 rfl rfl (by kernel_rfl) (by kernel_rfl)
      (fun ds hd => by match ds, hd with | [_, _, _], _ => rfl)
      (ChangeSpec.witness6 (enc := enc) (C := Try.checked) false ⟨#[], #[.agg #[.slice none 0 0, .int .i64 0, .bool false, .bool false, .slice none 0 0, .int .i64 0, .bool false, .bool false], .agg #[.int .i64 0, .int .i64 0, .int .i64 0, .int .i64 0, .bool false, .slice none 0 0], .slice none 0 0], []⟩ 8 (by kernel_rfl) (by kernel_rfl) (by kernel_rfl) (by kernel_rfl))
      (fun W base args ds ps hv hA hlt hsz => from_args W base args ds ps hv hA hlt hsz))

/-- The statement. -/
theorem proved : Rows.StreamValidSaid := over

end streamValid
end Go.Proofs.Ytfichoekjjcjiaa
