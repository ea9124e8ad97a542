/-
  The law StreamCalls: Valid, Write, Read, Close and Quiet return the specified results.
  No conditions.
-/
import Derived.Test.YtfichoekjjcjiaaStL1
import Derived.Test.YtfichoekjjcjiaaStR4
namespace Go.Proofs.Ytfichoekjjcjiaa
open Go.ChangeShapes Go.WideShapes Go.ChangeAt Go.RowKit

namespace streamCalls
set_option maxRecDepth 100000 in
set_option maxHeartbeats 20000000 in
theorem walk (l : Loc) (e : E) (B : Option Addr) (cb : Nat) (b : List UInt8) (n : Int) (w : World) (h : EB w w.heap.size l e) (hb : Bs w w.heap.size B b) (hbl : b.length ≤ maxLen) (hn : -9223372036854775808 ≤ n ∧ n ≤ 9223372036854775807) :
    Calls Try.prog 6 #[.agg (ecells l e).toArray, .slice B b.length cb, .int .i64 n] w (LawPost w) := by
  obtain ⟨w2, hw2⟩ : ∃ w2, w2 = w.alloc (.cells (ecells l e).toArray 24) := ⟨_, rfl⟩
  have hx : Blk w2 w.heap.size 24 (earr l e) := by rw [hw2]; exact Blk.new _ _ _
  have hxo : Only Nil w w2 := by rw [hw2]; exact (Only.refl _ _).alloc _
  have HX := Lib.hid hx
  have HXO := Lib.hid hxo
  have HB := Lib.hid h
  have HD := Lib.hid hb
  clear hx hxo h hb
  have hF := few_any l e
  obtain ⟨out, base, closed, done, inn, next, ended, due⟩ := e
  unfold ecells at hw2 ⊢
  unfold ecells at hF
  dsimp only at hw2 hF ⊢
  obtain ⟨fw, hfw⟩ : ∃ r, few ⟨out, base, closed, done, inn, next, ended, due⟩ = r := ⟨_, rfl⟩
  rw [hfw] at hF
  have HF := Lib.hid hF
  clear hF hfw
  unfold maxLen at hbl
  go_enter Try.func6, Try.ntmps6
  go_wp2_with fail
  refine (awake_any _).mono ?_
  rintro x w3 ⟨rfl, hO3⟩
  have HO3 : Hid (Only Nil w2 w3) := Lib.hid (by rw [hw2]; exact hO3)
  have k0 : ∀ i, w3.cell? ⟨w.heap.size, i, none⟩ = #[Value.slice l.Ao out.length l.co, .int .i64 base, .bool closed, .bool done, .slice l.Ai inn.length l.ci, .int .i64 next, .bool ended, .bool due][i]? := fun i => (HX.out.onlyNil HO3.out).cell i
  have HW2 := Lib.hid hw2
  clear hO3 hw2
  go_wp2_with fail
  refine (HF.out _).mono ?_
  rintro x w4 ⟨rfl, hO4⟩
  have HO4 := Lib.hid (HO3.out.thenNil hO4)
  have k04 : ∀ i, w4.cell? ⟨w.heap.size, i, none⟩ = #[Value.slice l.Ao out.length l.co, .int .i64 base, .bool closed, .bool done, .slice l.Ai inn.length l.ci, .int .i64 next, .bool ended, .bool due][i]? := fun i => (HX.out.onlyNil HO4.out).cell i
  clear hO4 k0
  cases fw
  · go_wp2_with fail
    go_ret
    exact ⟨rfl, HXO.out.thenNil HO4.out⟩
  by_cases hbb : (300 : Int) < b.length
  · go_wp2_with fail
    go_ret
    exact ⟨rfl, HXO.out.thenNil HO4.out⟩
  have HBL : Hid (b.length ≤ 1099511627776) := Lib.hid (by omega)
  have HNN := Lib.hid hn
  clear hbl hn
  obtain ⟨wa, wn, hwa⟩ : ∃ a k, writeE ⟨out, base, closed, done, inn, next, ended, due⟩ b = (a, k) := ⟨_, _, rfl⟩
  obtain ⟨ra, rd, rn, hra⟩ : ∃ a d k, readE ⟨out, base, closed, done, inn, next, ended, due⟩ n = (a, d, k) := ⟨_, _, _, rfl⟩
  obtain ⟨ca, cn, hca⟩ : ∃ a k, closeE ⟨out, base, closed, done, inn, next, ended, due⟩ = (a, k) := ⟨_, _, rfl⟩
  have hEB : ∀ w', Only Nil w2 w' → EB w' w'.heap.size l ⟨out, base, closed, done, inn, next, ended, due⟩ := fun w' hO => HB.out.next (HXO.out.thenNil hO)
  have hBB : ∀ w', Only Nil w2 w' → Bs w' w'.heap.size B b := fun w' hO => (HD.out.onlyNil (HXO.out.thenNil hO) (Nat.le_refl _)).up (HXO.out.thenNil hO).size
  have hW : ∀ w', Only Nil w2 w' → Calls Try.prog 20 #[.agg #[Value.slice l.Ao out.length l.co, .int .i64 base, .bool closed, .bool done, .slice l.Ai inn.length l.ci, .int .i64 next, .bool ended, .bool due], .slice B b.length cb] w' (EPost (wa, wn) w') := fun w' hO => by
    rw [← hwa]
    exact write_any l ⟨out, base, closed, done, inn, next, ended, due⟩ B cb b w' (hEB w' hO) (hBB w' hO) HBL.out
  have hWr : ∀ w', Only Nil w2 w' → Calls Try.prog 22 #[.agg #[Value.slice l.Ao out.length l.co, .int .i64 base, .bool closed, .bool done, .slice l.Ai inn.length l.ci, .int .i64 next, .bool ended, .bool due], .slice B b.length cb] w' (EPost (wa, wn) w') := fun w' hO => by
    rw [← hwa]
    exact Ref.write_any l ⟨out, base, closed, done, inn, next, ended, due⟩ B cb b w' (hEB w' hO) (hBB w' hO) HBL.out
  have hR : ∀ w', Only Nil w2 w' → Calls Try.prog 21 #[.agg #[Value.slice l.Ao out.length l.co, .int .i64 base, .bool closed, .bool done, .slice l.Ai inn.length l.ci, .int .i64 next, .bool ended, .bool due], .int .i64 n] w' (RPost (ra, rd, rn) w') := fun w' hO => by
    rw [← hra]
    exact read_any l ⟨out, base, closed, done, inn, next, ended, due⟩ n w' (hEB w' hO) HNN.out
  have hRr : ∀ w', Only Nil w2 w' → Calls Try.prog 23 #[.agg #[Value.slice l.Ao out.length l.co, .int .i64 base, .bool closed, .bool done, .slice l.Ai inn.length l.ci, .int .i64 next, .bool ended, .bool due], .int .i64 n] w' (RPost (ra, rd, rn) w') := fun w' hO => by
    rw [← hra]
    exact Ref.read_any l ⟨out, base, closed, done, inn, next, ended, due⟩ n w' (hEB w' hO) HNN.out
  have hC : ∀ w', Only Nil w2 w' → Calls Try.prog 24 #[.agg #[Value.slice l.Ao out.length l.co, .int .i64 base, .bool closed, .bool done, .slice l.Ai inn.length l.ci, .int .i64 next, .bool ended, .bool due]] w' (EPost (ca, cn) w') := fun w' hO => by
    rw [← hca]
    exact close_any l ⟨out, base, closed, done, inn, next, ended, due⟩ w' (hEB w' hO)
  have hCr : ∀ w', Only Nil w2 w' → Calls Try.prog 25 #[.agg #[Value.slice l.Ao out.length l.co, .int .i64 base, .bool closed, .bool done, .slice l.Ai inn.length l.ci, .int .i64 next, .bool ended, .bool due]] w' (EPost (ca, cn) w') := fun w' hO => by
    rw [← hca]
    exact Ref.close_any l ⟨out, base, closed, done, inn, next, ended, due⟩ w' (hEB w' hO)
  have HW := Lib.hid hW
  have HWr := Lib.hid hWr
  have HR := Lib.hid hR
  have HRr := Lib.hid hRr
  have HC := Lib.hid hC
  have HCr := Lib.hid hCr
  clear hEB hBB hW hWr hR hRr hC hCr hwa hra hca
  go_upto_region 5 with fail
  go_cut [7] (fun py wd => ∃ gy, py = .pointer (some ⟨gy, 0, none⟩) ∧ Blk wd gy 29 (earr l ⟨out, base, closed, done, inn, next, ended, due⟩) ∧ w2.heap.size ≤ gy ∧ Only Nil w2 wd)
  case first =>
    go_wp2_with fail
    go_meet
    case rel => exact ⟨w4.heap.size, rfl, Blk.new _ _ _, HO4.out.size, HO4.out.alloc _⟩
  case rest =>
    obtain ⟨gy, rfl, hY, hgy, hO5⟩ := hcut
    have ky : ∀ i, wc.cell? ⟨gy, i, none⟩ = #[Value.slice l.Ao out.length l.co, .int .i64 base, .bool closed, .bool done, .slice l.Ai inn.length l.ci, .int .i64 next, .bool ended, .bool due][i]? := fun i => hY.cell i
    have kx5 : ∀ i, wc.cell? ⟨w.heap.size, i, none⟩ = #[Value.slice l.Ao out.length l.co, .int .i64 base, .bool closed, .bool done, .slice l.Ai inn.length l.ci, .int .i64 next, .bool ended, .bool due][i]? := fun i => (HX.out.onlyNil hO5).cell i
    have HY := Lib.hid hY
    have HO5 := Lib.hid hO5
    clear hY hO5 k04
    go_upto_region 6 with fail
    go_cut [8, 9] (fun pw v wd => ∃ g8, pw = .pointer (some ⟨g8, 0, none⟩) ∧ v = .int .i64 wn ∧ EBox 29 wd g8 wa ∧ gy < g8 ∧ Only Nil wc wd)
    case first =>
      go_wp2_with fail
      refine (HW.out _ HO5.out).mono ?_
      rintro x w5 ⟨l5, rfl, hE5, hO5⟩
      go_wp2_with fail
      go_meet
      case rel => exact ⟨w5.heap.size, rfl, rfl, EBox.new _ hE5, (HY.out.onlyNil hO5).lt, hO5.alloc _⟩
    case rest =>
      obtain ⟨g8, rfl, rfl, hE8, hg8, hO6⟩ := hcut
      have HY6 := Lib.hid (HY.out.onlyNil hO6)
      have HO6 := Lib.hid (HO5.out.thenNil hO6)
      have HE8 := Lib.hid hE8
      have kx6 : ∀ i, wc.cell? ⟨w.heap.size, i, none⟩ = #[Value.slice l.Ao out.length l.co, .int .i64 base, .bool closed, .bool done, .slice l.Ai inn.length l.ci, .int .i64 next, .bool ended, .bool due][i]? := fun i => (HX.out.onlyNil HO6.out).cell i
      clear hE8 hO6 ky kx5
      go_upto_region 7 with fail
      go_cut [10, 11] (fun pw v wd => ∃ g10, pw = .pointer (some ⟨g10, 0, none⟩) ∧ v = .int .i64 wn ∧ EBox 24 wd g10 wa ∧ g8 < g10 ∧ Only Nil wc wd)
      case first =>
        go_wp2_with fail
        refine (HWr.out _ HO6.out).mono ?_
        rintro x w5 ⟨l5, rfl, hE5, hO5⟩
        go_wp2_with fail
        go_meet
        case rel => exact ⟨w5.heap.size, rfl, rfl, EBox.new _ hE5, (HE8.out.onlyNil hO5).lt, hO5.alloc _⟩
      case rest =>
        obtain ⟨g10, rfl, rfl, hE10, hg10, hO7⟩ := hcut
        obtain ⟨l8, hb8, hl8⟩ := HE8.out.onlyNil hO7
        obtain ⟨l10, hb10, hl10⟩ := hE10
        have HY7 := Lib.hid (HY6.out.onlyNil hO7)
        have HO7 := Lib.hid (HO6.out.thenNil hO7)
        have HE8b := Lib.hid (show EBox 29 wc g8 wa from ⟨l8, hb8, hl8⟩)
        have HE10 := Lib.hid (show EBox 24 wc g10 wa from ⟨l10, hb10, hl10⟩)
        have HL8 := Lib.hid hl8
        have HL10 := Lib.hid hl10
        have k8 : ∀ i, wc.cell? ⟨g8, i, none⟩ = #[Value.slice l8.Ao wa.out.length l8.co, .int .i64 wa.base, .bool wa.closed, .bool wa.done, .slice l8.Ai wa.inn.length l8.ci, .int .i64 wa.next, .bool wa.ended, .bool wa.due][i]? := fun i => hb8.cell i
        have k10 : ∀ i, wc.cell? ⟨g10, i, none⟩ = #[Value.slice l10.Ao wa.out.length l10.co, .int .i64 wa.base, .bool wa.closed, .bool wa.done, .slice l10.Ai wa.inn.length l10.ci, .int .i64 wa.next, .bool wa.ended, .bool wa.due][i]? := fun i => hb10.cell i
        clear hb8 hl8 hb10 hl10 hO7 kx6
        go_upto_region 8 with fail
        go_cut [45] (fun v wd => v = .bool false ∧ Only Nil wc wd)
        case first =>
          go_wp2_with fail
          refine (equal_any l8 l10 wa wa _ HL8.out HL10.out).mono ?_
          rintro x w9 ⟨r, rfl, hr, hO9⟩
          obtain rfl : r = true := hr.2 rfl
          go_wp2_with fail
          go_meet
          case rel => exact ⟨by first | rfl | simp, hO9⟩
        case rest =>
          obtain ⟨rfl, hO8⟩ := hcut
          have HY8 := Lib.hid (HY7.out.onlyNil hO8)
          have HO8 := Lib.hid (HO7.out.thenNil hO8)
          have HE8c := Lib.hid (HE8b.out.onlyNil hO8)
          have HE10c := Lib.hid (HE10.out.onlyNil hO8)
          have ky8 : ∀ i, wc.cell? ⟨gy, i, none⟩ = #[Value.slice l.Ao out.length l.co, .int .i64 base, .bool closed, .bool done, .slice l.Ai inn.length l.ci, .int .i64 next, .bool ended, .bool due][i]? := fun i => HY8.out.cell i
          clear hO8 k8 k10
          go_upto_region 10 with fail
          go_cut [12, 9] (fun q v wd => ∃ As cs, q = .slice As rd.length cs ∧ v = .int .i64 rn ∧ EBox 29 wd g8 ra ∧ EBox 24 wd g10 wa ∧ Blk wd gy 29 (earr l ⟨out, base, closed, done, inn, next, ended, due⟩) ∧ Bs wd wd.heap.size As rd ∧ Only Nil w2 wd)
          case first =>
            go_wp2_with fail
            refine (HR.out _ HO8.out).mono ?_
            rintro x w5 ⟨l5, A5, c5, rfl, hE5, hB5, hc5, hO5⟩
            obtain ⟨lz, hbz, hlz⟩ := HE8c.out.onlyNil hO5
            have kz : ∀ i, w5.cell? ⟨g8, i, none⟩ = #[Value.slice lz.Ao wa.out.length lz.co, .int .i64 wa.base, .bool wa.closed, .bool wa.done, .slice lz.Ai wa.inn.length lz.ci, .int .i64 wa.next, .bool wa.ended, .bool wa.due][i]? := fun i => hbz.cell i
            have fz : ∀ i, w5.frozen? ⟨g8, i, none⟩ = false := fun i => hbz.frozen i
            have HBZ : Hid (EBox 29 w5 g8 wa) := Lib.hid ⟨lz, hbz, hlz⟩
            have HBZ' := Lib.hid hbz
            have HE5 := Lib.hid hE5
            have HB5 := Lib.hid hB5
            have HO5' := Lib.hid hO5
            clear hbz hlz hE5 hB5 hO5
            go_wp2_with fail
            go_meet
            case rel =>
              have hR : EBox 29 (put8 w5 g8 l5 ra) g8 ra ∧ EBox 24 (put8 w5 g8 l5 ra) g10 wa ∧ Blk (put8 w5 g8 l5 ra) gy 29 (earr l ⟨out, base, closed, done, inn, next, ended, due⟩) ∧ Bs (put8 w5 g8 l5 ra) (put8 w5 g8 l5 ra).heap.size A5 rd ∧ Only Nil w2 (put8 w5 g8 l5 ra) :=
                ⟨HBZ.out.put HE5.out, EBox.put_far HBZ.out (HE10c.out.onlyNil HO5'.out) (by omega), (HY8.out.onlyNil HO5'.out).only (put8_only _ _ _ _) (by unfold One; omega), (HB5.out.box HBZ'.out (earr_no lz wa) (put8_only _ _ _ _) (Nat.le_refl _)).up (put8_only w5 g8 l5 ra).size, (HO8.out.thenNil HO5'.out).trans (put8_only _ _ _ _) (fun x hx => .inr (by unfold One at hx; omega))⟩
              exact ⟨A5, c5, rfl, rfl, hR⟩
          case rest =>
            obtain ⟨As, cs, rfl, rfl, hE8, hE10, hY, hBs, hO9⟩ := hcut
            have kx9 : ∀ i, wc.cell? ⟨w.heap.size, i, none⟩ = #[Value.slice l.Ao out.length l.co, .int .i64 base, .bool closed, .bool done, .slice l.Ai inn.length l.ci, .int .i64 next, .bool ended, .bool due][i]? := fun i => (HX.out.onlyNil hO9).cell i
            have HE8d := Lib.hid hE8
            have HE10d := Lib.hid hE10
            have HY9 := Lib.hid hY
            have HBS := Lib.hid hBs
            have HO9 := Lib.hid hO9
            clear hE8 hE10 hY hBs hO9 ky8
            go_upto_region 11 with fail
            go_cut [13, 11] (fun q v wd => ∃ At ct, q = .slice At rd.length ct ∧ v = .int .i64 rn ∧ EBox 29 wd g8 ra ∧ EBox 24 wd g10 ra ∧ Blk wd gy 29 (earr l ⟨out, base, closed, done, inn, next, ended, due⟩) ∧ Bs wd wd.heap.size As rd ∧ Bs wd wd.heap.size At rd ∧ Only Nil w2 wd)
            case first =>
              go_wp2_with fail
              refine (HRr.out _ HO9.out).mono ?_
              rintro x w5 ⟨l5, A5, c5, rfl, hE5, hB5, hc5, hO5⟩
              obtain ⟨lz, hbz, hlz⟩ := HE10d.out.onlyNil hO5
              have kz : ∀ i, w5.cell? ⟨g10, i, none⟩ = #[Value.slice lz.Ao wa.out.length lz.co, .int .i64 wa.base, .bool wa.closed, .bool wa.done, .slice lz.Ai wa.inn.length lz.ci, .int .i64 wa.next, .bool wa.ended, .bool wa.due][i]? := fun i => hbz.cell i
              have fz : ∀ i, w5.frozen? ⟨g10, i, none⟩ = false := fun i => hbz.frozen i
              have HBZ : Hid (EBox 24 w5 g10 wa) := Lib.hid ⟨lz, hbz, hlz⟩
              have HBZ' := Lib.hid hbz
              have HE5 := Lib.hid hE5
              have HB5 := Lib.hid hB5
              have HO5' := Lib.hid hO5
              clear hbz hlz hE5 hB5 hO5
              go_wp2_with fail
              go_meet
              case rel =>
                have hbs : ∀ {A0 : Option Addr}, Bs w5 w5.heap.size A0 rd → Bs (put8 w5 g10 l5 ra) (put8 w5 g10 l5 ra).heap.size A0 rd := fun h => (h.box HBZ'.out (earr_no lz wa) (put8_only _ _ _ _) (Nat.le_refl _)).up (put8_only w5 g10 l5 ra).size
                have hR : EBox 29 (put8 w5 g10 l5 ra) g8 ra ∧ EBox 24 (put8 w5 g10 l5 ra) g10 ra ∧ Blk (put8 w5 g10 l5 ra) gy 29 (earr l ⟨out, base, closed, done, inn, next, ended, due⟩) ∧ Bs (put8 w5 g10 l5 ra) (put8 w5 g10 l5 ra).heap.size As rd ∧ Bs (put8 w5 g10 l5 ra) (put8 w5 g10 l5 ra).heap.size A5 rd ∧ Only Nil w2 (put8 w5 g10 l5 ra) :=
                  ⟨EBox.put_far HBZ.out (HE8d.out.onlyNil HO5'.out) (by omega), HBZ.out.put HE5.out, (HY9.out.onlyNil HO5'.out).only (put8_only _ _ _ _) (by unfold One; omega), hbs ((HBS.out.onlyNil HO5'.out (Nat.le_refl _)).up HO5'.out.size), hbs HB5.out, (HO9.out.thenNil HO5'.out).trans (put8_only _ _ _ _) (fun x hx => .inr (by unfold One at hx; omega))⟩
                exact ⟨A5, c5, rfl, rfl, hR⟩
            case rest =>
              obtain ⟨At, ct, rfl, rfl, hE8, hE10, hY, hBs, hBt, hO11⟩ := hcut
              obtain ⟨l8', hb8, hl8⟩ := hE8
              obtain ⟨l10', hb10, hl10⟩ := hE10
              have k8 : ∀ i, wc.cell? ⟨g8, i, none⟩ = #[Value.slice l8'.Ao ra.out.length l8'.co, .int .i64 ra.base, .bool ra.closed, .bool ra.done, .slice l8'.Ai ra.inn.length l8'.ci, .int .i64 ra.next, .bool ra.ended, .bool ra.due][i]? := fun i => hb8.cell i
              have k10 : ∀ i, wc.cell? ⟨g10, i, none⟩ = #[Value.slice l10'.Ao ra.out.length l10'.co, .int .i64 ra.base, .bool ra.closed, .bool ra.done, .slice l10'.Ai ra.inn.length l10'.ci, .int .i64 ra.next, .bool ra.ended, .bool ra.due][i]? := fun i => hb10.cell i
              have HE8e := Lib.hid (show EBox 29 wc g8 ra from ⟨l8', hb8, hl8⟩)
              have HE10e := Lib.hid (show EBox 24 wc g10 ra from ⟨l10', hb10, hl10⟩)
              have HY11 := Lib.hid hY
              have HO11 := Lib.hid hO11
              have HL8' := Lib.hid hl8
              have HL10' := Lib.hid hl10
              have HBS2 := Lib.hid hBs
              have HBT2 := Lib.hid hBt
              clear hb8 hl8 hb10 hl10 hY hBs hBt hO11 kx9
              go_upto_region 12 with fail
              go_cut [75] (fun v wd => v = .bool false ∧ Only Nil wc wd)
              case first =>
                go_wp2_with fail
                refine (equal_any l8' l10' ra ra _ HL8'.out HL10'.out).mono ?_
                rintro x w9 ⟨r, rfl, hr, hO9⟩
                obtain rfl : r = true := hr.2 rfl
                have s1 : (convert 22 9 (.slice As rd.length cs)).run Try.prog w9 = .ok (.string ⟨rd.toArray⟩) w9 := run_str (P := Try.prog) w9 22 9 5 Try.underlying22 Try.underlying5 Try.underlying9 (c := cs) (HBS2.out.onlyNil hO9 (Nat.le_refl _)) rfl
                have s2 : (convert 22 9 (.slice At rd.length ct)).run Try.prog w9 = .ok (.string ⟨rd.toArray⟩) w9 := run_str (P := Try.prog) w9 22 9 5 Try.underlying22 Try.underlying5 Try.underlying9 (c := ct) (HBT2.out.onlyNil hO9 (Nat.le_refl _)) rfl
                have HO9' := Lib.hid hO9
                clear hO9 hr
                go_wp2_with fail
                go_meet
                case rel => exact ⟨by first | rfl | simp, HO9'.out⟩
              case rest =>
                obtain ⟨rfl, hO12⟩ := hcut
                have HY12 := Lib.hid (HY11.out.onlyNil hO12)
                have HO12 := Lib.hid (HO11.out.thenNil hO12)
                have HE8f := Lib.hid (HE8e.out.onlyNil hO12)
                have HE10f := Lib.hid (HE10e.out.onlyNil hO12)
                have ky12 : ∀ i, wc.cell? ⟨gy, i, none⟩ = #[Value.slice l.Ao out.length l.co, .int .i64 base, .bool closed, .bool done, .slice l.Ai inn.length l.ci, .int .i64 next, .bool ended, .bool due][i]? := fun i => HY12.out.cell i
                clear hO12 k8 k10
                go_upto_region 14 with fail
                go_cut [9] (fun v wd => v = .int .i64 cn ∧ EBox 29 wd g8 ca ∧ EBox 24 wd g10 ra ∧ Blk wd gy 29 (earr l ⟨out, base, closed, done, inn, next, ended, due⟩) ∧ Only Nil w2 wd)
                case first =>
                  go_wp2_with fail
                  refine (HC.out _ HO12.out).mono ?_
                  rintro x w5 ⟨l5, rfl, hE5, hO5⟩
                  obtain ⟨lz, hbz, hlz⟩ := HE8f.out.onlyNil hO5
                  have kz : ∀ i, w5.cell? ⟨g8, i, none⟩ = #[Value.slice lz.Ao ra.out.length lz.co, .int .i64 ra.base, .bool ra.closed, .bool ra.done, .slice lz.Ai ra.inn.length lz.ci, .int .i64 ra.next, .bool ra.ended, .bool ra.due][i]? := fun i => hbz.cell i
                  have fz : ∀ i, w5.frozen? ⟨g8, i, none⟩ = false := fun i => hbz.frozen i
                  have HBZ : Hid (EBox 29 w5 g8 ra) := Lib.hid ⟨lz, hbz, hlz⟩
                  have HE5 := Lib.hid hE5
                  have HO5' := Lib.hid hO5
                  clear hbz hlz hE5 hO5
                  go_wp2_with fail
                  go_meet
                  case rel =>
                    have hR : EBox 29 (put8 w5 g8 l5 ca) g8 ca ∧ EBox 24 (put8 w5 g8 l5 ca) g10 ra ∧ Blk (put8 w5 g8 l5 ca) gy 29 (earr l ⟨out, base, closed, done, inn, next, ended, due⟩) ∧ Only Nil w2 (put8 w5 g8 l5 ca) :=
                      ⟨HBZ.out.put HE5.out, EBox.put_far HBZ.out (HE10f.out.onlyNil HO5'.out) (by omega), (HY12.out.onlyNil HO5'.out).only (put8_only _ _ _ _) (by unfold One; omega), (HO12.out.thenNil HO5'.out).trans (put8_only _ _ _ _) (fun x hx => .inr (by unfold One at hx; omega))⟩
                    exact ⟨rfl, hR⟩
                case rest =>
                  obtain ⟨rfl, hE8, hE10, hY, hO14⟩ := hcut
                  have kx14 : ∀ i, wc.cell? ⟨w.heap.size, i, none⟩ = #[Value.slice l.Ao out.length l.co, .int .i64 base, .bool closed, .bool done, .slice l.Ai inn.length l.ci, .int .i64 next, .bool ended, .bool due][i]? := fun i => (HX.out.onlyNil hO14).cell i
                  have HE8g := Lib.hid hE8
                  have HE10g := Lib.hid hE10
                  have HY14 := Lib.hid hY
                  have HO14 := Lib.hid hO14
                  clear hE8 hE10 hY hO14 ky12
                  go_upto_region 15 with fail
                  go_cut [11] (fun v wd => v = .int .i64 cn ∧ EBox 29 wd g8 ca ∧ EBox 24 wd g10 ca ∧ Blk wd gy 29 (earr l ⟨out, base, closed, done, inn, next, ended, due⟩) ∧ Only Nil w2 wd)
                  case first =>
                    go_wp2_with fail
                    refine (HCr.out _ HO14.out).mono ?_
                    rintro x w5 ⟨l5, rfl, hE5, hO5⟩
                    obtain ⟨lz, hbz, hlz⟩ := HE10g.out.onlyNil hO5
                    have kz : ∀ i, w5.cell? ⟨g10, i, none⟩ = #[Value.slice lz.Ao ra.out.length lz.co, .int .i64 ra.base, .bool ra.closed, .bool ra.done, .slice lz.Ai ra.inn.length lz.ci, .int .i64 ra.next, .bool ra.ended, .bool ra.due][i]? := fun i => hbz.cell i
                    have fz : ∀ i, w5.frozen? ⟨g10, i, none⟩ = false := fun i => hbz.frozen i
                    have HBZ : Hid (EBox 24 w5 g10 ra) := Lib.hid ⟨lz, hbz, hlz⟩
                    have HE5 := Lib.hid hE5
                    have HO5' := Lib.hid hO5
                    clear hbz hlz hE5 hO5
                    go_wp2_with fail
                    go_meet
                    case rel =>
                      have hR : EBox 29 (put8 w5 g10 l5 ca) g8 ca ∧ EBox 24 (put8 w5 g10 l5 ca) g10 ca ∧ Blk (put8 w5 g10 l5 ca) gy 29 (earr l ⟨out, base, closed, done, inn, next, ended, due⟩) ∧ Only Nil w2 (put8 w5 g10 l5 ca) :=
                        ⟨EBox.put_far HBZ.out (HE8g.out.onlyNil HO5'.out) (by omega), HBZ.out.put HE5.out, (HY14.out.onlyNil HO5'.out).only (put8_only _ _ _ _) (by unfold One; omega), (HO14.out.thenNil HO5'.out).trans (put8_only _ _ _ _) (fun x hx => .inr (by unfold One at hx; omega))⟩
                      exact ⟨rfl, hR⟩
                  case rest =>
                    obtain ⟨rfl, hE8, hE10, hY, hO15⟩ := hcut
                    obtain ⟨m8, hb8, hl8⟩ := hE8
                    obtain ⟨m10, hb10, hl10⟩ := hE10
                    have k8 : ∀ i, wc.cell? ⟨g8, i, none⟩ = #[Value.slice m8.Ao ca.out.length m8.co, .int .i64 ca.base, .bool ca.closed, .bool ca.done, .slice m8.Ai ca.inn.length m8.ci, .int .i64 ca.next, .bool ca.ended, .bool ca.due][i]? := fun i => hb8.cell i
                    have k10 : ∀ i, wc.cell? ⟨g10, i, none⟩ = #[Value.slice m10.Ao ca.out.length m10.co, .int .i64 ca.base, .bool ca.closed, .bool ca.done, .slice m10.Ai ca.inn.length m10.ci, .int .i64 ca.next, .bool ca.ended, .bool ca.due][i]? := fun i => hb10.cell i
                    have kx15 : ∀ i, wc.cell? ⟨w.heap.size, i, none⟩ = #[Value.slice l.Ao out.length l.co, .int .i64 base, .bool closed, .bool done, .slice l.Ai inn.length l.ci, .int .i64 next, .bool ended, .bool due][i]? := fun i => (HX.out.onlyNil hO15).cell i
                    have ky15 : ∀ i, wc.cell? ⟨gy, i, none⟩ = #[Value.slice l.Ao out.length l.co, .int .i64 base, .bool closed, .bool done, .slice l.Ai inn.length l.ci, .int .i64 next, .bool ended, .bool due][i]? := fun i => hY.cell i
                    have HL8f := Lib.hid (hl8.next ((Only.refl _ _).drew))
                    have HL10f := Lib.hid (hl10.next ((Only.refl _ _).drew))
                    have HY15 := Lib.hid hY
                    have HX15 := Lib.hid (HX.out.onlyNil hO15)
                    have HO15 := Lib.hid hO15
                    have hV := valid_any l ⟨out, base, closed, done, inn, next, ended, due⟩
                    have hVr := Ref.valid_any l ⟨out, base, closed, done, inn, next, ended, due⟩
                    have hQ := quiet_any l ⟨out, base, closed, done, inn, next, ended, due⟩
                    have hQr := Ref.quiet_any l ⟨out, base, closed, done, inn, next, ended, due⟩
                    unfold ecells at hV hVr hQ hQr
                    have HV := Lib.hid hV
                    have HVr := Lib.hid hVr
                    have HQ := Lib.hid hQ
                    have HQr := Lib.hid hQr
                    have HB8z := Lib.hid hb8
                    have HB10z := Lib.hid hb10
                    clear hb8 hl8 hb10 hl10 hY hO15 hV hVr hQ hQr k8 k10 kx15 ky15
                    have HKS : Hid (∀ w', Only Nil wc w' → (∀ i, w'.cell? ⟨g8, i, none⟩ = #[Value.slice m8.Ao ca.out.length m8.co, .int .i64 ca.base, .bool ca.closed, .bool ca.done, .slice m8.Ai ca.inn.length m8.ci, .int .i64 ca.next, .bool ca.ended, .bool ca.due][i]?) ∧ (∀ i, w'.cell? ⟨g10, i, none⟩ = #[Value.slice m10.Ao ca.out.length m10.co, .int .i64 ca.base, .bool ca.closed, .bool ca.done, .slice m10.Ai ca.inn.length m10.ci, .int .i64 ca.next, .bool ca.ended, .bool ca.due][i]?) ∧ (∀ i, w'.cell? ⟨gy, i, none⟩ = #[Value.slice l.Ao out.length l.co, .int .i64 base, .bool closed, .bool done, .slice l.Ai inn.length l.ci, .int .i64 next, .bool ended, .bool due][i]?) ∧ (∀ i, w'.cell? ⟨w.heap.size, i, none⟩ = #[Value.slice l.Ao out.length l.co, .int .i64 base, .bool closed, .bool done, .slice l.Ai inn.length l.ci, .int .i64 next, .bool ended, .bool due][i]?)) := Lib.hid (fun w' hO => ⟨fun i => (HB8z.out.onlyNil hO).cell i, fun i => (HB10z.out.onlyNil hO).cell i, fun i => (HY15.out.onlyNil hO).cell i, fun i => (HX15.out.onlyNil hO).cell i⟩)
                    have hs0 := HKS.out _ (Only.refl _ _).drew
                    go_upto_region 16 with fail
                    go_cut [6] (fun v wd => v = .bool true ∧ Only Nil wc wd)
                    case first =>
                      go_region_held3 (fun w' => (∀ i, w'.cell? ⟨g8, i, none⟩ = #[Value.slice m8.Ao ca.out.length m8.co, .int .i64 ca.base, .bool ca.closed, .bool ca.done, .slice m8.Ai ca.inn.length m8.ci, .int .i64 ca.next, .bool ca.ended, .bool ca.due][i]?) ∧ (∀ i, w'.cell? ⟨g10, i, none⟩ = #[Value.slice m10.Ao ca.out.length m10.co, .int .i64 ca.base, .bool ca.closed, .bool ca.done, .slice m10.Ai ca.inn.length m10.ci, .int .i64 ca.next, .bool ca.ended, .bool ca.due][i]?) ∧ (∀ i, w'.cell? ⟨gy, i, none⟩ = #[Value.slice l.Ao out.length l.co, .int .i64 base, .bool closed, .bool done, .slice l.Ai inn.length l.ci, .int .i64 next, .bool ended, .bool due][i]?) ∧ (∀ i, w'.cell? ⟨w.heap.size, i, none⟩ = #[Value.slice l.Ao out.length l.co, .int .i64 base, .bool closed, .bool done, .slice l.Ai inn.length l.ci, .int .i64 next, .bool ended, .bool due][i]?)) (first | with_reducible assumption | go_keep)
                        (first
                          | (go_simp; go_at_call 29; refine (HQr.out _).mono ?_; rintro x u9 ⟨rfl, hp9⟩; have hs9 := HKS.out u9 (by (repeat' (first | with_reducible exact Only.refl _ _ | with_reducible refine Only.setCell ?_ (Or.inl ?_) _ | with_reducible refine Only.drewN ?_ _ | with_reducible refine Only.drew ?_ | with_reducible refine Only.alloc ?_ _ | (first | with_reducible refine Only.thenNil ?_ hp9 | with_reducible refine Only.thenNil ?_ hp8 | with_reducible refine Only.thenNil ?_ hp7 | with_reducible refine Only.thenNil ?_ hp6 | with_reducible refine Only.thenNil ?_ hp5)))))
                          | (go_simp; go_at_call 28; refine (HQ.out _).mono ?_; rintro x u8 ⟨rfl, hp8⟩; have hs8 := HKS.out u8 (by (repeat' (first | with_reducible exact Only.refl _ _ | with_reducible refine Only.setCell ?_ (Or.inl ?_) _ | with_reducible refine Only.drewN ?_ _ | with_reducible refine Only.drew ?_ | with_reducible refine Only.alloc ?_ _ | (first | with_reducible refine Only.thenNil ?_ hp9 | with_reducible refine Only.thenNil ?_ hp8 | with_reducible refine Only.thenNil ?_ hp7 | with_reducible refine Only.thenNil ?_ hp6 | with_reducible refine Only.thenNil ?_ hp5)))))
                          | (go_simp; go_at_call 27; refine (HVr.out _).mono ?_; rintro x u7 ⟨rfl, hp7⟩; have hs7 := HKS.out u7 (by (repeat' (first | with_reducible exact Only.refl _ _ | with_reducible refine Only.setCell ?_ (Or.inl ?_) _ | with_reducible refine Only.drewN ?_ _ | with_reducible refine Only.drew ?_ | with_reducible refine Only.alloc ?_ _ | (first | with_reducible refine Only.thenNil ?_ hp9 | with_reducible refine Only.thenNil ?_ hp8 | with_reducible refine Only.thenNil ?_ hp7 | with_reducible refine Only.thenNil ?_ hp6 | with_reducible refine Only.thenNil ?_ hp5)))))
                          | (go_simp; go_at_call 26; refine (HV.out _).mono ?_; rintro x u6 ⟨rfl, hp6⟩; have hs6 := HKS.out u6 (by (repeat' (first | with_reducible exact Only.refl _ _ | with_reducible refine Only.setCell ?_ (Or.inl ?_) _ | with_reducible refine Only.drewN ?_ _ | with_reducible refine Only.drew ?_ | with_reducible refine Only.alloc ?_ _ | (first | with_reducible refine Only.thenNil ?_ hp9 | with_reducible refine Only.thenNil ?_ hp8 | with_reducible refine Only.thenNil ?_ hp7 | with_reducible refine Only.thenNil ?_ hp6 | with_reducible refine Only.thenNil ?_ hp5)))))
                          | (go_simp; go_at_call 13; refine (equal_any m8 m10 ca ca _ HL8f.out HL10f.out).mono ?_; rintro x u5 ⟨r, rfl, hr, hp5⟩; obtain rfl : r = true := hr.2 rfl; have hs5 := HKS.out u5 (by (repeat' (first | with_reducible exact Only.refl _ _ | with_reducible refine Only.setCell ?_ (Or.inl ?_) _ | with_reducible refine Only.drewN ?_ _ | with_reducible refine Only.drew ?_ | with_reducible refine Only.alloc ?_ _ | (first | with_reducible refine Only.thenNil ?_ hp9 | with_reducible refine Only.thenNil ?_ hp8 | with_reducible refine Only.thenNil ?_ hp7 | with_reducible refine Only.thenNil ?_ hp6 | with_reducible refine Only.thenNil ?_ hp5))))))
                      all_goals
                        go_wp2_with fail
                        go_meet
                        case rel => exact ⟨by first | rfl | simp, (by (repeat' (first | with_reducible exact Only.refl _ _ | with_reducible refine Only.setCell ?_ (Or.inl ?_) _ | with_reducible refine Only.drewN ?_ _ | with_reducible refine Only.drew ?_ | with_reducible refine Only.alloc ?_ _ | (first | with_reducible refine Only.thenNil ?_ hp9 | with_reducible refine Only.thenNil ?_ hp8 | with_reducible refine Only.thenNil ?_ hp7 | with_reducible refine Only.thenNil ?_ hp6 | with_reducible refine Only.thenNil ?_ hp5))))⟩
                    case rest =>
                      obtain ⟨rfl, hO16⟩ := hcut
                      go_wp2_with fail
                      go_ret
                      exact ⟨rfl, HXO.out.thenNil (HO15.out.thenNil hO16)⟩

set_option maxRecDepth 100000 in
theorem from_args {H : Type} {enc : TypeId × Value → H} (W : World) (base : Nat) (args : Array Value) (ds : List (DataW H)) (ps : List MemPlace)
    (hval0 : ∀ (j : Nat) t v, Try.f6.params[j]? = some t → args[j]? = some v → Value.okWide Try.prog W .any base t v)
    (hA : DataW.TrodAll enc Try.prog W 0 (fun _ => true) true Try.f6.params.toList args.toList ds ps) (_hlt : ∀ x ∈ ps, x.block < W.heap.size)
    (hsz : (DataW.weightsEach Try.prog Try.f6.params.toList ds).all (· ≤ reachBytes) = true) : Calls Try.prog 6 args W (LawPost W) := by
  have hval := hval0
  rw [Try.params6] at hA hval hsz
  obtain ⟨v0, vs0, d0, ds0, p0, q0, hargs, rfl, rfl, h0, r0⟩ := trodAll_cons hA
  obtain ⟨v1, vs1, d1, ds1, p1, q1, rfl, rfl, rfl, h1, r1⟩ := trodAll_cons r0
  obtain ⟨v2, vs2, d2, ds2, p2, q2, rfl, rfl, rfl, h2, r2⟩ := trodAll_cons r1
  obtain ⟨rfl, rfl, rfl⟩ := trodAll_nil r2
  obtain rfl : args = #[v0, v1, v2] := by cases args; simp_all
  obtain ⟨l, e, rfl, hE⟩ := open_end (hval 0 _ v0 rfl rfl) h0
  obtain ⟨B, b, cb, rfl, hb1, hb2, hB⟩ := open_barg (hval 1 _ v1 rfl rfl) h1
  obtain ⟨n, rfl, rfl, rfl, wn⟩ := open_int Try.underlying3 (hval 2 _ v2 rfl rfl) h2
  exact walk l e B cb b n W hE hB (by omega) (by have := wn; simp [Lit.wf, IntKind.min, IntKind.max, IntKind.signed, IntKind.bits] at this; omega)

set_option maxRecDepth 100000 in
theorem over : Rows.streamCallsRow.holds Try.pinned (OpenSpec.ofChange Rows.streamCallsSpec) :=
  OpenClaim.holds_of_wide 6 Try.f6 rfl rfl rfl rfl rfl rfl rfl ⟨rfl, rfl, rfl, rfl, rfl⟩ rfl rfl rfl rfl rfl (by kernel_rfl) Try.func6 (by kernel_rfl)
    (of_decide_eq_true (by kernel_rfl)) (by unfold Func.isWrapper; first | (rw [if_pos (by decide +kernel)]; kernel_rfl) | (rw [if_neg (by decide +kernel)]; exact ⟨rfl, rfl⟩))
    (fun os started H enc _ => law_lifted (f := 6) (F := Try.f6) (s := Rows.streamCallsSpec) os started H enc (by kernel_rfl) Try.func6 rfl rfl (by kernel_rfl) (by kernel_rfl)
      (fun ds hd => by match ds, hd with | [_, _, _], _ => rfl)
      (ChangeSpec.witness6 (enc := enc) (C := Try.checked) false ⟨#[], #[.agg #[.slice none 0 0, .int .i64 0, .bool false, .bool false, .slice none 0 0, .int .i64 0, .bool false, .bool false], .slice none 0 0, .int .i64 0], []⟩ 8 (by kernel_rfl) (by kernel_rfl) (by kernel_rfl) (by kernel_rfl))
      (fun W base args ds ps hv hA hlt hsz => from_args W base args ds ps hv hA hlt hsz))

/-- The statement. -/
theorem proved : Rows.StreamCallsSaid := over

end streamCalls
end Go.Proofs.Ytfichoekjjcjiaa
