/-
  The law StreamPackets: Send, Receive and Again return the specified results.
  No conditions.
-/
import Derived.Test.YtfichoekjjcjiaaStL1
import Derived.Test.YtfichoekjjcjiaaStR6
import Derived.Test.YtfichoekjjcjiaaStR8
import Derived.Deep.RegionHeld3
namespace Go.Proofs.Ytfichoekjjcjiaa
open Go.ChangeShapes Go.WideShapes Go.ChangeAt Go.RowKit

theorem open_pair {H : Type} {enc : TypeId × Value → H} {W : World} {v : Value} {d : DataW H} {p : List MemPlace} {base : Nat}
    (hv : Value.okWide Try.prog W .any base 36 v) (h : DataW.Trod enc Try.prog W 0 (fun _ => true) true 36 v d p) :
    ∃ n0 n1 : Int, v = .agg #[.int .i64 n0, .int .i64 n1] := by
  obtain ⟨cs, rfl, hcs⟩ := okWide_array Try.underlying36 hv
  obtain ⟨fuel, hf⟩ := h
  have hf' : DataW.trod enc Try.prog W 0 (fun _ => true) true fuel 36 cs.toList = some (d, p) := hf
  obtain ⟨zs, hzl, hzs, hzw⟩ := ints_of_array (n := 2) Try.underlying36 Try.underlying3 (by kernel_rfl) (by kernel_rfl) hf'
  match zs, hzl with
  | [z0, z1], _ =>
    refine ⟨z0, z1, ?_⟩
    have : cs = #[.int .i64 z0, .int .i64 z1] := by
      apply Array.toList_inj.1
      rw [hzs]
      rfl
    rw [this]

namespace streamPackets
/-- The boxes of the arguments: an end, a packet and two numbers. -/
structure BoxesK (w w2 : World) (l : Loc) (e : E) (A : Option Addr) (c : Nat) (p : Pk) (c0 c1 : Int) : Prop where
  only : Only Nil w w2
  b0 : Blk w2 w.heap.size 24 (earr l e)
  b1 : Blk w2 (w.heap.size + 1) 26 (parr A c p)
  b2 : Blk w2 (w.heap.size + 1 + 1) 36 #[.int .i64 c0, .int .i64 c1]
theorem BoxesK.mk3 (w : World) (l : Loc) (e : E) (A : Option Addr) (c : Nat) (p : Pk) (c0 c1 : Int) : BoxesK w (((w.alloc (.cells (ecells l e).toArray 24)).alloc (.cells (pcells A c p).toArray 26)).alloc (.cells #[.int .i64 c0, .int .i64 c1] 36)) l e A c p c0 c1 :=
  ⟨(((Only.refl _ _).alloc _).alloc _).alloc _, ((Blk.new w _ _).alloc _).alloc _, by
    have := (Blk.new (w.alloc (.cells (ecells l e).toArray 24)) 26 (pcells A c p).toArray).alloc (.cells #[.int .i64 c0, .int .i64 c1] 36)
    rw [World.size_alloc] at this
    exact this, by
    have := Blk.new ((w.alloc (.cells (ecells l e).toArray 24)).alloc (.cells (pcells A c p).toArray 26)) 36 #[.int .i64 c0, .int .i64 c1]
    rw [World.size_alloc, World.size_alloc] at this
    exact this⟩

theorem EBox.blk {t : TypeId} {w : World} {g : Nat} {e : E} (h : EBox t w g e) : ∃ l, (∀ i, w.cell? ⟨g, i, none⟩ = (earr l e)[i]?) ∧ (∀ i, w.frozen? ⟨g, i, none⟩ = false) ∧ EB w w.heap.size l e := by
  obtain ⟨l, hb, hl⟩ := h
  exact ⟨l, fun i => hb.cell i, fun i => hb.frozen i, hl⟩

set_option maxRecDepth 100000 in
set_option maxHeartbeats 20000000 in
theorem walk (l : Loc) (e : E) (A : Option Addr) (c : Nat) (p : Pk) (c0 c1 : Int) (w : World) (h : EB w w.heap.size l e) (hp : PB w w.heap.size A c p) :
    Calls Try.prog 4 #[.agg (ecells l e).toArray, .agg (pcells A c p).toArray, .agg #[.int .i64 c0, .int .i64 c1]] w (LawPost w) := by
  obtain ⟨w2, hw2⟩ : ∃ w2, w2 = ((w.alloc (.cells (ecells l e).toArray 24)).alloc (.cells (pcells A c p).toArray 26)).alloc (.cells #[.int .i64 c0, .int .i64 c1] 36) := ⟨_, rfl⟩
  have hbx := BoxesK.mk3 w l e A c p c0 c1
  rw [← hw2] at hbx
  have HX := Lib.hid hbx
  have HB := Lib.hid h
  have HP := Lib.hid hp
  clear hbx h hp
  have hF := few_any l e
  obtain ⟨sa, sp, sn, hsa⟩ : ∃ a q n, sendE e c0 c1 = (a, q, n) := ⟨_, _, _, rfl⟩
  obtain ⟨ra, rn, hra⟩ : ∃ a n, recvE e p = (a, n) := ⟨_, _, rfl⟩
  obtain ⟨aa, haa⟩ : ∃ a, againE e = a := ⟨_, rfl⟩
  have hS : ∀ w', Only Nil w2 w' → Calls Try.prog 14 #[.agg (ecells l e).toArray, .int .i64 c0, .int .i64 c1] w' (SPost (sa, sp, sn) w') := fun w' hO => by
    rw [← hsa]; exact send_any l e c0 c1 w' (HB.out.next (HX.out.only.thenNil hO))
  have hR : ∀ w', Only Nil w2 w' → Calls Try.prog 12 #[.agg (ecells l e).toArray, .agg (pcells A c p).toArray] w' (EPost (ra, rn) w') := fun w' hO => by
    rw [← hra]; exact receive_any l e A c p w' (HB.out.next (HX.out.only.thenNil hO)) (HP.out.next (HX.out.only.thenNil hO))
  have hSr : e.out.length ≤ 1099511627776 → e.inn.length ≤ 1099511627776 → ∀ w', Only Nil w2 w' → Calls Try.prog 15 #[.agg (ecells l e).toArray, .int .i64 c0, .int .i64 c1] w' (SPost (sa, sp, sn) w') := fun ho hi w' hO => by
    rw [← hsa]; exact Ref.send_any l e c0 c1 w' (HB.out.next (HX.out.only.thenNil hO)) ho hi
  have hRr : e.out.length ≤ 1099511627776 → e.inn.length ≤ 1099511627776 → ∀ w', Only Nil w2 w' → Calls Try.prog 17 #[.agg (ecells l e).toArray, .agg (pcells A c p).toArray] w' (EPost (ra, rn) w') := fun ho hi w' hO => by
    rw [← hra]; exact Ref.receive_any l e A c p w' (HB.out.next (HX.out.only.thenNil hO)) (HP.out.next (HX.out.only.thenNil hO)) ho hi
  have hA : e.out.length ≤ 1099511627776 → e.inn.length ≤ 1099511627776 → ∀ w', Only Nil w2 w' → Calls Try.prog 18 #[.agg (ecells l e).toArray] w' (APost aa w') := fun ho hi w' hO => by
    rw [← haa]; exact again_any l e w' (HB.out.next (HX.out.only.thenNil hO)) ho hi
  have hAr : e.out.length ≤ 1099511627776 → e.inn.length ≤ 1099511627776 → ∀ w', Only Nil w2 w' → Calls Try.prog 19 #[.agg (ecells l e).toArray] w' (APost aa w') := fun ho hi w' hO => by
    rw [← haa]; exact Ref.again_any l e w' (HB.out.next (HX.out.only.thenNil hO)) ho hi
  clear hsa hra haa
  obtain ⟨out, base, closed, done, inn, next, ended, due⟩ := e
  obtain ⟨pair, side, seq, ack, fin, data⟩ := p
  unfold ecells at hS hSr hA hAr
  unfold ecells pcells at hR hRr
  unfold ecells pcells at hw2 ⊢
  unfold ecells at hF
  dsimp only at hw2 hF hS hR hSr hRr hA hAr ⊢
  obtain ⟨fw, hfw⟩ : ∃ r, few ⟨out, base, closed, done, inn, next, ended, due⟩ = r := ⟨_, rfl⟩
  rw [hfw] at hF
  have hlo : fw = true → out.length ≤ 1099511627776 ∧ inn.length ≤ 1099511627776 := fun h => by
    rw [h] at hfw
    unfold few at hfw
    simp only [Bool.and_eq_true, decide_eq_true_eq] at hfw
    omega
  have HF := Lib.hid hF
  have HS := Lib.hid hS
  have HR := Lib.hid hR
  have HSr := Lib.hid hSr
  have HRr := Lib.hid hRr
  have HA := Lib.hid hA
  have HAr := Lib.hid hAr
  have HLO := Lib.hid hlo
  clear hF hS hR hSr hRr hA hAr hfw hlo
  go_enter Try.func4, Try.ntmps4
  go_wp2_with fail
  refine (awake_any _).mono ?_
  rintro x w3 ⟨rfl, hO3⟩
  have HO3 : Hid (Only Nil w2 w3) := Lib.hid (by rw [hw2]; exact hO3)
  have k0 : ∀ i, w3.cell? ⟨w.heap.size, i, none⟩ = #[Value.slice l.Ao out.length l.co, .int .i64 base, .bool closed, .bool done, .slice l.Ai inn.length l.ci, .int .i64 next, .bool ended, .bool due][i]? := fun i => (HX.out.b0.onlyNil HO3.out).cell i
  have k1 : ∀ i, w3.cell? ⟨w.heap.size + 1, i, none⟩ = #[Value.int .i64 pair, .int .i64 side, .int .i64 seq, .int .i64 ack, .bool fin, .slice A data.length c][i]? := fun i => (HX.out.b1.onlyNil HO3.out).cell i
  clear hO3 hw2
  go_wp2_with fail
  refine (HF.out _).mono ?_
  rintro x w4 ⟨rfl, hO4⟩
  have HO4 := Lib.hid (HO3.out.thenNil hO4)
  have k04 : ∀ i, w4.cell? ⟨w.heap.size, i, none⟩ = #[Value.slice l.Ao out.length l.co, .int .i64 base, .bool closed, .bool done, .slice l.Ai inn.length l.ci, .int .i64 next, .bool ended, .bool due][i]? := fun i => (HX.out.b0.onlyNil HO4.out).cell i
  have k14 : ∀ i, w4.cell? ⟨w.heap.size + 1, i, none⟩ = #[Value.int .i64 pair, .int .i64 side, .int .i64 seq, .int .i64 ack, .bool fin, .slice A data.length c][i]? := fun i => (HX.out.b1.onlyNil HO4.out).cell i
  clear hO4 k0 k1
  cases fw
  · go_wp2_with fail
    go_ret
    exact ⟨rfl, HX.out.only.thenNil HO4.out⟩
  by_cases hd : (200 : Int) < data.length
  · go_wp2_with fail
    go_ret
    exact ⟨rfl, HX.out.only.thenNil HO4.out⟩
  obtain ⟨lo, li⟩ := HLO.out rfl
  have HSr2 := Lib.hid (HSr.out lo li)
  have HRr2 := Lib.hid (HRr.out lo li)
  have HA2 := Lib.hid (HA.out lo li)
  have HAr2 := Lib.hid (HAr.out lo li)
  clear lo li
  go_upto_region 5 with fail
  go_cut [7] (fun py wd => ∃ gy, py = .pointer (some ⟨gy, 0, none⟩) ∧ Blk wd gy 29 (earr l ⟨out, base, closed, done, inn, next, ended, due⟩) ∧ w2.heap.size ≤ gy ∧ Only Nil w2 wd)
  case first =>
    go_wp2_with fail
    go_meet
    case rel => exact ⟨w4.heap.size, rfl, Blk.new _ _ _, HO4.out.size, HO4.out.alloc _⟩
  case rest =>
    obtain ⟨gy, rfl, hY, hgy, hO5⟩ := hcut
    have ky : ∀ i, wc.cell? ⟨gy, i, none⟩ = #[Value.slice l.Ao out.length l.co, .int .i64 base, .bool closed, .bool done, .slice l.Ai inn.length l.ci, .int .i64 next, .bool ended, .bool due][i]? := fun i => hY.cell i
    have kc5 : ∀ i, wc.cell? ⟨w.heap.size + 1 + 1, i, none⟩ = #[Value.int .i64 c0, .int .i64 c1][i]? := fun i => (HX.out.b2.onlyNil hO5).cell i
    have HY := Lib.hid hY
    have HO5 := Lib.hid hO5
    clear hY hO5 k04 k14
    go_upto_region 6 with fail
    go_cut [8, 9, 10] (fun pa pq v wd => ∃ g8 g9, pa = .pointer (some ⟨g8, 0, none⟩) ∧ pq = .pointer (some ⟨g9, 0, none⟩) ∧ v = .int .i64 sn ∧ EBox 29 wd g8 sa ∧ PBox 33 wd g9 sp ∧ gy < g8 ∧ g8 < g9 ∧ Only Nil wc wd)
    case first =>
      go_wp2_with fail
      refine (HS.out _ HO5.out).mono ?_
      rintro x w5 ⟨l5, A5, c5, rfl, hE5, hP5, hO6⟩
      have hgl := (HY.out.onlyNil hO6).lt
      have HE5 := Lib.hid hE5
      have HP5 := Lib.hid hP5
      have HO6 := Lib.hid hO6
      clear hE5 hP5 hO6
      go_wp2_with fail
      go_meet
      case rel =>
        have hE := (EBox.new 29 HE5.out).onlyNil ((Only.refl _ _).alloc (.cells (parr A5 c5 sp) 33))
        have hP := PBox.new 33 (HP5.out.next ((Only.refl _ w5).alloc (.cells (earr l5 sa) 29)))
        rw [World.size_alloc] at hP
        have hO : Only Nil wc ((w5.alloc (.cells (earr l5 sa) 29)).alloc (.cells (parr A5 c5 sp) 33)) := (HO6.out.alloc _).alloc _
        exact ⟨w5.heap.size, w5.heap.size + 1, rfl, rfl, rfl, hE, hP, hgl, by omega, hO⟩
    case rest =>
      obtain ⟨g8, g9, rfl, rfl, rfl, hE8, hP9, hg8, hg9, hO6⟩ := hcut
      have HY6 := Lib.hid (HY.out.onlyNil hO6)
      have HO6 := Lib.hid (HO5.out.thenNil hO6)
      have HE8 := Lib.hid hE8
      have HP9 := Lib.hid hP9
      have kx6 : ∀ i, wc.cell? ⟨w.heap.size, i, none⟩ = #[Value.slice l.Ao out.length l.co, .int .i64 base, .bool closed, .bool done, .slice l.Ai inn.length l.ci, .int .i64 next, .bool ended, .bool due][i]? := fun i => (HX.out.b0.onlyNil HO6.out).cell i
      have kc6 : ∀ i, wc.cell? ⟨w.heap.size + 1 + 1, i, none⟩ = #[Value.int .i64 c0, .int .i64 c1][i]? := fun i => (HX.out.b2.onlyNil HO6.out).cell i
      clear hE8 hP9 hO6 ky kc5
      go_upto_region 7 with fail
      go_cut [11, 12, 13] (fun pa pq v wd => ∃ g11 g12, pa = .pointer (some ⟨g11, 0, none⟩) ∧ pq = .pointer (some ⟨g12, 0, none⟩) ∧ v = .int .i64 sn ∧ EBox 24 wd g11 sa ∧ PBox 26 wd g12 sp ∧ g9 < g11 ∧ g11 < g12 ∧ Only Nil wc wd)
      case first =>
        go_wp2_with fail
        refine (HSr2.out _ HO6.out).mono ?_
        rintro x w5 ⟨l5, A5, c5, rfl, hE5, hP5, hO7⟩
        have hgl := (HP9.out.onlyNil hO7).lt
        have HE5 := Lib.hid hE5
        have HP5 := Lib.hid hP5
        have HO7 := Lib.hid hO7
        clear hE5 hP5 hO7
        go_wp2_with fail
        go_meet
        case rel =>
          have hE := (EBox.new 24 HE5.out).onlyNil ((Only.refl _ _).alloc (.cells (parr A5 c5 sp) 26))
          have hP := PBox.new 26 (HP5.out.next ((Only.refl _ w5).alloc (.cells (earr l5 sa) 24)))
          rw [World.size_alloc] at hP
          have hO : Only Nil wc ((w5.alloc (.cells (earr l5 sa) 24)).alloc (.cells (parr A5 c5 sp) 26)) := (HO7.out.alloc _).alloc _
          exact ⟨w5.heap.size, w5.heap.size + 1, rfl, rfl, rfl, hE, hP, hgl, by omega, hO⟩
      case rest =>
        obtain ⟨g11, g12, rfl, rfl, rfl, hE11, hP12, hg11, hg12, hO7⟩ := hcut
        obtain ⟨l8, hb8, hl8⟩ := HE8.out.onlyNil hO7
        obtain ⟨A9, c9, hb9, hl9⟩ := HP9.out.onlyNil hO7
        obtain ⟨l11, hb11, hl11⟩ := hE11
        obtain ⟨A12, c12, hb12, hl12⟩ := hP12
        have HY7 := Lib.hid (HY6.out.onlyNil hO7)
        have HO7 := Lib.hid (HO6.out.thenNil hO7)
        have HB8 := Lib.hid hb8
        have HB9 := Lib.hid hb9
        have HB11 := Lib.hid hb11
        have HB12 := Lib.hid hb12
        have HL8 := Lib.hid hl8
        have HL9 := Lib.hid hl9
        have HL11 := Lib.hid hl11
        have HL12 := Lib.hid hl12
        have k8 : ∀ i, wc.cell? ⟨g8, i, none⟩ = #[Value.slice l8.Ao sa.out.length l8.co, .int .i64 sa.base, .bool sa.closed, .bool sa.done, .slice l8.Ai sa.inn.length l8.ci, .int .i64 sa.next, .bool sa.ended, .bool sa.due][i]? := fun i => hb8.cell i
        have k11 : ∀ i, wc.cell? ⟨g11, i, none⟩ = #[Value.slice l11.Ao sa.out.length l11.co, .int .i64 sa.base, .bool sa.closed, .bool sa.done, .slice l11.Ai sa.inn.length l11.ci, .int .i64 sa.next, .bool sa.ended, .bool sa.due][i]? := fun i => hb11.cell i
        clear hb8 hl8 hb9 hl9 hb11 hl11 hb12 hl12 hO7 kx6 kc6
        go_upto_region 8 with fail
        go_cut [60] (fun v wd => v = .bool false ∧ Only Nil wc wd)
        case first =>
          go_wp2_with fail
          refine (equal_any l8 l11 sa sa _ HL8.out HL11.out).mono ?_
          rintro x w8 ⟨r, rfl, hr, hO8⟩
          obtain rfl : r = true := hr.2 rfl
          have k9 : ∀ i, w8.cell? ⟨g9, i, none⟩ = #[Value.int .i64 sp.pair, .int .i64 sp.side, .int .i64 sp.seq, .int .i64 sp.ack, .bool sp.fin, .slice A9 sp.data.length c9][i]? := fun i => (HB9.out.onlyNil hO8).cell i
          have k12 : ∀ i, w8.cell? ⟨g12, i, none⟩ = #[Value.int .i64 sp.pair, .int .i64 sp.side, .int .i64 sp.seq, .int .i64 sp.ack, .bool sp.fin, .slice A12 sp.data.length c12][i]? := fun i => (HB12.out.onlyNil hO8).cell i
          have HO8 := Lib.hid hO8
          clear hr hO8 k8 k11
          go_wp2_with fail
          refine (Ref.pequal_any A9 A12 c9 c12 sp sp _ (HL9.out.next HO8.out) (HL12.out.next HO8.out)).mono ?_
          rintro x w9 ⟨r, rfl, hr, hO9⟩
          obtain rfl : r = true := hr.2 rfl
          have HO9 := Lib.hid (HO8.out.thenNil hO9)
          clear hr hO9 k9 k12
          go_wp2_with fail
          go_meet
          case rel => exact ⟨by first | rfl | simp, HO9.out⟩
        case rest =>
          obtain ⟨rfl, hO8⟩ := hcut
          have HY8 := Lib.hid (HY7.out.onlyNil hO8)
          have HO8 := Lib.hid (HO7.out.thenNil hO8)
          have HE8c := Lib.hid (show EBox 29 wc g8 sa from ⟨l8, HB8.out.onlyNil hO8, HL8.out.next hO8⟩)
          have HE11c := Lib.hid (show EBox 24 wc g11 sa from ⟨l11, HB11.out.onlyNil hO8, HL11.out.next hO8⟩)
          have ky8 : ∀ i, wc.cell? ⟨gy, i, none⟩ = #[Value.slice l.Ao out.length l.co, .int .i64 base, .bool closed, .bool done, .slice l.Ai inn.length l.ci, .int .i64 next, .bool ended, .bool due][i]? := fun i => HY8.out.cell i
          have kp8 : ∀ i, wc.cell? ⟨w.heap.size + 1, i, none⟩ = #[Value.int .i64 pair, .int .i64 side, .int .i64 seq, .int .i64 ack, .bool fin, .slice A data.length c][i]? := fun i => (HX.out.b1.onlyNil HO8.out).cell i
          clear hO8 k8 k11
          go_upto_region 10 with fail
          go_cut [10] (fun v wd => v = .int .i64 rn ∧ EBox 29 wd g8 ra ∧ EBox 24 wd g11 sa ∧ Blk wd gy 29 (earr l ⟨out, base, closed, done, inn, next, ended, due⟩) ∧ Only Nil w2 wd)
          case first =>
            go_wp2_with fail
            refine (HR.out _ HO8.out).mono ?_
            rintro x w5 ⟨l5, rfl, hE5, hO5⟩
            obtain ⟨lz, hbz, hlz⟩ := HE8c.out.onlyNil hO5
            have kz : ∀ i, w5.cell? ⟨g8, i, none⟩ = #[Value.slice lz.Ao sa.out.length lz.co, .int .i64 sa.base, .bool sa.closed, .bool sa.done, .slice lz.Ai sa.inn.length lz.ci, .int .i64 sa.next, .bool sa.ended, .bool sa.due][i]? := fun i => hbz.cell i
            have fz : ∀ i, w5.frozen? ⟨g8, i, none⟩ = false := fun i => hbz.frozen i
            have HBZ : Hid (EBox 29 w5 g8 sa) := Lib.hid ⟨lz, hbz, hlz⟩
            have HE5 := Lib.hid hE5
            have HO5' := Lib.hid hO5
            clear hbz hlz hE5 hO5 ky8 kp8
            go_wp2_with fail
            go_meet
            case rel =>
              have hR : EBox 29 (put8 w5 g8 l5 ra) g8 ra ∧ EBox 24 (put8 w5 g8 l5 ra) g11 sa ∧ Blk (put8 w5 g8 l5 ra) gy 29 (earr l ⟨out, base, closed, done, inn, next, ended, due⟩) ∧ Only Nil w2 (put8 w5 g8 l5 ra) :=
                ⟨HBZ.out.put HE5.out, EBox.put_far HBZ.out (HE11c.out.onlyNil HO5'.out) (by omega), (HY8.out.onlyNil HO5'.out).only (put8_only _ _ _ _) (by unfold One; omega), (HO8.out.thenNil HO5'.out).trans (put8_only _ _ _ _) (fun x hx => .inr (by unfold One at hx; omega))⟩
              exact ⟨rfl, hR⟩
          case rest =>
            obtain ⟨rfl, hE8, hE11, hY, hO10⟩ := hcut
            have kx10 : ∀ i, wc.cell? ⟨w.heap.size, i, none⟩ = #[Value.slice l.Ao out.length l.co, .int .i64 base, .bool closed, .bool done, .slice l.Ai inn.length l.ci, .int .i64 next, .bool ended, .bool due][i]? := fun i => (HX.out.b0.onlyNil hO10).cell i
            have kp10 : ∀ i, wc.cell? ⟨w.heap.size + 1, i, none⟩ = #[Value.int .i64 pair, .int .i64 side, .int .i64 seq, .int .i64 ack, .bool fin, .slice A data.length c][i]? := fun i => (HX.out.b1.onlyNil hO10).cell i
            have HE8d := Lib.hid hE8
            have HE11d := Lib.hid hE11
            have HY10 := Lib.hid hY
            have HO10 := Lib.hid hO10
            clear hE8 hE11 hY hO10 ky8 kp8
            go_upto_region 11 with fail
            go_cut [13] (fun v wd => v = .int .i64 rn ∧ EBox 29 wd g8 ra ∧ EBox 24 wd g11 ra ∧ Blk wd gy 29 (earr l ⟨out, base, closed, done, inn, next, ended, due⟩) ∧ Only Nil w2 wd)
            case first =>
              go_wp2_with fail
              refine (HRr2.out _ HO10.out).mono ?_
              rintro x w5 ⟨l5, rfl, hE5, hO5⟩
              obtain ⟨lz, hbz, hlz⟩ := HE11d.out.onlyNil hO5
              have kz : ∀ i, w5.cell? ⟨g11, i, none⟩ = #[Value.slice lz.Ao sa.out.length lz.co, .int .i64 sa.base, .bool sa.closed, .bool sa.done, .slice lz.Ai sa.inn.length lz.ci, .int .i64 sa.next, .bool sa.ended, .bool sa.due][i]? := fun i => hbz.cell i
              have fz : ∀ i, w5.frozen? ⟨g11, i, none⟩ = false := fun i => hbz.frozen i
              have HBZ : Hid (EBox 24 w5 g11 sa) := Lib.hid ⟨lz, hbz, hlz⟩
              have HE5 := Lib.hid hE5
              have HO5' := Lib.hid hO5
              clear hbz hlz hE5 hO5 kx10 kp10
              go_wp2_with fail
              go_meet
              case rel =>
                have hR : EBox 29 (put8 w5 g11 l5 ra) g8 ra ∧ EBox 24 (put8 w5 g11 l5 ra) g11 ra ∧ Blk (put8 w5 g11 l5 ra) gy 29 (earr l ⟨out, base, closed, done, inn, next, ended, due⟩) ∧ Only Nil w2 (put8 w5 g11 l5 ra) :=
                  ⟨EBox.put_far HBZ.out (HE8d.out.onlyNil HO5'.out) (by omega), HBZ.out.put HE5.out, (HY10.out.onlyNil HO5'.out).only (put8_only _ _ _ _) (by unfold One; omega), (HO10.out.thenNil HO5'.out).trans (put8_only _ _ _ _) (fun x hx => .inr (by unfold One at hx; omega))⟩
                exact ⟨rfl, hR⟩
            case rest =>
              obtain ⟨rfl, hE8, hE11, hY, hO11⟩ := hcut
              obtain ⟨m8, hb8, hl8⟩ := hE8
              obtain ⟨m11, hb11, hl11⟩ := hE11
              have HL8f := Lib.hid (hl8.next ((Only.refl _ _).drew))
              have HL11f := Lib.hid (hl11.next ((Only.refl _ _).drew))
              have HY11 := Lib.hid hY
              have HX11 := Lib.hid (HX.out.b0.onlyNil hO11)
              have HO11 := Lib.hid hO11
              have HB8z := Lib.hid hb8
              have HB11z := Lib.hid hb11
              clear hb8 hl8 hb11 hl11 hY hO11 kx10 kp10
              have HKS : Hid (∀ w', Only Nil wc w' → (∀ i, w'.cell? ⟨g8, i, none⟩ = #[Value.slice m8.Ao ra.out.length m8.co, .int .i64 ra.base, .bool ra.closed, .bool ra.done, .slice m8.Ai ra.inn.length m8.ci, .int .i64 ra.next, .bool ra.ended, .bool ra.due][i]?) ∧ (∀ i, w'.cell? ⟨g11, i, none⟩ = #[Value.slice m11.Ao ra.out.length m11.co, .int .i64 ra.base, .bool ra.closed, .bool ra.done, .slice m11.Ai ra.inn.length m11.ci, .int .i64 ra.next, .bool ra.ended, .bool ra.due][i]?) ∧ (∀ i, w'.cell? ⟨gy, i, none⟩ = #[Value.slice l.Ao out.length l.co, .int .i64 base, .bool closed, .bool done, .slice l.Ai inn.length l.ci, .int .i64 next, .bool ended, .bool due][i]?) ∧ (∀ i, w'.cell? ⟨w.heap.size, i, none⟩ = #[Value.slice l.Ao out.length l.co, .int .i64 base, .bool closed, .bool done, .slice l.Ai inn.length l.ci, .int .i64 next, .bool ended, .bool due][i]?)) := Lib.hid (fun w' hO => ⟨fun i => (HB8z.out.onlyNil hO).cell i, fun i => (HB11z.out.onlyNil hO).cell i, fun i => (HY11.out.onlyNil hO).cell i, fun i => (HX11.out.onlyNil hO).cell i⟩)
              have hs0 := HKS.out _ (Only.refl _ _).drew
              go_upto_region 12 with fail
              go_cut [6] (fun v wd => v = .bool true ∧ Only Nil wc wd)
              case first =>
                go_region_held3 (fun w' => (∀ i, w'.cell? ⟨g8, i, none⟩ = #[Value.slice m8.Ao ra.out.length m8.co, .int .i64 ra.base, .bool ra.closed, .bool ra.done, .slice m8.Ai ra.inn.length m8.ci, .int .i64 ra.next, .bool ra.ended, .bool ra.due][i]?) ∧ (∀ i, w'.cell? ⟨g11, i, none⟩ = #[Value.slice m11.Ao ra.out.length m11.co, .int .i64 ra.base, .bool ra.closed, .bool ra.done, .slice m11.Ai ra.inn.length m11.ci, .int .i64 ra.next, .bool ra.ended, .bool ra.due][i]?) ∧ (∀ i, w'.cell? ⟨gy, i, none⟩ = #[Value.slice l.Ao out.length l.co, .int .i64 base, .bool closed, .bool done, .slice l.Ai inn.length l.ci, .int .i64 next, .bool ended, .bool due][i]?) ∧ (∀ i, w'.cell? ⟨w.heap.size, i, none⟩ = #[Value.slice l.Ao out.length l.co, .int .i64 base, .bool closed, .bool done, .slice l.Ai inn.length l.ci, .int .i64 next, .bool ended, .bool due][i]?)) (first | with_reducible assumption | go_keep)
                  (first
                    | (go_simp; go_at_call 13; refine (equal_any l2 l3 aa aa _ (hE2.next (by (repeat' (first | with_reducible exact Only.refl _ _ | with_reducible refine Only.setCell ?_ (Or.inl ?_) _ | with_reducible refine Only.drewN ?_ _ | with_reducible refine Only.drew ?_ | with_reducible refine Only.alloc ?_ _ | (first | with_reducible refine Only.thenNil ?_ hp4 | with_reducible refine Only.thenNil ?_ hp3 | with_reducible refine Only.thenNil ?_ hp2 | with_reducible refine Only.thenNil ?_ hp1))))) (hE3.next (by (repeat' (first | with_reducible exact Only.refl _ _ | with_reducible refine Only.setCell ?_ (Or.inl ?_) _ | with_reducible refine Only.drewN ?_ _ | with_reducible refine Only.drew ?_ | with_reducible refine Only.alloc ?_ _ | (first | with_reducible refine Only.thenNil ?_ hp4 | with_reducible refine Only.thenNil ?_ hp3 | with_reducible refine Only.thenNil ?_ hp2 | with_reducible refine Only.thenNil ?_ hp1)))))).mono ?_; rintro x u4 ⟨r4, rfl, hr4, hp4⟩; obtain rfl : r4 = true := hr4.2 rfl; have hs4 := HKS.out u4 (by (repeat' (first | with_reducible exact Only.refl _ _ | with_reducible refine Only.setCell ?_ (Or.inl ?_) _ | with_reducible refine Only.drewN ?_ _ | with_reducible refine Only.drew ?_ | with_reducible refine Only.alloc ?_ _ | (first | with_reducible refine Only.thenNil ?_ hp4 | with_reducible refine Only.thenNil ?_ hp3 | with_reducible refine Only.thenNil ?_ hp2 | with_reducible refine Only.thenNil ?_ hp1)))))
                    | (go_simp; go_at_call 19; refine (HAr2.out _ (HO11.out.thenNil (by (repeat' (first | with_reducible exact Only.refl _ _ | with_reducible refine Only.setCell ?_ (Or.inl ?_) _ | with_reducible refine Only.drewN ?_ _ | with_reducible refine Only.drew ?_ | with_reducible refine Only.alloc ?_ _ | (first | with_reducible refine Only.thenNil ?_ hp4 | with_reducible refine Only.thenNil ?_ hp3 | with_reducible refine Only.thenNil ?_ hp2 | with_reducible refine Only.thenNil ?_ hp1)))))).mono ?_; rintro x u3 ⟨l3, rfl, hE3, hp3⟩; have hs3 := HKS.out u3 (by (repeat' (first | with_reducible exact Only.refl _ _ | with_reducible refine Only.setCell ?_ (Or.inl ?_) _ | with_reducible refine Only.drewN ?_ _ | with_reducible refine Only.drew ?_ | with_reducible refine Only.alloc ?_ _ | (first | with_reducible refine Only.thenNil ?_ hp4 | with_reducible refine Only.thenNil ?_ hp3 | with_reducible refine Only.thenNil ?_ hp2 | with_reducible refine Only.thenNil ?_ hp1)))))
                    | (go_simp; go_at_call 18; refine (HA2.out _ (HO11.out.thenNil (by (repeat' (first | with_reducible exact Only.refl _ _ | with_reducible refine Only.setCell ?_ (Or.inl ?_) _ | with_reducible refine Only.drewN ?_ _ | with_reducible refine Only.drew ?_ | with_reducible refine Only.alloc ?_ _ | (first | with_reducible refine Only.thenNil ?_ hp4 | with_reducible refine Only.thenNil ?_ hp3 | with_reducible refine Only.thenNil ?_ hp2 | with_reducible refine Only.thenNil ?_ hp1)))))).mono ?_; rintro x u2 ⟨l2, rfl, hE2, hp2⟩; have hs2 := HKS.out u2 (by (repeat' (first | with_reducible exact Only.refl _ _ | with_reducible refine Only.setCell ?_ (Or.inl ?_) _ | with_reducible refine Only.drewN ?_ _ | with_reducible refine Only.drew ?_ | with_reducible refine Only.alloc ?_ _ | (first | with_reducible refine Only.thenNil ?_ hp4 | with_reducible refine Only.thenNil ?_ hp3 | with_reducible refine Only.thenNil ?_ hp2 | with_reducible refine Only.thenNil ?_ hp1)))))
                    | (go_simp; go_at_call 13; refine (equal_any m8 m11 ra ra _ HL8f.out HL11f.out).mono ?_; rintro x u1 ⟨r1, rfl, hr1, hp1⟩; obtain rfl : r1 = true := hr1.2 rfl; have hs1 := HKS.out u1 (by (repeat' (first | with_reducible exact Only.refl _ _ | with_reducible refine Only.setCell ?_ (Or.inl ?_) _ | with_reducible refine Only.drewN ?_ _ | with_reducible refine Only.drew ?_ | with_reducible refine Only.alloc ?_ _ | (first | with_reducible refine Only.thenNil ?_ hp4 | with_reducible refine Only.thenNil ?_ hp3 | with_reducible refine Only.thenNil ?_ hp2 | with_reducible refine Only.thenNil ?_ hp1))))))
                all_goals
                  go_wp2_with fail
                  go_meet
                  case rel => exact ⟨by first | rfl | simp, (by (repeat' (first | with_reducible exact Only.refl _ _ | with_reducible refine Only.setCell ?_ (Or.inl ?_) _ | with_reducible refine Only.drewN ?_ _ | with_reducible refine Only.drew ?_ | with_reducible refine Only.alloc ?_ _ | (first | with_reducible refine Only.thenNil ?_ hp4 | with_reducible refine Only.thenNil ?_ hp3 | with_reducible refine Only.thenNil ?_ hp2 | with_reducible refine Only.thenNil ?_ hp1))))⟩
              case rest =>
                obtain ⟨rfl, hO12⟩ := hcut
                go_wp2_with fail
                go_ret
                exact ⟨rfl, HX.out.only.thenNil (HO11.out.thenNil hO12)⟩
              
set_option maxRecDepth 100000 in
theorem from_args {H : Type} {enc : TypeId × Value → H} (W : World) (base : Nat) (args : Array Value) (ds : List (DataW H)) (ps : List MemPlace)
    (hval0 : ∀ (j : Nat) t v, Try.f4.params[j]? = some t → args[j]? = some v → Value.okWide Try.prog W .any base t v)
    (hA : DataW.TrodAll enc Try.prog W 0 (fun _ => true) true Try.f4.params.toList args.toList ds ps) (_hlt : ∀ x ∈ ps, x.block < W.heap.size)
    (hsz : (DataW.weightsEach Try.prog Try.f4.params.toList ds).all (· ≤ reachBytes) = true) : Calls Try.prog 4 args W (LawPost W) := by
  have hval := hval0
  rw [Try.params4] at hA hval hsz
  obtain ⟨v0, vs0, d0, ds0, p0, q0, hargs, rfl, rfl, h0, r0⟩ := trodAll_cons hA
  obtain ⟨v1, vs1, d1, ds1, p1, q1, rfl, rfl, rfl, h1, r1⟩ := trodAll_cons r0
  obtain ⟨v2, vs2, d2, ds2, p2, q2, rfl, rfl, rfl, h2, r2⟩ := trodAll_cons r1
  obtain ⟨rfl, rfl, rfl⟩ := trodAll_nil r2
  obtain rfl : args = #[v0, v1, v2] := by cases args; simp_all
  obtain ⟨l, e, rfl, hE⟩ := open_end (hval 0 _ v0 rfl rfl) h0
  obtain ⟨A, c, p, rfl, hP⟩ := open_pk (hval 1 _ v1 rfl rfl) h1
  obtain ⟨c0, c1, rfl⟩ := open_pair (hval 2 _ v2 rfl rfl) h2
  exact walk l e A c p c0 c1 W hE hP

set_option maxRecDepth 100000 in
theorem over : Rows.streamPacketsRow.holds Try.pinned (OpenSpec.ofChange Rows.streamPacketsSpec) :=
  OpenClaim.holds_of_wide 4 Try.f4 rfl rfl rfl rfl rfl rfl rfl ⟨rfl, rfl, rfl, rfl, rfl⟩ rfl rfl rfl rfl rfl (by kernel_rfl) Try.func4 (by kernel_rfl)
    (of_decide_eq_true (by kernel_rfl)) (by unfold Func.isWrapper; first | (rw [if_pos (by decide +kernel)]; kernel_rfl) | (rw [if_neg (by decide +kernel)]; exact ⟨rfl, rfl⟩))
    (fun os started H enc _ => law_lifted (f := 4) (F := Try.f4) (s := Rows.streamPacketsSpec) os started H enc (by kernel_rfl) Try.func4 rfl rfl (by kernel_rfl) (by kernel_rfl)
      (fun ds hd => by match ds, hd with | [_, _, _], _ => rfl)
      (ChangeSpec.witness6 (enc := enc) (C := Try.checked) false ⟨#[], #[.agg #[.slice none 0 0, .int .i64 0, .bool false, .bool false, .slice none 0 0, .int .i64 0, .bool false, .bool false], .agg #[.int .i64 0, .int .i64 0, .int .i64 0, .int .i64 0, .bool false, .slice none 0 0], .agg #[.int .i64 0, .int .i64 0]], []⟩ 8 (by kernel_rfl) (by kernel_rfl) (by kernel_rfl) (by kernel_rfl))
      (fun W base args ds ps hv hA hlt hsz => from_args W base args ds ps hv hA hlt hsz))

/-- The statement. -/
theorem proved : Rows.StreamPacketsSaid := over

end streamPackets
end Go.Proofs.Ytfichoekjjcjiaa
