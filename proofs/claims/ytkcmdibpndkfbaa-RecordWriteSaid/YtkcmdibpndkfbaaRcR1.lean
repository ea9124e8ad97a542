/-
  The walk of record.frame.
  Conditions: the bytes can be read.
-/
import Derived.Test.YtkcmdibpndkfbaaRcQ
import Derived.Test.YtkcmdibpndkfbaaRdEn2
import Derived.BigQuiet
namespace Go.Proofs.Ytkcmdibpndkfbaa
open Go.RowKit

/-- What a frame at the beginning of bytes says. -/
def frameR (l : List UInt8) (h : Nat) : En × Nat × Nat × Int :=
  if l.length < 8 then (zE, 0, 0, 4) else
  if nB (l.drop 4) + nB l ≠ 4294967295 ∨ l.length < nB l + 16 then (zE, 0, 0, 4) else
  if (l.drop (8 + nB l)).take 8 ≠ le8 (fromS h ((l.drop 8).take (nB l))) then (zE, 0, 0, 5) else
  if (readE ((l.drop 8).take (nB l))).2 ≠ 0 ∨ vE (readE ((l.drop 8).take (nB l))).1 = false then (zE, 0, 0, 4) else
  ((readE ((l.drop 8).take (nB l))).1, fromS h ((l.drop 8).take (nB l)), 16 + nB l, 0)
def FrPost (r : En × Nat × Nat × Int) (w : World) (e : Ending) (w' : World) : Prop :=
  ∃ Ax cx, e = .returned (.tuple #[.agg (ecl Ax cx r.1), .int .u64 (r.2.1 : Nat), .int .i64 (r.2.2.1 : Nat), .int .i64 r.2.2.2]) ∧ r.1.data.length ≤ cx ∧ w'.ownsRow w.heap.size 5 1 (.slice Ax r.1.data.length cx) r.1.data.length (bcells r.1.data) ∧ Only Nil w w'

set_option maxRecDepth 100000 in
set_option maxHeartbeats 4000000 in
theorem frame_any (A : Option Addr) (c : Nat) (l : List UInt8) (h : Nat) (w : World) (hb : Bs w w.heap.size A l) (hl : l.length ≤ 1099511627776) (hlc : l.length ≤ c) (hh : h < 18446744073709551616) :
    Calls Try.prog 22 #[.slice A l.length c, .int .u64 h] w (FrPost (frameR l h) w) := by
  obtain ⟨N, hN⟩ : ∃ N, l.length = N := ⟨_, rfl⟩
  obtain ⟨R, hR⟩ : ∃ R, frameR l h = R := ⟨_, rfl⟩
  obtain ⟨w2, hw2⟩ : ∃ w2, w2 = w.alloc (.cells #[Value.int .i64 0, .int .i64 0, .int .i64 0, .int .i64 0, .int .i64 0, .int .i64 0, .int .i64 0, .slice none 0 0] 39) := ⟨_, rfl⟩
  have hO2 : Only Nil w w2 := by rw [hw2]; exact (Only.refl _ _).alloc _
  have hb1 : Blk w2 w.heap.size 39 #[Value.int .i64 0, .int .i64 0, .int .i64 0, .int .i64 0, .int .i64 0, .int .i64 0, .int .i64 0, .slice none 0 0] := by rw [hw2]; exact Blk.new _ _ _
  have hbs := (hb.onlyNil hO2 (Nat.le_refl _)).up hO2.size
  have k1 : ∀ i, w2.cell? ⟨w.heap.size, i, none⟩ = #[Value.int .i64 0, .int .i64 0, .int .i64 0, .int .i64 0, .int .i64 0, .int .i64 0, .int .i64 0, .slice none 0 0][i]? := fun i => hb1.cell i
  have f1 : ∀ i, w2.frozen? ⟨w.heap.size, i, none⟩ = false := fun i => hb1.frozen i
  have hbad : ∀ (n : Int) u v, R = (zE, 0, 0, n) → Only Nil w2 u → Only (One w.heap.size) u v → FrPost R w (.returned (.tuple #[.agg #[Value.int .i64 0, .int .i64 0, .int .i64 0, .int .i64 0, .int .i64 0, .int .i64 0, .int .i64 0, .slice none 0 0], .int .u64 0, .int .i64 0, .int .i64 n])) v := fun n u v e h1 h2 => by
    rw [e]
    exact ⟨none, 0, rfl, Nat.le_refl _, World.ownsRow_nil _ _ _ _, (hO2.thenNil h1).trans h2 (fun x hx => .inr (by unfold One at hx; omega))⟩
  rw [hR, hN]
  unfold frameR at hR
  rw [hN] at hR
  have HW2 := Lib.hid hw2
  have HO2 := Lib.hid hO2
  have HB1 := Lib.hid hb1
  have HBS := Lib.hid hbs
  have HBAD := Lib.hid hbad
  have HN := Lib.hid hN
  have HH := Lib.hid hh
  have HL := Lib.hid (show N ≤ 1099511627776 by omega)
  have hNc : N ≤ c := by omega
  clear hw2 hO2 hb1 hbs hbad hb hl hlc hh
  by_cases h8 : N < 8
  · rw [if_pos h8] at hR
    have HR := Lib.hid hR.symm
    have h8i : (N : Int) < 8 := by omega
    clear hR hN
    go_enter Try.func22, Try.ntmps22
    go_upto_region 1 with fail
    rw [← HW2.out]
    go_wp2_with fail
    refine bodyPost_ret (v := .tuple #[.agg #[Value.int .i64 0, .int .i64 0, .int .i64 0, .int .i64 0, .int .i64 0, .int .i64 0, .int .i64 0, .slice none 0 0], .int .u64 0, .int .i64 0, .int .i64 4]) (by simp [results, Try.results22, go_sem, k1]) rfl ?_
    refine HBAD.out 4 w2 _ HR.out (Only.refl _ _) ?_
    (repeat' (first | with_reducible exact Only.refl _ _ | with_reducible refine Only.setCell ?_ (Or.inl ?_) _ | with_reducible refine Only.drewN ?_ _ | with_reducible refine Only.drew ?_ | with_reducible refine Only.alloc ?_ _ | (exact rfl)))
  · rw [if_neg h8] at hR
    have hlN := HL.out
    have h8i : ¬ (N : Int) < 8 := by omega
    have h8n : 8 ≤ N := by omega
    obtain ⟨g, off, rfl, _, _⟩ := HBS.out.2 (by rw [hN]; omega)
    have hc4 : (4 : Int) ≤ (c : Int) := by omega
    have h4N : (4 : Int) ≤ (N : Int) := by omega
    have hnc4 : ¬ c = 4 := by omega
    have hnum1 := number_any (some ⟨g, off, none⟩) c l w2 HBS.out (by omega) (by omega)
    have hcut := Bs.cut (k := 4) (cap := c) HBS.out (by omega) (by omega)
    rw [if_neg hnc4, show Option.map (fun x : Addr => x.add 4) (some ⟨g, off, none⟩) = some ⟨g, off + 4, none⟩ from rfl] at hcut
    have hnum2 := number_any _ (c - 4) (l.drop 4) w2 hcut (by rw [List.length_drop]; omega) (by rw [List.length_drop]; omega)
    rw [List.length_drop, hN] at hnum2
    rw [hN] at hnum1
    obtain ⟨n, hn⟩ : ∃ n, nB l = n := ⟨_, rfl⟩
    obtain ⟨m, hm⟩ : ∃ m, nB (l.drop 4) = m := ⟨_, rfl⟩
    rw [hn] at hnum1 hR
    rw [hm] at hnum2 hR
    obtain ⟨K, hK⟩ : ∃ K, N - 4 = K := ⟨_, rfl⟩
    have hKi : ((N : Int) - 4).toNat = K := by omega
    rw [hK] at hnum2
    have HNUM1 := Lib.hid hnum1
    have HNUM2 := Lib.hid hnum2
    have HR := Lib.hid hR
    have HNN := Lib.hid hn
    have hn4 : n < 4294967296 := by rw [← hn]; exact fN_lt l 4
    have hm4 : m < 4294967296 := by rw [← hm]; exact fN_lt (l.drop 4) 4
    clear hR hN hnum1 hnum2 hcut hn hm h8
    by_cases hmn : m + n = 4294967295
    rotate_left
    · have HR := Lib.hid (HR.out.symm.trans (if_pos (.inl hmn)))
      have hb1 : ((m : Int) == 4294967295 - (n : Int)) = false := beq_false_of_ne (by omega)
      have hb2 : ((m : Int) != 4294967295 - (n : Int)) = true := by simp; omega
      clear hmn
      go_enter Try.func22, Try.ntmps22
      go_upto_region 1 with fail
      rw [← HW2.out]
      go_wp2_with fail
      refine HNUM1.out.mono ?_
      rintro e w2 ⟨rfl, rfl⟩
      go_wp2_with fail
      refine HNUM2.out.mono ?_
      rintro e w2 ⟨rfl, rfl⟩
      go_wp2_with fail
      refine bodyPost_ret (v := .tuple #[.agg #[Value.int .i64 0, .int .i64 0, .int .i64 0, .int .i64 0, .int .i64 0, .int .i64 0, .int .i64 0, .slice none 0 0], .int .u64 0, .int .i64 0, .int .i64 4]) (by simp [results, Try.results22, go_sem, k1]) rfl ?_
      refine HBAD.out 4 w2 _ HR.out (Only.refl _ _) ?_
      (repeat' (first | with_reducible exact Only.refl _ _ | with_reducible refine Only.setCell ?_ (Or.inl ?_) _ | with_reducible refine Only.drewN ?_ _ | with_reducible refine Only.drew ?_ | with_reducible refine Only.alloc ?_ _ | (exact rfl)))
    have hmi : (m : Int) = 4294967295 - (n : Int) := by omega
    by_cases hNn : N < n + 16
    · have HR := Lib.hid (HR.out.symm.trans (if_pos (.inr hNn)))
      have hb2 : (N : Int) - 8 - 8 < (n : Int) := by omega
      clear hmn hNn
      go_enter Try.func22, Try.ntmps22
      go_upto_region 1 with fail
      rw [← HW2.out]
      go_wp2_with fail
      refine HNUM1.out.mono ?_
      rintro e w2 ⟨rfl, rfl⟩
      go_wp2_with fail
      refine HNUM2.out.mono ?_
      rintro e w2 ⟨rfl, rfl⟩
      go_wp2_with fail
      refine bodyPost_ret (v := .tuple #[.agg #[Value.int .i64 0, .int .i64 0, .int .i64 0, .int .i64 0, .int .i64 0, .int .i64 0, .int .i64 0, .slice none 0 0], .int .u64 0, .int .i64 0, .int .i64 4]) (by simp [results, Try.results22, go_sem, k1]) rfl ?_
      refine HBAD.out 4 w2 _ HR.out (Only.refl _ _) ?_
      (repeat' (first | with_reducible exact Only.refl _ _ | with_reducible refine Only.setCell ?_ (Or.inl ?_) _ | with_reducible refine Only.drewN ?_ _ | with_reducible refine Only.drew ?_ | with_reducible refine Only.alloc ?_ _ | (exact rfl)))
    have hb2 : ¬ (N : Int) - 8 - 8 < (n : Int) := by omega
    have HR2 := Lib.hid (HR.out.symm.trans (if_neg (by omega)))
    clear HR
    have HR := HR2
    clear HR2
    have hcut8 := Bs.cut (k := 8) (cap := c) HBS.out (by rw [HN.out]; omega) (by rw [HN.out]; omega)
    rw [if_neg (by omega : ¬ c = 8), show Option.map (fun x : Addr => x.add 8) (some ⟨g, off, none⟩) = some ⟨g, off + 8, none⟩ from rfl] at hcut8
    have htk := Bs.take hcut8 n (by rw [List.length_drop, HN.out]; omega)
    obtain ⟨bb, hbb⟩ : ∃ bb, (l.drop 8).take n = bb := ⟨_, rfl⟩
    have hbl : bb.length = n := by rw [← hbb, List.length_take, List.length_drop, HN.out]; omega
    rw [hbb] at htk HR
    have hfr := from_any h (some ⟨g, off + 8, none⟩) (c - 8) bb w2 htk HH.out (by have := HL.out; omega)
    obtain ⟨H, hH⟩ : ∃ H, fromS h bb = H := ⟨_, rfl⟩
    rw [hbl, hH] at hfr
    rw [hH] at HR
    have HFR := Lib.hid hfr
    have HBB := Lib.hid htk
    have HBL := Lib.hid hbl
    have hHlt : H < 18446744073709551616 := by rw [← hH]; exact fromS_lt HH.out bb
    clear hfr htk hbl hcut8 hbb hmn hH
    go_enter Try.func22, Try.ntmps22
    go_upto_region 1 with fail
    rw [← HW2.out]
    go_wp2_with fail
    refine HNUM1.out.mono ?_
    rintro e w2 ⟨rfl, rfl⟩
    go_wp2_with fail
    refine HNUM2.out.mono ?_
    rintro e w2 ⟨rfl, rfl⟩
    go_wp2_with fail
    refine HFR.out.mono ?_
    rintro e w2 ⟨rfl, rfl⟩
    go_wp2_with fail
    go_loopw [42] (fun i wr => ∃ k : Nat, k ≤ 8 ∧ i = .int .i64 k ∧ (l.drop (8 + n)).take k = le8to H k ∧ Only Nil w2 wr) (fun i _ => 8 - (intOf i).toNat)
    case atStart => exact ⟨0, Nat.zero_le _, rfl, rfl, Only.refl _ _⟩
    case round =>
      obtain ⟨k, hk, rfl, hpre, hO⟩ := hrel
      have HPRE := Lib.hid hpre
      have hbr := HB1.out.onlyNil hO
      have k3 : ∀ i, wr.cell? ⟨w.heap.size, i, none⟩ = #[Value.int .i64 0, .int .i64 0, .int .i64 0, .int .i64 0, .int .i64 0, .int .i64 0, .int .i64 0, .slice none 0 0][i]? := fun i => hbr.cell i
      have f3 : ∀ i, wr.frozen? ⟨w.heap.size, i, none⟩ = false := fun i => hbr.frozen i
      have k3d : ∀ m i, (wr.drewN m).cell? ⟨w.heap.size, i, none⟩ = #[Value.int .i64 0, .int .i64 0, .int .i64 0, .int .i64 0, .int .i64 0, .int .i64 0, .int .i64 0, .slice none 0 0][i]? := fun m i => (hbr.drewN m).cell i
      have f3d : ∀ m i, (wr.drewN m).frozen? ⟨w.heap.size, i, none⟩ = false := fun m i => (hbr.drewN m).frozen i
      have HO := Lib.hid hO
      clear hpre hO hbr k1 f1
      by_cases hlt : k < 8
      · obtain ⟨x, hx⟩ : ∃ x, l[8 + n + k]? = some x := ⟨l[8 + n + k]'(by rw [HN.out]; omega), List.getElem?_eq_getElem _⟩
        obtain ⟨g', off', e', _, hcx⟩ := (HBS.out.onlyNil HO.out (Nat.le_refl _)).at_ hx
        injection e' with e'
        injection e' with e1 e2
        subst e1 e2
        have hki : (k : Int) < 8 := by omega
        have hy0 : (0 : Int) ≤ 8 * (k : Int) := by omega
        have hy1 : 8 * (k : Int) ≤ 64 := by omega
        have hbx := byte_at H k
        have hw8 : IntKind.u8.wrap ((H : Int) / 2 ^ (8 * k)) = ((UInt8.ofNat (H / 256 ^ k % 256)).toNat : Int) := by rw [← hbx]; simp [IntKind.wrap, IntKind.bits, IntKind.signed]
        have hwr : IntKind.i64.wrap (8 * (k : Int)) = 8 * (k : Int) := IntWalk.i64_in _ (by omega)
        have hsu := le8to_succ H k
        obtain ⟨y, hy⟩ : ∃ y, UInt8.ofNat (H / 256 ^ k % 256) = y := ⟨_, rfl⟩
        rw [hy] at hbx hw8 hsu
        have hdx : (l.drop (8 + n))[k]? = some x := by rw [List.getElem?_drop]; exact hx
        obtain ⟨hdl, hde⟩ := List.getElem?_eq_some_iff.1 hdx
        have htk1 : (l.drop (8 + n)).take (k + 1) = le8to H k ++ [x] := by rw [List.take_succ_eq_append_getElem hdl, hde, HPRE.out]
        by_cases hxy : x = y
        · subst hxy
          have hnx : (l.drop (8 + n)).take (k + 1) = le8to H (k + 1) := by rw [htk1, hsu]
          have HNX := Lib.hid hnx
          have hbq : ((x.toNat : Int) != (x.toNat : Int)) = false := by simp
          clear hx hy hsu hdx hde htk1 hnx hlt
          go_wp2_with fail
          go_quiet (fail)
          go_wp2_with fail
          go_roundw
          case rel => exact ⟨k + 1, by omega, by go_num, HNX.out, HO.out.drewN _⟩
          case measure => simp [intOf]; omega
        · have hne : (l.drop (8 + n)).take 8 ≠ le8 H := fun e => by
            have h1 : le8to H (k + 1) = le8to H k ++ [x] := by
              rw [← htk1]
              have h2 : (l.drop (8 + n)).take (k + 1) = (le8 H).take (k + 1) := by rw [← e, List.take_take, Nat.min_eq_left (by omega)]
              rw [h2]
              unfold le8 le8to
              rw [← List.map_take, List.take_range, Nat.min_eq_left (by omega)]
            rw [hsu] at h1
            have h2 := List.append_cancel_left h1
            injection h2 with h2
            exact hxy h2.symm
          have HR5 := Lib.hid (HR.out.trans (if_pos hne))
          have hbq : ((x.toNat : Int) != (y.toNat : Int)) = true := by
            simp only [bne_iff_ne, ne_eq]
            intro h
            exact hxy (UInt8.toNat_inj.1 (by omega))
          clear hx hy hsu hdx hde htk1 hlt hne hxy
          go_wp2_with fail
          go_quiet (fail)
          go_wp2_with fail
          refine bodyPost_ret (v := .tuple #[.agg #[Value.int .i64 0, .int .i64 0, .int .i64 0, .int .i64 0, .int .i64 0, .int .i64 0, .int .i64 0, .slice none 0 0], .int .u64 0, .int .i64 0, .int .i64 5]) (by simp [results, Try.results22, go_sem, k3, k3d]) rfl ?_
          refine HBAD.out 5 wr _ HR5.out HO.out ?_
          (repeat' (first | with_reducible exact Only.refl _ _ | with_reducible refine Only.setCell ?_ (Or.inl ?_) _ | with_reducible refine Only.drewN ?_ _ | with_reducible refine Only.drew ?_ | with_reducible refine Only.alloc ?_ _ | (exact rfl)))
      · have hk8 : k = 8 := by omega
        have hki : ¬ (k : Int) < 8 := by omega
        have heq : (l.drop (8 + n)).take 8 = le8 H := by have h1 := HPRE.out; rw [hk8] at h1; exact h1
        have HR6 := Lib.hid (HR.out.trans (if_neg (by simp [heq])))
        have hre := readEntry_any (some ⟨g, off + 8, none⟩) (c - 8) bb wr ((HBB.out.onlyNil HO.out (Nat.le_refl _)).up HO.out.size) (by rw [HBL.out]; omega)
        rw [HBL.out] at hre
        obtain ⟨⟨x, q⟩, hR⟩ : ∃ R, readE bb = R := ⟨_, rfl⟩
        rw [hR] at hre HR6
        have HRE := Lib.hid hre
        clear hre hR heq hk8 hlt
        go_wp2_with fail
        refine HRE.out.mono ?_
        rintro e w4 ⟨Ax, cx, rfl, hcx, hown, hO4⟩
        obtain ⟨kind, task, call, a0, a1, a2, result, data⟩ := x
        obtain ⟨w5, hw5⟩ : ∃ w5, w5 = w4.alloc (.cells #[Value.int .i64 kind, .int .i64 task, .int .i64 call, .int .i64 a0, .int .i64 a1, .int .i64 a2, .int .i64 result, .slice Ax data.length cx] 39) := ⟨_, rfl⟩
        have hO5 : Only Nil w4 w5 := by rw [hw5]; exact (Only.refl _ _).alloc _
        have hO25 : Only Nil w2 w5 := (HO.out.thenNil hO4).thenNil hO5
        have hb5 : Blk w5 w4.heap.size 39 #[Value.int .i64 kind, .int .i64 task, .int .i64 call, .int .i64 a0, .int .i64 a1, .int .i64 a2, .int .i64 result, .slice Ax data.length cx] := by rw [hw5]; exact Blk.new _ _ _
        have hr5 := HB1.out.onlyNil hO25
        have hown5 : w5.ownsRow w.heap.size 5 1 (.slice Ax data.length cx) data.length (bcells data) := own_base (own_onlyNil hown hO5) (by have := HO2.out.size; have := HO.out.size; omega)
        have hgood : R = (⟨kind, task, call, a0, a1, a2, result, data⟩, H, 16 + n, 0) → ∀ u v, Only Nil w5 u → Only (One w.heap.size) u v → FrPost R w (.returned (.tuple #[.agg #[Value.int .i64 kind, .int .i64 task, .int .i64 call, .int .i64 a0, .int .i64 a1, .int .i64 a2, .int .i64 result, .slice Ax data.length cx], .int .u64 H, .int .i64 (8 + (n : Int) + 8), .int .i64 0])) v := fun e u v h1 h2 => by
          rw [e]
          refine ⟨Ax, cx, ?_, hcx, ?_, ((HO2.out.thenNil hO25).thenNil h1).trans h2 (fun x hx => .inr (by unfold One at hx; omega))⟩
          · show _ = Ending.returned (.tuple #[.agg #[Value.int .i64 kind, .int .i64 task, .int .i64 call, .int .i64 a0, .int .i64 a1, .int .i64 a2, .int .i64 result, .slice Ax data.length cx], .int .u64 H, .int .i64 ((16 + n : Nat) : Int), .int .i64 0])
            rw [show ((16 + n : Nat) : Int) = 8 + (n : Int) + 8 by omega]
          · refine own_only (own_onlyNil hown5 h1) h2 (fun q hq hx => ?_)
            have h4 := ownBlock_ge hown hq
            have := HO2.out.size
            have := HO.out.size
            have := HB1.out.lt
            unfold One at hx
            omega
        have k5 : ∀ i, w5.cell? ⟨w.heap.size, i, none⟩ = #[Value.int .i64 0, .int .i64 0, .int .i64 0, .int .i64 0, .int .i64 0, .int .i64 0, .int .i64 0, .slice none 0 0][i]? := fun i => hr5.cell i
        have f5 : ∀ i, w5.frozen? ⟨w.heap.size, i, none⟩ = false := fun i => hr5.frozen i
        have kx5 : ∀ i, w5.cell? ⟨w4.heap.size, i, none⟩ = #[Value.int .i64 kind, .int .i64 task, .int .i64 call, .int .i64 a0, .int .i64 a1, .int .i64 a2, .int .i64 result, .slice Ax data.length cx][i]? := fun i => hb5.cell i
        have HW5 := Lib.hid hw5
        have HO5 := Lib.hid hO5
        have HO4 := Lib.hid hO4
        have HO25 := Lib.hid hO25
        have HB5 := Lib.hid hb5
        have HR5 := Lib.hid hr5
        have HGOOD := Lib.hid hgood
        clear hw5 hO5 hO4 hO25 hb5 hr5 hown5 hgood hown hcx
        unfold ecl ER.cells
        dsimp only
        go_upto_region 15 with fail
        rw [← HW5.out]
        by_cases hq : q = 0
        rotate_left
        · have HR7 := Lib.hid (HR6.out.trans (if_pos (.inl hq)))
          have hqb : (q != 0) = true := by simp [hq]
          clear hq
          go_wp2_with fail
          refine bodyPost_ret (v := .tuple #[.agg #[Value.int .i64 0, .int .i64 0, .int .i64 0, .int .i64 0, .int .i64 0, .int .i64 0, .int .i64 0, .slice none 0 0], .int .u64 0, .int .i64 0, .int .i64 4]) (by simp [results, Try.results22, go_sem, k5]) rfl ?_
          refine HBAD.out 4 w5 _ HR7.out HO25.out ?_
          (repeat' (first | with_reducible exact Only.refl _ _ | with_reducible refine Only.setCell ?_ (Or.inl ?_) _ | with_reducible refine Only.drewN ?_ _ | with_reducible refine Only.drew ?_ | with_reducible refine Only.alloc ?_ _ | (exact rfl)))
        · subst hq
          have hva := valid_any ⟨Ax, cx, ⟨kind, task, call, a0, a1, a2, result, data⟩⟩ w5
          unfold ER.cells at hva
          dsimp only at hva
          obtain ⟨V, hV⟩ : ∃ V, vE ⟨kind, task, call, a0, a1, a2, result, data⟩ = V := ⟨_, rfl⟩
          rw [hV] at hva HR6
          have HVA := Lib.hid hva
          clear hva hV
          go_wp2_with fail
          refine HVA.out.mono ?_
          rintro e w6 ⟨rfl, hO6⟩
          have hr6 := HR5.out.onlyNil hO6
          have hb6 := HB5.out.onlyNil hO6
          have k6 : ∀ i, w6.cell? ⟨w.heap.size, i, none⟩ = #[Value.int .i64 0, .int .i64 0, .int .i64 0, .int .i64 0, .int .i64 0, .int .i64 0, .int .i64 0, .slice none 0 0][i]? := fun i => hr6.cell i
          have f6 : ∀ i, w6.frozen? ⟨w.heap.size, i, none⟩ = false := fun i => hr6.frozen i
          have kx : ∀ i, w6.cell? ⟨w4.heap.size, i, none⟩ = #[Value.int .i64 kind, .int .i64 task, .int .i64 call, .int .i64 a0, .int .i64 a1, .int .i64 a2, .int .i64 result, .slice Ax data.length cx][i]? := fun i => hb6.cell i
          have HO6 := Lib.hid hO6
          clear hr6 hb6 hO6
          cases V
          · have HR7 := Lib.hid (HR6.out.trans (if_pos (.inr rfl)))
            go_wp2_with fail
            refine bodyPost_ret (v := .tuple #[.agg #[Value.int .i64 0, .int .i64 0, .int .i64 0, .int .i64 0, .int .i64 0, .int .i64 0, .int .i64 0, .slice none 0 0], .int .u64 0, .int .i64 0, .int .i64 4]) (by simp [results, Try.results22, go_sem, k6]) rfl ?_
            refine HBAD.out 4 w6 _ HR7.out (HO25.out.thenNil HO6.out) ?_
            (repeat' (first | with_reducible exact Only.refl _ _ | with_reducible refine Only.setCell ?_ (Or.inl ?_) _ | with_reducible refine Only.drewN ?_ _ | with_reducible refine Only.drew ?_ | with_reducible refine Only.alloc ?_ _ | (exact rfl)))
          · have HR7 := Lib.hid (HR6.out.trans (if_neg (by simp)))
            go_wp2_with fail
            refine bodyPost_ret (v := .tuple #[.agg #[Value.int .i64 kind, .int .i64 task, .int .i64 call, .int .i64 a0, .int .i64 a1, .int .i64 a2, .int .i64 result, .slice Ax data.length cx], .int .u64 H, .int .i64 (8 + (n : Int) + 8), .int .i64 0]) (by simp [results, Try.results22, go_sem, k6]) rfl ?_
            refine HGOOD.out HR7.out w6 _ HO6.out ?_
            (repeat' (first | with_reducible exact Only.refl _ _ | with_reducible refine Only.setCell ?_ (Or.inl ?_) _ | with_reducible refine Only.drewN ?_ _ | with_reducible refine Only.drew ?_ | with_reducible refine Only.alloc ?_ _ | (exact rfl)))

end Go.Proofs.Ytkcmdibpndkfbaa
