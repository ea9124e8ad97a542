/-
  The law ReplayAlive: what Alive tells is what stands when the beginnings are put in and the endings are taken out.
  No conditions.
-/
import Derived.Test.YtdejceojhkdjnaaRpA
import Derived.Test.YtdejceojhkdjnaaRpP
import Derived.Laws.Externs
namespace Go.Proofs.Ytdejceojhkdjnaa
open Go.ChangeShapes Go.WideShapes Go.ChangeAt Go.RowKit Go.Deep

def bcs (b : List Bool) : Array Value := (b.map Value.bool).toArray
theorem bcs_get {b : List Bool} {k : Nat} {x : Bool} (h : b[k]? = some x) : (bcs b)[k]? = some (.bool x) := by
  unfold bcs
  rw [List.getElem?_toArray, List.getElem?_map, h]
  rfl
theorem bcs_set (b : List Bool) (k : Nat) (x : Bool) : (bcs b).setIfInBounds k (.bool x) = bcs (b.set k x) := by
  unfold bcs
  rw [List.setIfInBounds_toArray, List.map_set]
theorem icells_get {l : List Nat} {k a : Nat} (h : l[k]? = some a) : (icells l)[k]? = some (.int .i64 a) := by
  unfold icells
  rw [List.getElem?_map, h]
  rfl

namespace replayAlive
set_option maxRecDepth 100000 in
set_option maxHeartbeats 2000000 in
theorem walk (A : Option Addr) (ca : Nat) (rs : List ER) (w : World) (ha : Es w w.heap.size A rs) (hca : rs.length ≤ maxLen) :
    Calls Try.prog 6 #[.slice A rs.length ca] w (LawPost w) := by
  have hfa := fun w' (hO : Only Nil w w') => few_any A ca rs w' (ha.next hO) (by omega)
  have HA := Lib.hid ha
  obtain ⟨fa, hfa1⟩ : ∃ f, fewE rs = f := ⟨_, rfl⟩
  rw [hfa1] at hfa
  obtain ⟨N, hN⟩ : ∃ N, rs.length = N := ⟨_, rfl⟩
  rw [hN] at hfa hca ⊢
  have HFA := Lib.hid hfa
  have HFA1 := Lib.hid hfa1
  have HN := Lib.hid hN
  unfold maxLen at hca
  clear ha hfa hN hfa1
  go_enter Try.func6, Try.ntmps6
  go_wp2_with fail
  refine (awake_any _).mono ?_
  rintro x w1 ⟨rfl, hO1⟩
  have HO1 := Lib.hid hO1
  clear hO1
  go_wp2_with fail
  refine (HFA.out _ HO1.out).mono ?_
  rintro x w2 ⟨rfl, rfl⟩
  cases fa
  · go_wp2_with fail
    go_ret
    exact ⟨rfl, HO1.out⟩
  have h1 := fewE_of HFA1.out
  have hN40 : N ≤ 40 := by rw [← HN.out]; exact h1.2
  obtain ⟨P, hP⟩ : ∃ P, runP initS (rs.map ER.x) = P := ⟨_, rfl⟩
  obtain ⟨n, e, s⟩ := P
  have hlen : (rs.map ER.x).length = N := by rw [List.length_map, HN.out]
  have hck : ∀ w', Only Nil w w' → Calls Try.prog 10 #[.slice A N ca] w' fun x w'' => x = .returned (.tuple #[.int .i64 n, .int .i64 e]) ∧ Only Nil w' w'' := fun w' hO => by
    have := check_any A ca rs w' (HA.out.next hO) (by rw [HN.out]; omega)
    unfold CheckPost at this
    rw [hP, HN.out] at this
    exact this
  obtain ⟨L, hL⟩ : ∃ L, aliveP s 32 = L := ⟨_, rfl⟩
  obtain ⟨M, hM⟩ : ∃ M, L.length = M := ⟨_, rfl⟩
  have hal : ∀ w', Only Nil w w' → Calls Try.prog 12 #[.slice A N ca] w' fun x w'' => Only Nil w' w'' ∧ (e ≠ 0 → x = .returned (.tuple #[.slice none 0 0, .int .i64 e])) ∧ (e = 0 → ∃ A' c', x = .returned (.tuple #[.slice A' M c', .int .i64 0]) ∧ Rd w'' w''.heap.size 1 A' M (icells L)) := fun w' hO => by
    have := alive_any A ca rs w' (HA.out.next hO) (by rw [HN.out]; omega)
    unfold AlivePost at this
    rw [hP, HN.out] at this
    dsimp only at this
    rw [hL, hM] at this
    exact this.mono fun x w'' h => ⟨h.1, h.2.1, fun h0 => by obtain ⟨A', c', h3, h4⟩ := h.2.2 h0; exact ⟨A', c', h3, Rd.of_own h4⟩⟩
  have HCK := Lib.hid hck
  have HAL := Lib.hid hal
  have HP := Lib.hid hP
  have HL := Lib.hid hL
  have HM := Lib.hid hM
  have HLEN := Lib.hid hlen
  clear h1 hP hlen hck hal hL hM
  go_wp2_with fail
  refine (HAL.out _ HO1.out).mono ?_
  rintro x w3 ⟨hO3, hne, heq⟩
  have HO3 := Lib.hid (HO1.out.thenNil hO3)
  clear hO3
  by_cases h0 : e = 0
  rotate_left
  · obtain rfl := hne h0
    have hb2 : (e != 0) = true := by simp [h0]
    clear hne heq h0
    go_wp2_with fail
    refine (HCK.out _ HO3.out).mono ?_
    rintro x w4 ⟨rfl, hO4⟩
    have HO4 := Lib.hid (HO3.out.thenNil hO4)
    clear hO4
    go_wp2_with fail
    go_ret
    exact ⟨by simp, HO4.out⟩
  subst h0
  obtain ⟨A', c', rfl, hrd⟩ := heq rfl
  have HRD := Lib.hid hrd
  clear hne heq hrd
  go_wp2_with fail
  refine (HCK.out _ HO3.out).mono ?_
  rintro x w4 ⟨rfl, hO4⟩
  have hrd4 := (Rd.onlyNil HRD.out hO4 (Nat.le_refl _)).more hO4.size
  have HRD4 := Lib.hid hrd4
  have HO4 := Lib.hid (HO3.out.thenNil hO4)
  have HE4 := Lib.hid (HA.out.next HO4.out)
  clear hO4 hrd4
  obtain ⟨l, hl⟩ : ∃ l, rs.map ER.x = l := ⟨_, rfl⟩
  have hall := runP_all (s := initS) (l := l) (by rw [← hl, HP.out])
  have hs : s = sAt initS l N := by rw [← HLEN.out, hl, sAt_all, ← hall.1, ← hl, HP.out]
  have HALL := Lib.hid hall.2
  have HS := Lib.hid hs
  have HLL := Lib.hid hl
  clear hall hs hl
  have hM32 : M ≤ 32 := by have := aliveP_len s 32; rw [HL.out, HM.out] at this; exact this
  obtain ⟨Z, hZ⟩ : ∃ Z : Array Value, Z = bcs (List.replicate 32 false) := ⟨_, rfl⟩
  have hz : ∀ w, (zeroValue 43).run Try.prog w = .ok (.agg Z) w := fun w => by rw [hZ]; kernel_rfl
  have h0 : Blk (w4.alloc (.cells Z 43)) w4.heap.size 43 Z := Blk.new _ _ _
  have hc : (w4.alloc (.cells Z 43)).cell? ⟨w4.heap.size, 16, none⟩ = some (.bool false) := by rw [h0.cell, hZ]; rfl
  have hf : (w4.alloc (.cells Z 43)).frozen? ⟨w4.heap.size, 16, none⟩ = false := h0.frozen 16
  have h2 : Blk (w4.alloc (.cells (Z.setIfInBounds 16 (.bool true)) 43)) w4.heap.size 43 (bcs (theres (sAt initS l 0))) := by
    rw [hZ, bcs_set]
    exact Blk.new _ _ _
  have H2 := Lib.hid h2
  clear h0 hZ h2
  obtain ⟨g, hg⟩ : ∃ g, w4.heap.size = g := ⟨_, rfl⟩
  have HG := Lib.hid hg
  clear hg
  go_wp2_with fail
  go_loopw [8, 9] (fun nv i wr => ∃ k : Nat, k ≤ N ∧ nv = .int .i64 ((theres (sAt initS l k)).count true : Nat) ∧ i = .int .i64 k ∧ Only Nil w4 wr ∧ Blk wr w4.heap.size 43 (bcs (theres (sAt initS l k)))) (fun _ i _ => N - (intOf i).toNat)
  case atStart => exact ⟨0, Nat.zero_le _, rfl, rfl, by (repeat' (first | with_reducible exact Only.refl _ _ | with_reducible refine Only.setCell ?_ (Or.inl ?_) _ | with_reducible refine Only.drewN ?_ _ | with_reducible refine Only.drew ?_ | with_reducible refine Only.alloc ?_ _ | (exact .inr (Nat.le_refl _)))), H2.out⟩
  case round =>
    obtain ⟨k, hk, rfl, rfl, hO, hb⟩ := hrel
    obtain ⟨b, hbe⟩ : ∃ b, theres (sAt initS l k) = b := ⟨_, rfl⟩
    rw [hbe] at hb ⊢
    have hblen : b.length = 32 := by rw [← hbe]; exact theres_len (sAt_len _ _)
    have hcle := count_le b
    obtain ⟨c, hcc⟩ : ∃ c, b.count true = c := ⟨_, rfl⟩
    rw [hcc] at hcle ⊢
    have HC := Lib.hid hcc
    have HBE := Lib.hid hbe
    have HB := Lib.hid hb
    have HO := Lib.hid hO
    have HBL := Lib.hid hblen
    have HCL : Hid (c ≤ 32) := Lib.hid (by omega)
    clear hcc hbe hb hO hblen hcle
    by_cases hlt : k < N
    · obtain ⟨r, hr⟩ : ∃ r, rs[k]? = some r := ⟨rs[k]'(by rw [HN.out]; exact hlt), List.getElem?_eq_getElem _⟩
      obtain ⟨bb, off, rfl, hbb, hcs⟩ := (HE4.out.next HO.out).at_ hr
      have hlk : l[k]? = some r.x := by rw [← HLL.out, List.getElem?_map, hr]; rfl
      have hst := theres_step (sAt_len l k) (HALL.out k r.x hlk)
      rw [← sAt_succ hlk, HBE.out] at hst
      obtain ⟨b', hbe'⟩ : ∃ b', theres (sAt initS l (k + 1)) = b' := ⟨_, rfl⟩
      rw [hbe'] at hst
      have HBE' := Lib.hid hbe'
      obtain ⟨q, hq, hq32, h3, h6, hot⟩ := hst
      clear hr hbb hbe' hlk
      obtain ⟨Ax, cx, kind, task, call, a0, a1, a2, result, data⟩ := r
      dsimp only at hq h3 h6 hot
      subst hq
      have c0 : wr.cell? ⟨bb, off + k * 8, none⟩ = some (.int .i64 kind) := hcs 0 _ rfl
      have c1 : wr.cell? ⟨bb, off + k * 8 + 1, none⟩ = some (.int .i64 q) := hcs 1 _ rfl
      have c2 : wr.cell? ⟨bb, off + k * 8 + 2, none⟩ = some (.int .i64 call) := hcs 2 _ rfl
      have c3 : wr.cell? ⟨bb, off + k * 8 + 3, none⟩ = some (.int .i64 a0) := hcs 3 _ rfl
      have c4 : wr.cell? ⟨bb, off + k * 8 + 4, none⟩ = some (.int .i64 a1) := hcs 4 _ rfl
      have c5 : wr.cell? ⟨bb, off + k * 8 + 5, none⟩ = some (.int .i64 a2) := hcs 5 _ rfl
      have c6 : wr.cell? ⟨bb, off + k * 8 + 6, none⟩ = some (.int .i64 result) := hcs 6 _ rfl
      have c7 : wr.cell? ⟨bb, off + k * 8 + 7, none⟩ = some (.slice Ax data.length cx) := hcs 7 _ rfl
      have H3 := Lib.hid h3
      have H6 := Lib.hid h6
      have HOT := Lib.hid hot
      clear hcs h3 h6 hot
      have hki : (k : Int) < N := by omega
      go_upto_region 15 with fail
      go_cut [8, 9, 10] (fun nv i p wd => nv = .int .i64 c ∧ i = .int .i64 k ∧ ∃ gb, p = .pointer (some ⟨gb, 0, none⟩) ∧ Blk wd gb 42 #[.int .i64 kind, .int .i64 q, .int .i64 call, .int .i64 a0, .int .i64 a1, .int .i64 a2, .int .i64 result, .slice Ax data.length cx] ∧ Only Nil wr wd)
      case first =>
        go_wp2_with fail
        go_meet
        case rel => exact ⟨rfl, rfl, _, rfl, Blk.new _ _ _, by (repeat' (first | with_reducible exact Only.refl _ _ | with_reducible refine Only.setCell ?_ (Or.inl ?_) _ | with_reducible refine Only.drewN ?_ _ | with_reducible refine Only.drew ?_ | with_reducible refine Only.alloc ?_ _ | (fail)))⟩
      case rest =>
        obtain ⟨rfl, rfl, gb, rfl, hb, hOb⟩ := hcut
        have kb : ∀ i, wc.cell? ⟨gb, i, none⟩ = #[Value.int .i64 kind, .int .i64 q, .int .i64 call, .int .i64 a0, .int .i64 a1, .int .i64 a2, .int .i64 result, .slice Ax data.length cx][i]? := fun i => hb.cell i
        have hgb : Blk wc w4.heap.size 43 (bcs b) := HB.out.onlyNil hOb
        have hfr : ∀ i, wc.frozen? ⟨w4.heap.size, i, none⟩ = false := fun i => hgb.frozen i
        have hne : w4.heap.size ≠ gb := hgb.ne_ hb (by decide)
        have hne' : gb ≠ w4.heap.size := fun h => hne h.symm
        have HGB := Lib.hid hgb
        have HO2 := Lib.hid (HO.out.thenNil hOb)
        have hqi : (q : Int) < 32 := by omega
        clear hb hOb hgb c0 c1 c2 c3 c4 c5 c6 c7
        have hwp : IntKind.i64.wrap ((c : Int) + 1) = (c : Int) + 1 := IntWalk.i64_in _ (by have := HCL.out; omega)
        have hwm : IntKind.i64.wrap ((c : Int) - 1) = (c : Int) - 1 := IntWalk.i64_in _ (by have := HCL.out; omega)
        by_cases e3 : kind = 3
        · subst e3
          obtain ⟨hx, hy⟩ := H3.out rfl
          have cq : wc.cell? ⟨w4.heap.size, q, none⟩ = some (.bool false) := (HGB.out.cell q).trans (bcs_get hx)
          have hct := count_t hx
          rw [← hy, HC.out] at hct
          have HCT := Lib.hid hct
          have HY := Lib.hid hy
          clear hx hy hct
          go_wp2_with fail
          go_roundw
          case rel => exact ⟨k + 1, by omega, by rw [HBE'.out, HCT.out]; go_num, by go_num, HO2.out.trans (S' := fun x => w4.heap.size ≤ x) (by (repeat' (first | with_reducible exact Only.refl _ _ | with_reducible refine Only.setCell ?_ (Or.inl ?_) _ | with_reducible refine Only.drewN ?_ _ | with_reducible refine Only.drew ?_ | with_reducible refine Only.alloc ?_ _ | (exact Nat.le_refl _)))) (fun x hx => .inr hx), by rw [HBE'.out, HY.out, ← bcs_set]; exact HGB.out.set_ _ _⟩
          case measure => simp [intOf]; omega
        · have b3 : (kind == 3) = false := beq_false_of_ne e3
          by_cases e6 : kind = 6
          · subst e6
            obtain ⟨hx, hy⟩ := H6.out rfl
            have cq : wc.cell? ⟨w4.heap.size, q, none⟩ = some (.bool true) := (HGB.out.cell q).trans (bcs_get hx)
            have hct := count_f hx
            rw [← hy, HC.out] at hct
            have HCT := Lib.hid hct
            have HY := Lib.hid hy
            clear hx hy hct e3
            go_wp2_with fail
            go_roundw
            case rel => exact ⟨k + 1, by omega, by rw [HBE'.out, ← HCT.out]; go_num, by go_num, HO2.out.trans (S' := fun x => w4.heap.size ≤ x) (by (repeat' (first | with_reducible exact Only.refl _ _ | with_reducible refine Only.setCell ?_ (Or.inl ?_) _ | with_reducible refine Only.drewN ?_ _ | with_reducible refine Only.drew ?_ | with_reducible refine Only.alloc ?_ _ | (exact Nat.le_refl _)))) (fun x hx => .inr hx), by rw [HBE'.out, HY.out, ← bcs_set]; exact HGB.out.set_ _ _⟩
            case measure => simp [intOf]; omega
          · have b6 : (kind == 6) = false := beq_false_of_ne e6
            have hy := HOT.out e3 e6
            have HY := Lib.hid hy
            clear hy e3 e6
            go_wp2_with fail
            go_roundw
            case rel => exact ⟨k + 1, by omega, by rw [HBE'.out, HY.out, HC.out], by go_num, by (repeat' (first | with_reducible exact Only.refl _ _ | with_reducible refine Only.setCell ?_ (Or.inl ?_) _ | with_reducible refine Only.drewN ?_ _ | with_reducible refine Only.drew ?_ | with_reducible refine Only.alloc ?_ _ | (exact HO2.out))), by rw [HBE'.out, HY.out]; exact HGB.out⟩
            case measure => simp [intOf]; omega
    · have hkN : k = N := by omega
      subst hkN
      have hcM : c = M := by rw [← HC.out, ← HBE.out, ← HS.out, ← alive_len (by rw [HS.out]; exact sAt_len _ _), HL.out, HM.out]
      subst hcM
      obtain ⟨w6, rfl⟩ : ∃ w6, w6 = wr := ⟨_, rfl⟩
      have HRDW := Lib.hid (Rd.onlyNil HRD4.out HO.out (Nat.le_refl _))
      go_wp2_with fail
      go_loopw [11] (fun i wx => ∃ j : Nat, j ≤ c ∧ i = .int .i64 j ∧ Only Nil w6 wx) (fun i _ => c - (intOf i).toNat)
      case atStart => exact ⟨0, Nat.zero_le _, rfl, Only.refl _ _⟩
      case round =>
        obtain ⟨j, hj, rfl, hOx⟩ := hrel
        have HOX := Lib.hid hOx
        clear hOx
        by_cases hjc : j < c
        · obtain ⟨ba, oa, rfl, hba, hcl⟩ := HRDW.out.at_ (by omega)
          obtain ⟨a, hja⟩ : ∃ a, L[j]? = some a := ⟨_, List.getElem?_eq_getElem (by rw [HM.out]; exact hjc)⟩
          have hmem := alive_mem (s := s) (i := j) (a := a) (by rw [HS.out]; exact sAt_len _ _) (by rw [HL.out]; exact hja)
          obtain ⟨ha32, hath⟩ := hmem
          rw [HS.out, HBE.out] at hath
          have hbaw : ba < w6.heap.size := Nat.lt_of_lt_of_le hba HO.out.size
          have d0 : wr.cell? ⟨ba, oa + j, none⟩ = some (.int .i64 a) := (HOX.out.cell (p := ⟨ba, oa + j, none⟩) hbaw (fun x => x)).trans (hcl j _ (icells_get hja))
          have d1 : wr.cell? ⟨w4.heap.size, a, none⟩ = some (.bool true) := ((HB.out.onlyNil HOX.out).cell a).trans (bcs_get hath)
          have hai : (a : Int) < 32 := by omega
          have hji : (j : Int) < c := by omega
          have HJA := Lib.hid hja
          have HCLL := Lib.hid hcl
          have hq1 : decide ((a : Int) < 0) = false := decide_eq_false (by omega)
          have hq2 : decide ((32 : Int) ≤ a) = false := decide_eq_false (by omega)
          have hq3 : decide ((a : Int) ≥ 32) = false := decide_eq_false (by omega)
          clear hja hcl hath hba
          by_cases hj0 : j = 0
          · subst hj0
            have d0' : wr.cell? ⟨ba, oa, none⟩ = some (.int .i64 a) := d0
            clear hlt
            go_wp2_with fail
            go_big_quiet (fail)
            go_wp2_with fail
            go_roundw
            case rel => exact ⟨1, by omega, by go_num, HOX.out.drewN _⟩
            case measure => simp [intOf]; omega
          · obtain ⟨i, hi⟩ : ∃ i, j = i + 1 := ⟨j - 1, by omega⟩
            obtain ⟨a', hja'⟩ : ∃ a', L[i]? = some a' := ⟨_, List.getElem?_eq_getElem (by rw [HM.out]; omega)⟩
            have hla : a' < a := alive_lt (s := s) (i := i) (by rw [HL.out]; exact hja') (by rw [HL.out, ← hi]; exact HJA.out)
            have d2 : wr.cell? ⟨ba, oa + i, none⟩ = some (.int .i64 a') := (HOX.out.cell (p := ⟨ba, oa + i, none⟩) hbaw (fun x => x)).trans (HCLL.out i _ (icells_get hja'))
            have hw1 : IntKind.i64.wrap ((j : Int) - 1) = (i : Int) := by rw [IntWalk.i64_in _ (by omega)]; omega
            have hlai : (a' : Int) < a := by omega
            have hii : (i : Int) < c := by omega
            have hjp : (0 : Int) < j := by omega
            have hq4 : decide ((0 : Int) < j) = true := decide_eq_true hjp
            have hq5 : decide ((j : Int) > 0) = true := decide_eq_true hjp
            have hq6 : decide ((a' : Int) ≥ a) = false := decide_eq_false (by omega)
            have hq8 : decide (0 < j) = true := decide_eq_true (by omega)
            have hq9 : decide (a ≤ a') = false := decide_eq_false (by omega)
            have hq7 : decide ((a : Int) ≤ a') = false := decide_eq_false (by omega)
            have hin : i < c := by omega
            clear hja' hlt hj0 hi
            go_wp2_with fail
            go_big_quiet (fail)
            go_wp2_with fail
            go_roundw
            case rel => exact ⟨j + 1, by omega, by go_num, HOX.out.drewN _⟩
            case measure => simp [intOf]; omega
        · have hjc2 : j = c := by omega
          subst hjc2
          go_wp2_with fail
          go_ret
          exact ⟨by simp, HO4.out.thenNil (HO.out.thenNil HOX.out)⟩

set_option maxRecDepth 100000 in
theorem from_args {H : Type} {enc : TypeId × Value → H} (W : World) (base : Nat) (args : Array Value) (ds : List (DataW H)) (ps : List MemPlace)
    (hval0 : ∀ (j : Nat) t v, Try.f6.params[j]? = some t → args[j]? = some v → Value.okWide Try.prog W .any base t v)
    (hA : DataW.TrodAll enc Try.prog W 0 (fun _ => true) true Try.f6.params.toList args.toList ds ps) (_hlt : ∀ x ∈ ps, x.block < W.heap.size)
    (hsz : (DataW.weightsEach Try.prog Try.f6.params.toList ds).all (· ≤ reachBytes) = true) : Calls Try.prog 6 args W (LawPost W) := by
  have hval := hval0
  rw [Try.params6] at hA hval hsz
  obtain ⟨v0, vs0, d0, ds0, p0, q0, hargs, rfl, rfl, h0, r0⟩ := trodAll_cons hA
  obtain ⟨rfl, rfl, rfl⟩ := trodAll_nil r0
  obtain rfl : args = #[v0] := by cases args; simp_all
  obtain ⟨A, rs, ca, rfl, h1', h2', hE⟩ := open_entries (hval 0 _ v0 rfl rfl) h0
  exact walk A ca rs W hE (by omega)

set_option maxRecDepth 100000 in
theorem over : Rows.replayAliveRow.holds Try.pinned (OpenSpec.ofChange Rows.replayAliveSpec) :=
  OpenClaim.holds_of_wide 6 Try.f6 rfl rfl rfl rfl rfl rfl rfl ⟨rfl, rfl, rfl, rfl, rfl⟩ rfl rfl rfl rfl rfl (by kernel_rfl) Try.func6 (by kernel_rfl)
    (of_decide_eq_true (by kernel_rfl)) (by unfold Func.isWrapper; first | (rw [if_pos (by decide +kernel)]; kernel_rfl) | (rw [if_neg (by decide +kernel)]; exact ⟨rfl, rfl⟩))
    (fun os started H enc _ => law_lifted (f := 6) (F := Try.f6) (s := Rows.replayAliveSpec) os started H enc (by kernel_rfl) Try.func6 rfl rfl (by kernel_rfl) (by kernel_rfl)
      (fun ds hd => by match ds, hd with | [_], _ => rfl)
      (ChangeSpec.witness6 (enc := enc) (C := Try.checked) false ⟨#[], #[.slice none 0 0], []⟩ 8 (by kernel_rfl) (by kernel_rfl) (by kernel_rfl) (by kernel_rfl))
      (fun W base args ds ps hv hA hlt hsz => from_args W base args ds ps hv hA hlt hsz))

/-- The statement. -/
theorem proved : Rows.ReplayAliveSaid := over

end replayAlive
end Go.Proofs.Ytdejceojhkdjnaa
