/-
  Drop of the reference's queue of messages.
  Conditions: the queue's messages can be read.
-/
import Derived.Test.YtljfblnpgeconaaRiQ4
namespace Go.Proofs.Ytljfblnpgeconaa
open Go.RowKit

def keepQ (src : Int) (r : Option Addr × Nat × M) : Bool := !(r.2.2.src == src)
theorem keepQ_map (src : Int) (rs : List (Option Addr × Nat × M)) : (rs.filter (keepQ src)).map (fun r => r.2.2) = (rs.map (fun r => r.2.2)).filter fun m => !(m.src == src) := by
  induction rs with
  | nil => rfl
  | cons r rs ih =>
    rw [List.map_cons, List.filter_cons, List.filter_cons]
    unfold keepQ at ih ⊢
    split <;> simp_all
theorem Stays.newM {base : Nat} {cs : Array Value} : Stays Nil (NewM base cs) := fun _ _ _ hO h => by
  obtain ⟨g, h1, h2, h3⟩ := h
  exact ⟨g, h1, h2, h3.onlyNil hO⟩

def RDropPost (n : Nat) (F : Nat → Prop) (rs : List (Option Addr × Nat × M)) (src : Int) (w : World) (e : Ending) (w' : World) : Prop :=
  ∃ A c, e = .returned (.tuple #[.agg #[.int .i64 n, .slice A (rs.filter (keepQ src)).length c], .int .i64 ((rs.length : Int) - (rs.filter (keepQ src)).length)]) ∧ ML w' F A c (rs.filter (keepQ src)) ∧ Only Nil w w'

set_option maxRecDepth 100000 in
set_option maxHeartbeats 4000000 in
theorem Ref.qdrop_any (n : Nat) (F : Nat → Prop) (A : Option Addr) (c : Nat) (rs : List (Option Addr × Nat × M)) (src : Int) (w : World) (h : ML w F A c rs) (hF : ∀ x, F x → x < w.heap.size) (hl : rs.length ≤ 200) :
    Calls Try.prog 45 #[.agg #[.int .i64 n, .slice A rs.length c], .int .i64 src] w (RDropPost n F rs src w) := by
  obtain ⟨i0, hi0, hz0, hz1, hz2⟩ := info_parts msg_info
  obtain ⟨N, hN⟩ : ∃ N, rs.length = N := ⟨_, rfl⟩
  obtain ⟨gb, hgb⟩ : ∃ gb, gb = w.heap.size := ⟨_, rfl⟩
  obtain ⟨gr, hgr⟩ : ∃ gb, gb = w.heap.size + 1 := ⟨_, rfl⟩
  obtain ⟨gq, hgq⟩ : ∃ gr, gr = w.heap.size + 1 + 1 := ⟨_, rfl⟩
  obtain ⟨W1, hW1⟩ : ∃ W, W = (w.alloc (.cells #[.int .i64 n, .slice A N c] 73)).alloc (.cells #[.int .i64 0, .slice none 0 0] 73) := ⟨_, rfl⟩
  obtain ⟨W, hW⟩ : ∃ W, W = W1.alloc (.cells #[.int .i64 n, .slice none 0 0] 73) := ⟨_, rfl⟩
  have hO1 : Only Nil w W1 := by rw [hW1]; exact ((Only.refl _ _).alloc _).alloc _
  have hO : Only Nil w W := by rw [hW]; exact hO1.alloc _
  have hs1 : W1.heap.size = w.heap.size + 1 + 1 := by rw [hW1, World.size_alloc, World.size_alloc]
  have hb1' : Blk W1 gb 73 #[.int .i64 n, .slice A N c] := by rw [hW1, hgb]; exact (Blk.new _ _ _).alloc _
  have hb1 : Blk W gb 73 #[.int .i64 n, .slice A N c] := by rw [hW]; exact hb1'.alloc _
  have hb2 : Blk W gr 73 #[.int .i64 0, .slice none 0 0] := by
    rw [hW, hW1, hgr]
    have := (Blk.new (w.alloc (.cells #[.int .i64 n, .slice A N c] 73)) 73 #[.int .i64 0, .slice none 0 0]).alloc (.cells #[.int .i64 n, .slice none 0 0] 73)
    rw [World.size_alloc] at this
    exact this
  have hb3 : Blk W gq 73 #[.int .i64 n, .slice none 0 0] := by
    rw [hW, hgq, ← hs1]
    exact Blk.new _ _ _
  have k0 : ∀ i, W1.cell? ⟨gb, i, none⟩ = #[Value.int .i64 n, .slice A N c][i]? := fun i => hb1'.cell i
  have HGB := Lib.hid hgb
  have HGR := Lib.hid hgr
  have HGQ := Lib.hid hgq
  have HW := Lib.hid hW
  have HW1 := Lib.hid hW1
  have HS1 := Lib.hid hs1
  have HO := Lib.hid hO
  have HB1 := Lib.hid hb1
  have HB2 := Lib.hid hb2
  have HB3 := Lib.hid hb3
  have HM := Lib.hid h
  have HF := Lib.hid hF
  have HN := Lib.hid hN
  have HL := Lib.hid hl
  have hnn : gb ≠ gr ∧ gb ≠ gq ∧ gr ≠ gq := by omega
  have HNN := Lib.hid hnn
  have HSW := Lib.hid (show W.heap.size = w.heap.size + 3 by rw [hW, World.size_alloc, hs1])
  rw [hN]
  clear h hF hl hN hgb hgr hgq hW hW1 hs1 hO1 hO hb1' hb1 hb2 hb3 hnn
  go_enter Try.func45, Try.ntmps45
  go_upto_region 1 with fail
  rw [← HW1.out, ← HGR.out, ← HGB.out]
  go_wp2_with fail
  rw [← HW.out, HS1.out, ← HGQ.out]
  clear k0
  go_loopw [7] (fun i wr => ∃ (k : Nat) (A1 : Option Addr) (c1 : Nat) (os : List (Option Addr × Nat × M)), k ≤ N ∧ i = .int .i64 k ∧ os = (rs.take k).filter (keepQ src) ∧ os.length ≤ c1 ∧ wr.ownsRow W.heap.size 48 9 (.slice A1 os.length c1) os.length (os.flatMap rcl) ∧ Blk wr gq 73 #[.int .i64 n, .slice A1 os.length c1] ∧ Blk wr gb 73 #[.int .i64 n, .slice A N c] ∧ Blk wr gr 73 #[.int .i64 0, .slice none 0 0] ∧ Only Nil w wr ∧ W.heap.size ≤ wr.heap.size) (fun i _ => N - (intOf i).toNat)
  case atStart => exact ⟨0, none, 0, [], Nat.zero_le _, rfl, rfl, Nat.le_refl _, World.ownsRow_nil _ _ _ _, HB3.out, HB1.out, HB2.out, HO.out, Nat.le_refl _⟩
  case round =>
    obtain ⟨k, A1, c1, os, hk, rfl, hos, hoc, hown, hbq, hbb, hbr, hOr, hsz⟩ := hrel
    obtain ⟨w3, rfl⟩ : ∃ w3, w3 = wr := ⟨_, rfl⟩
    have kb : ∀ i, w3.cell? ⟨gb, i, none⟩ = #[Value.int .i64 n, .slice A N c][i]? := fun i => hbb.cell i
    have HOS := Lib.hid hos
    have HOC := Lib.hid hoc
    have HWN := Lib.hid hown
    have HBQ := Lib.hid hbq
    have HBB := Lib.hid hbb
    have HBR := Lib.hid hbr
    have HOR := Lib.hid hOr
    have HSZ := Lib.hid hsz
    have hol : os.length ≤ k := by rw [hos]; exact Nat.le_trans (List.length_filter_le _ _) (by rw [List.length_take]; omega)
    have HOL := Lib.hid hol
    clear hos hoc hown hbq hbb hbr hOr hsz hol
    have hN200 : N ≤ 200 := by rw [← HN.out]; exact HL.out
    by_cases hlt : k < N
    · obtain ⟨⟨Am, cm, m⟩, hrk⟩ : ∃ r, rs[k]? = some r := ⟨rs[k]'(by rw [HN.out]; exact hlt), List.getElem?_eq_getElem _⟩
      obtain ⟨b, off, rfl, hbw, hc⟩ := (HM.out.onlyNil HOR.out).at_ hrk
      have hki : (k : Int) < N := by omega
      have htk : rs.take (k + 1) = rs.take k ++ [(Am, cm, m)] := by
        obtain ⟨hkl, hge⟩ := List.getElem?_eq_some_iff.1 hrk
        rw [List.take_succ_eq_append_getElem hkl, hge]
      have hkeep : (rs.take (k + 1)).filter (keepQ src) = if m.src == src then os else os ++ [(Am, cm, m)] := by
        rw [htk, List.filter_append, ← HOS.out]
        unfold keepQ
        cases hh : (m.src == src) <;> simp [hh]
      have HKP := Lib.hid hkeep
      have hmo := mcells_one Am cm m
      have hyc : os.flatMap rcl ++ mcells Am cm m = (os ++ [(Am, cm, m)]).flatMap rcl := by
        rw [List.flatMap_append]
        simp [rcl]
      obtain ⟨o2, ho2⟩ : ∃ o2, os ++ [(Am, cm, m)] = o2 := ⟨_, rfl⟩
      have hyl : os.length + 1 = o2.length := by rw [← ho2, List.length_append]; rfl
      rw [ho2] at hyc HKP
      obtain ⟨s, d, kd, q, a0, a1, a2, a3, x⟩ := m
      unfold rcl mcells at hc
      unfold mcells at hmo hyc
      dsimp only at hc hmo hyc HKP
      obtain ⟨X, hX⟩ : ∃ X, x.length = X := ⟨_, rfl⟩
      rw [hX] at hc hmo hyc
      have hcu : ∀ u, Only Nil w3 u → ∀ j v, [Value.int .i64 s, .int .i64 d, .int .i64 kd, .int .i64 q, .int .i64 a0, .int .i64 a1, .int .i64 a2, .int .i64 a3, .slice Am X cm][j]? = some v → u.cell? ⟨b, off + (k * 9 + j), none⟩ = some v := fun u hu j v hj => (hu.cell (p := ⟨b, off + (k * 9 + j), none⟩) hbw (fun h => h)).trans (hc j v hj)
      have HCU := Lib.hid hcu
      have e0 : w3.cell? ⟨b, off + k * 9, none⟩ = some (.int .i64 s) := hc 0 _ rfl
      have HMO := Lib.hid hmo
      have HYC := Lib.hid hyc
      have HYL := Lib.hid hyl
      clear hc hrk htk hkeep hmo hyc hyl hcu ho2 hX
      by_cases hs : s = src
      · have hs1 : (s == src) = true := by simp [hs]
        have hs2 : (s != src) = false := by simp [hs]
        have HK2 := Lib.hid (HKP.out.trans (by rw [hs1] <;> rfl))
        clear hs
        go_wp2_with fail
        go_roundw
        case rel => exact ⟨k + 1, A1, c1, os, by omega, by go_num, HK2.out.symm, HOC.out, HWN.out, HBQ.out, HBB.out, HBR.out, HOR.out, HSZ.out⟩
        case measure => simp [intOf]; omega
      · have hs1 : (s == src) = false := by simp [hs]
        have hs2 : (s != src) = true := by simp [hs]
        have HK2 := Lib.hid (HKP.out.trans (by rw [hs1] <;> rfl))
        obtain ⟨J, hJ⟩ : ∃ J, os.length = J := ⟨_, rfl⟩
        rw [hJ] at HOC HWN HBQ HOL HYL
        have HJ := Lib.hid hJ
        clear hs hJ
        go_wp2_with fail
        have HIN : Hid (∀ (L : Nat → Bool) (vs : Nat → Value) (u u' : World), Only Nil u u' → (fun _ _ u => Only Nil w3 u) L vs u → (fun _ _ u => Only Nil w3 u) L vs u') := Lib.hid (fun L vs u u' hO hI => by
          exact hI.thenNil hO)
        refine wp_region_any (by kernel_rfl) ?_
        change wpAny _ _ _ _ _ _ _ (World.drew _)
        refine take_first (i := 0) (v := ?v0_6) (some 26) rfl (by rfl) (by kernel_rfl) (by kernel_rfl) (by kernel_rfl) (fun _ _ _ h => h) (Or.inl ⟨by rfl, ?hy0_6⟩) ?rest0_6
        case hy0_6 => (intro w; go_simp <;> with_reducible rfl)
        refine take_first (i := 2) (v := ?v2_6) (some 28) rfl (by rfl) (by kernel_rfl) (by kernel_rfl) (by kernel_rfl) (fun _ _ _ h => h) (Or.inl ⟨by rfl, ?hy2_6⟩) ?rest2_6
        case hy2_6 => (intro w; go_simp <;> with_reducible rfl)
        refine take_first (i := 4) (v := ?v4_6) (some 30) rfl (by rfl) (by kernel_rfl) (by kernel_rfl) (by kernel_rfl) (fun _ _ _ h => h) (Or.inl ⟨by rfl, ?hy4_6⟩) ?rest4_6
        case hy4_6 => (intro w; go_simp <;> with_reducible rfl)
        refine wpAny_inv2 (X := [(1, some 27, []), (3, some 29, []), (5, some 31, [3]), (6, some 32, [5]), (7, some 33, [6])]) (n := 5) (g := 3) (m := 8) (l0 := [true, false, true, false, true, false, false, false, false, false, false]) (T := Nil) (Ps := [Any, Cst (.slice A1 J c1), Any, Cst (.slice (some ⟨b, off, none⟩) N c), Any, Cst (.pointer (some ⟨b, off + k * 9, none⟩)), Cst (.agg #[Value.int .i64 s, .int .i64 d, .int .i64 kd, .int .i64 q, .int .i64 a0, .int .i64 a1, .int .i64 a2, .int .i64 a3, .slice Am X cm]), NewM w3.heap.size #[Value.int .i64 s, .int .i64 d, .int .i64 kd, .int .i64 q, .int .i64 a0, .int .i64 a1, .int .i64 a2, .int .i64 a3, .slice Am X cm]])
          (I := fun _ _ u => Only Nil w3 u)
          (by kernel_rfl) rfl (by kernel_rfl) (by kernel_rfl) (by kernel_rfl) rfl ?h0_6 ?st_6 ?i0_6 ?step_6 ?fin_6
        case h0_6 =>
          intro j hj v u
          match j, hj with
          | 0, hj => trivial
          | 1, hj => exact absurd hj (by decide)
          | 2, hj => trivial
          | 3, hj => exact absurd hj (by decide)
          | 4, hj => trivial
          | 5, hj => exact absurd hj (by decide)
          | 6, hj => exact absurd hj (by decide)
          | 7, hj => exact absurd hj (by decide)
          | 8, hj => exact absurd hj (by decide)
          | 9, hj => exact absurd hj (by decide)
          | 10, hj => exact absurd hj (by decide)
          | n + 11, hj => exact absurd hj (by simp)
        case st_6 =>
          have hT : ∀ x, (Nil) x → x < 0 := fun x h => h.elim
          intro p hp
          simp only [List.mem_cons, List.not_mem_nil, or_false] at hp
          rcases hp with rfl | rfl | rfl | rfl | rfl | rfl | rfl | rfl <;> first | exact Stays.cst _ | exact Stays.own hT | exact Stays.emp hT | exact Stays.any | exact Stays.newM
        case i0_6 =>
          intro vs
          exact (Only.refl _ _).drew
        case step_6 =>
          intro x hx L vs u hI hA h0 hd
          simp only [List.mem_cons, List.not_mem_nil, or_false] at hx
          rcases hx with rfl | rfl | rfl | rfl | rfl
          · refine inv_step _ (by rfl) (by rfl) (fun K' hK => ?_)
            simp only [putAll, Act.put, List.setIfInBounds_toArray, List.set_cons_succ, List.set_cons_zero] at hK ⊢
            have ks : ∀ i, u.cell? ⟨gq, i, none⟩ = #[Value.int .i64 n, .slice A1 J c1][i]? := fun i => (HBQ.out.onlyNil hI).cell i
            go_simp
            exact hK _ _ ⟨Only.refl _ _, hI, rfl⟩
          · refine inv_step _ (by rfl) (by rfl) (fun K' hK => ?_)
            simp only [putAll, Act.put, List.setIfInBounds_toArray, List.set_cons_succ, List.set_cons_zero] at hK ⊢
            have ks : ∀ i, u.cell? ⟨gb, i, none⟩ = #[Value.int .i64 n, .slice (some ⟨b, off, none⟩) N c][i]? := fun i => (HBB.out.onlyNil hI).cell i
            go_simp
            exact hK _ _ ⟨Only.refl _ _, hI, rfl⟩
          · refine inv_step _ (by rfl) (by rfl) (fun K' hK => ?_)
            simp only [putAll, Act.put, List.setIfInBounds_toArray, List.set_cons_succ, List.set_cons_zero] at hK ⊢
            have e3 := hA 3 (hd 3 (by simp))
            change vs 3 = (.slice (some ⟨b, off, none⟩) N c) at e3
            simp only [e3] at hK
            go_simp
            exact hK _ _ ⟨Only.refl _ _, hI, rfl⟩
          · refine inv_step _ (by rfl) (by rfl) (fun K' hK => ?_)
            simp only [putAll, Act.put, List.setIfInBounds_toArray, List.set_cons_succ, List.set_cons_zero] at hK ⊢
            have e5 := hA 5 (hd 5 (by simp))
            change vs 5 = (.pointer (some ⟨b, off + k * 9, none⟩)) at e5
            simp only [e5] at hK
            have e := HCU.out _ hI
            have e0 : u.cell? ⟨b, off + k * 9, none⟩ = some (.int .i64 s) := e 0 _ rfl
            have e1 : u.cell? ⟨b, off + k * 9 + 1, none⟩ = some (.int .i64 d) := e 1 _ rfl
            have e2 : u.cell? ⟨b, off + k * 9 + 2, none⟩ = some (.int .i64 kd) := e 2 _ rfl
            have e3 : u.cell? ⟨b, off + k * 9 + 3, none⟩ = some (.int .i64 q) := e 3 _ rfl
            have e4 : u.cell? ⟨b, off + k * 9 + 4, none⟩ = some (.int .i64 a0) := e 4 _ rfl
            have e5' : u.cell? ⟨b, off + k * 9 + 5, none⟩ = some (.int .i64 a1) := e 5 _ rfl
            have e6 : u.cell? ⟨b, off + k * 9 + 6, none⟩ = some (.int .i64 a2) := e 6 _ rfl
            have e7 : u.cell? ⟨b, off + k * 9 + 7, none⟩ = some (.int .i64 a3) := e 7 _ rfl
            have e8 : u.cell? ⟨b, off + k * 9 + 8, none⟩ = some (.slice Am X cm) := e 8 _ rfl
            go_simp
            exact hK _ _ ⟨Only.refl _ _, hI, rfl⟩
          · refine inv_step _ (by rfl) (by rfl) (fun K' hK => ?_)
            simp only [putAll, Act.put, List.setIfInBounds_toArray, List.set_cons_succ, List.set_cons_zero] at hK ⊢
            have e6 := hA 6 (hd 6 (by simp))
            change vs 6 = (.agg #[Value.int .i64 s, .int .i64 d, .int .i64 kd, .int .i64 q, .int .i64 a0, .int .i64 a1, .int .i64 a2, .int .i64 a3, .slice Am X cm]) at e6
            simp only [e6] at hK
            go_simp
            exact hK _ _ ⟨(Only.refl _ _).alloc _, HIN.out L vs _ _ ((Only.refl _ _).alloc _) hI, ⟨_, rfl, hI.size, Blk.new _ _ _⟩⟩
        case fin_6 =>
          intro L vs u hI hL hA
          simp only [putAll, Act.put, List.setIfInBounds_toArray, List.set_cons_succ, List.set_cons_zero, List.drop_succ_cons, List.drop_zero]
          have e1 := hA 1 (by omega)
          change vs 1 = .slice A1 J c1 at e1
          obtain ⟨g7, e7, hg7, hb7⟩ := hA 7 (by omega)
          simp only [e1, e7]
          have HI := Lib.hid hI
          have HB7 := Lib.hid hb7
          have HWU := Lib.hid (own_onlyNil HWN.out hI)
          have m63 : J + 1 ≤ maxLen := by have := HOL.out; have := HL.out; have := HN.out; unfold maxLen; omega
          have mby : (J + 1) * 88 ≤ 140737488355328 := by have := HOL.out; have := HL.out; have := HN.out; omega
          have M63 := Lib.hid m63
          have MBY := Lib.hid mby
          have MBA := Lib.hid (Nat.le_trans HSZ.out hI.size)
          clear hA hL hI e1 e7 hb7 m63 mby kb e0
          go_wp2_with (at_builtin; go_must (refine wpList_append_rd _ rfl (.tmp 27) (.tmp 33) _ rfl W.heap.size 48 i0 _ 9 88 Try.underlying45 hi0 hz0 hz1 hz2 rfl (by omega) (.slice A1 J c1) J (os.flatMap rcl) rfl HWU.out (g7 + 1) (some ⟨g7, 0, none⟩) 1 1 _ rfl (Rd.blk HB7.out rfl) HMO.out o2.length HYL.out (o2.flatMap rcl) HYC.out M63.out MBY.out MBA.out ?_))
          intro A4 c4 w4 hc4 hown4 hgr4 hat4
          have hO4 : Only Nil w w4 := (HOR.out.thenNil HI.out).grown hgr4 (fun y hy => .inr (Nat.le_trans HO.out.size (ownBlock_ge HWU.out hy)))
          have hbq4 := (HBQ.out.onlyNil HI.out).grown hgr4 (fun e => own_blk_ne HWU.out (HBQ.out.onlyNil HI.out) (by decide) e.symm)
          have hbb4 := (HBB.out.onlyNil HI.out).grown hgr4 (fun e => own_blk_ne HWU.out (HBB.out.onlyNil HI.out) (by decide) e.symm)
          have hbr4 := (HBR.out.onlyNil HI.out).grown hgr4 (fun e => own_blk_ne HWU.out (HBR.out.onlyNil HI.out) (by decide) e.symm)
          have kq : ∀ i, w4.cell? ⟨gq, i, none⟩ = #[Value.int .i64 n, .slice A1 J c1][i]? := fun i => hbq4.cell i
          have fq : ∀ i, w4.frozen? ⟨gq, i, none⟩ = false := fun i => hbq4.frozen i
          have hS : Only (One gq) w4 (w4.setCell ⟨gq, 1, none⟩ (.slice A4 o2.length c4)) := by (repeat' (first | with_reducible exact Only.refl _ _ | with_reducible refine Only.setCell ?_ (Or.inl ?_) _ | with_reducible refine Only.drewN ?_ _ | with_reducible refine Only.drew ?_ | with_reducible refine Only.alloc ?_ _ | (exact rfl)))
          have HS := Lib.hid hS
          have HO4 := Lib.hid (hO4.trans hS (fun y hy => .inr (by unfold One at hy; rw [hy, HGQ.out]; omega)))
          have HQ5 := Lib.hid (hbq4.set_ 1 (.slice A4 o2.length c4))
          have HB5 := Lib.hid (hbb4.only hS (fun hy => HNN.out.2.1 hy))
          have HR5 := Lib.hid (hbr4.only hS (fun hy => HNN.out.2.2 hy))
          have HW5 := Lib.hid (own_only hown4 hS (fun y hy hx => own_blk_ne hown4 hbq4 (by decide) (by rw [hy, hx])))
          have HC4 := Lib.hid hc4
          have HZ5 := Lib.hid (Nat.le_trans (Nat.le_trans (Nat.le_trans HSZ.out HI.out.size) (Only.of_grown hgr4).size) hS.size)
          clear hc4 hown4 hgr4 hat4 hO4 hbq4 hbb4 hbr4 hS
          go_wp2_with fail
          go_roundw
          case rel => exact ⟨k + 1, A4, c4, o2, by omega, by go_num, HK2.out.symm, HC4.out, HW5.out, HQ5.out, HB5.out, HR5.out, HO4.out, HZ5.out⟩
          case measure => simp [intOf]; omega
    · have hkN : k = N := by omega
      subst hkN
      have hfl : os = rs.filter (keepQ src) := by rw [HOS.out, List.take_of_length_le (by rw [HN.out]; exact Nat.le_refl _)]
      obtain ⟨J, hJ⟩ : ∃ J, os.length = J := ⟨_, rfl⟩
      have HOLk := HOL.out
      rw [hJ] at HOC HWN HBQ HOLk
      have hfin : ∀ u, Only (One gr) w3 u → RDropPost n F rs src w (.returned (.tuple #[.agg #[.int .i64 n, .slice A1 J c1], .int .i64 ((k : Int) - J)])) u := fun u hu => by
        have h5 := own_only HWN.out hu (fun y hy hx => own_blk_ne HWN.out HBR.out (by decide) (by rw [hy, hx]))
        have h6 : Only Nil w u := HOR.out.trans hu (fun y hy => .inr (by unfold One at hy; rw [hy, HGR.out]; omega))
        rw [← hJ] at h5
        refine ⟨A1, c1, ?_, ?_, h6⟩
        · rw [← hfl, hJ, HN.out]
        · rw [← hfl]
          exact ML.of_own h5 (by rw [hJ]; exact HOC.out) (fun y hy => Nat.lt_of_lt_of_le (HF.out y hy) HO.out.size) h6 (fun r' hr' => HM.out.data r' (by rw [hfl] at hr'; exact (List.mem_filter.1 hr').1))
      have HFN := Lib.hid hfin
      clear hfl hJ hfin
      have hw1 : IntKind.i64.wrap ((k : Int) - J) = (k : Int) - J := IntWalk.i64_in _ (by omega)
      have HW9 := Lib.hid hw1
      go_wp2_with fail
      have HIN : Hid (∀ (L : Nat → Bool) (vs : Nat → Value) (u u' : World), Only Nil u u' → (fun L _ u => Only (One gr) w3 u ∧ (L 8 = false → Blk u gr 73 #[.int .i64 0, .slice none 0 0]) ∧ (L 8 = true → Blk u gr 73 #[.int .i64 n, .slice A1 J c1])) L vs u → (fun L _ u => Only (One gr) w3 u ∧ (L 8 = false → Blk u gr 73 #[.int .i64 0, .slice none 0 0]) ∧ (L 8 = true → Blk u gr 73 #[.int .i64 n, .slice A1 J c1])) L vs u') := Lib.hid (fun L vs u u' hO hI => by
        exact ⟨hI.1.thenNil hO, fun h => (hI.2.1 h).onlyNil hO, fun h => (hI.2.2 h).onlyNil hO⟩)
      refine wp_region_any (by kernel_rfl) ?_
      change wpAny _ _ _ _ _ _ _ (World.drew _)
      refine take_first (i := 1) (v := ?v1_7) (some 37) rfl (by rfl) (by kernel_rfl) (by kernel_rfl) (by kernel_rfl) (fun _ _ _ h => h) (Or.inl ⟨by rfl, ?hy1_7⟩) ?rest1_7
      case hy1_7 => (intro w; go_simp <;> with_reducible rfl)
      refine take_first (i := 4) (v := ?v4_7) (some 40) rfl (by rfl) (by kernel_rfl) (by kernel_rfl) (by kernel_rfl) (fun _ _ _ h => h) (Or.inl ⟨by rfl, ?hy4_7⟩) ?rest4_7
      case hy4_7 => (intro w; go_simp <;> with_reducible rfl)
      refine wpAny_inv2 (X := [(0, some 36, []), (2, some 38, []), (3, some 39, [2]), (5, some 41, []), (6, some 42, [5]), (7, some 43, [3, 6]), (8, none, [0])]) (n := 7) (g := 1) (m := 9) (l0 := [false, true, false, false, true, false, false, false, false, false]) (T := One gr) (Ps := [Cst (.agg #[.int .i64 n, .slice A1 J c1]), Any, Cst (.slice A k c), Cst (.int .i64 k), Any, Cst (.slice A1 J c1), Cst (.int .i64 J), Cst (.int .i64 ((k : Int) - J)), Any])
        (I := fun L _ u => Only (One gr) w3 u ∧ (L 8 = false → Blk u gr 73 #[.int .i64 0, .slice none 0 0]) ∧ (L 8 = true → Blk u gr 73 #[.int .i64 n, .slice A1 J c1]))
        (by kernel_rfl) rfl (by kernel_rfl) (by kernel_rfl) (by kernel_rfl) rfl ?h0_7 ?st_7 ?i0_7 ?step_7 ?fin_7
      case h0_7 =>
        intro j hj v u
        match j, hj with
        | 0, hj => exact absurd hj (by decide)
        | 1, hj => trivial
        | 2, hj => exact absurd hj (by decide)
        | 3, hj => exact absurd hj (by decide)
        | 4, hj => trivial
        | 5, hj => exact absurd hj (by decide)
        | 6, hj => exact absurd hj (by decide)
        | 7, hj => exact absurd hj (by decide)
        | 8, hj => exact absurd hj (by decide)
        | 9, hj => exact absurd hj (by decide)
        | n + 10, hj => exact absurd hj (by simp)
      case st_7 =>
        intro p hp
        simp only [List.mem_cons, List.not_mem_nil, or_false] at hp
        rcases hp with rfl | rfl | rfl | rfl | rfl | rfl | rfl | rfl | rfl <;> first | exact Stays.cst _ | exact Stays.any
      case i0_7 =>
        intro vs
        exact ⟨(Only.refl _ _).drew, fun _ => HBR.out.drew, (fun h => by cases h)⟩
      case step_7 =>
        intro x hx L vs u hI hA h0 hd
        simp only [List.mem_cons, List.not_mem_nil, or_false] at hx
        rcases hx with rfl | rfl | rfl | rfl | rfl | rfl | rfl
        · refine inv_step _ (by rfl) (by rfl) (fun K' hK => ?_)
          simp only [putAll, Act.put, List.setIfInBounds_toArray, List.set_cons_succ, List.set_cons_zero] at hK ⊢
          have ks : ∀ i, u.cell? ⟨gq, i, none⟩ = #[Value.int .i64 n, .slice A1 J c1][i]? := fun i => (HBQ.out.only hI.1 (fun hy => HNN.out.2.2 hy.symm)).cell i
          go_simp
          exact hK _ _ ⟨Only.refl _ _, hI, rfl⟩
        · refine inv_step _ (by rfl) (by rfl) (fun K' hK => ?_)
          simp only [putAll, Act.put, List.setIfInBounds_toArray, List.set_cons_succ, List.set_cons_zero] at hK ⊢
          have ks : ∀ i, u.cell? ⟨gb, i, none⟩ = #[Value.int .i64 n, .slice A k c][i]? := fun i => (HBB.out.only hI.1 (fun hy => HNN.out.1 hy)).cell i
          go_simp
          exact hK _ _ ⟨Only.refl _ _, hI, rfl⟩
        · refine inv_step _ (by rfl) (by rfl) (fun K' hK => ?_)
          simp only [putAll, Act.put, List.setIfInBounds_toArray, List.set_cons_succ, List.set_cons_zero] at hK ⊢
          have e2 := hA 2 (hd 2 (by simp))
          change vs 2 = (.slice A k c) at e2
          simp only [e2] at hK
          go_simp
          exact hK _ _ ⟨Only.refl _ _, hI, rfl⟩
        · refine inv_step _ (by rfl) (by rfl) (fun K' hK => ?_)
          simp only [putAll, Act.put, List.setIfInBounds_toArray, List.set_cons_succ, List.set_cons_zero] at hK ⊢
          have ks : ∀ i, u.cell? ⟨gq, i, none⟩ = #[Value.int .i64 n, .slice A1 J c1][i]? := fun i => (HBQ.out.only hI.1 (fun hy => HNN.out.2.2 hy.symm)).cell i
          go_simp
          exact hK _ _ ⟨Only.refl _ _, hI, rfl⟩
        · refine inv_step _ (by rfl) (by rfl) (fun K' hK => ?_)
          simp only [putAll, Act.put, List.setIfInBounds_toArray, List.set_cons_succ, List.set_cons_zero] at hK ⊢
          have e5 := hA 5 (hd 5 (by simp))
          change vs 5 = (.slice A1 J c1) at e5
          simp only [e5] at hK
          go_simp
          exact hK _ _ ⟨Only.refl _ _, hI, rfl⟩
        · refine inv_step _ (by rfl) (by rfl) (fun K' hK => ?_)
          simp only [putAll, Act.put, List.setIfInBounds_toArray, List.set_cons_succ, List.set_cons_zero] at hK ⊢
          have e3 := hA 3 (hd 3 (by simp))
          change vs 3 = (.int .i64 k) at e3
          have e6 := hA 6 (hd 6 (by simp))
          change vs 6 = (.int .i64 J) at e6
          simp only [e3, e6] at hK
          have hw1 := HW9.out
          go_simp
          exact hK _ _ ⟨Only.refl _ _, hI, rfl⟩
        · refine inv_step _ (by rfl) (by rfl) (fun K' hK => ?_)
          simp only [putAll, Act.put, List.setIfInBounds_toArray, List.set_cons_succ, List.set_cons_zero] at hK ⊢
          have e0 := hA 0 (hd 0 (by simp))
          change vs 0 = (.agg #[.int .i64 n, .slice A1 J c1]) at e0
          simp only [e0] at hK
          have kk : ∀ i, u.cell? ⟨gr, i, none⟩ = #[Value.int .i64 0, .slice none 0 0][i]? := fun i => (hI.2.1 h0).cell i
          have ff : ∀ i, u.frozen? ⟨gr, i, none⟩ = false := fun i => (hI.2.1 h0).frozen i
          have hS : Only (One gr) u ((u.setCell ⟨gr, 0, none⟩ (.int .i64 n)).setCell ⟨gr, 1, none⟩ (.slice A1 J c1)) := by (repeat' (first | with_reducible exact Only.refl _ _ | with_reducible refine Only.setCell ?_ (Or.inl ?_) _ | with_reducible refine Only.drewN ?_ _ | with_reducible refine Only.drew ?_ | with_reducible refine Only.alloc ?_ _ | (exact rfl)))
          have hb2 := ((hI.2.1 h0).set_ 0 (.int .i64 n)).set_ 1 (.slice A1 J c1)
          have HI2 := Lib.hid (And.intro hS (And.intro (hI.1.then_ hS) hb2))
          clear hS hb2 hI hA
          go_simp
          exact hK (.bool false) _ ⟨HI2.out.1, ⟨HI2.out.2.1, (fun h => by cases h), fun _ => HI2.out.2.2⟩, trivial⟩
      case fin_7 =>
        intro L vs u hI hL hA
        simp only [putAll, Act.put, List.setIfInBounds_toArray, List.set_cons_succ, List.set_cons_zero, List.drop_succ_cons, List.drop_zero]
        have e7 := hA 7 (by omega)
        change vs 7 = .int .i64 ((k : Int) - J) at e7
        simp only [e7]
        have hb := hI.2.2 (hL 8 (by omega))
        have kr : ∀ i, u.cell? ⟨gr, i, none⟩ = #[Value.int .i64 n, .slice A1 J c1][i]? := fun i => hb.cell i
        have HI := Lib.hid hI.1
        clear hA hL hI hb e7 kb
        go_wp2_with fail
        refine bodyPost_ret (v := .tuple #[.agg #[.int .i64 n, .slice A1 J c1], .int .i64 ((k : Int) - J)]) (by simp [results, Try.results45, go_sem, kr]) rfl ?_
        exact HFN.out _ HI.out

end Go.Proofs.Ytljfblnpgeconaa
