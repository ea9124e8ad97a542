/-
  Put of the reference's queue of messages.
  Conditions: the queue's messages and the further one can be read.
-/
import Derived.Test.YtljfblnpgeconaaRiQ3
namespace Go.Proofs.Ytljfblnpgeconaa
open Go.RowKit

theorem Rd.blk {w : World} {g : Nat} {t : TypeId} {cs : Array Value} {n size : Nat} (h : Blk w g t cs) (hn : cs.size = n * size) : Rd w (g + 1) size (some ⟨g, 0, none⟩) n cs.toList :=
  ⟨by rw [Array.length_toList, hn], fun _ => ⟨g, 0, rfl, Nat.lt_succ_self _, fun j u hj => by
    rw [Nat.zero_add, h.cell j]
    rw [← hj]
    simp⟩⟩
def NewM (base : Nat) (cs : Array Value) : VPred := fun v w => ∃ g, v = .slice (some ⟨g, 0, none⟩) 1 1 ∧ base ≤ g ∧ Blk w g 48 cs

def qputR (n : Nat) (rs : List (Option Addr × Nat × M)) (r : Option Addr × Nat × M) : List (Option Addr × Nat × M) := if n ≤ rs.length ∨ 1536 < r.2.2.data.length then rs else rs ++ [r]
theorem qputR_map (n : Nat) (rs : List (Option Addr × Nat × M)) (r : Option Addr × Nat × M) : (qputR n rs r).map (fun r => r.2.2) = qputL n (rs.map fun r => r.2.2) r.2.2 := by
  unfold qputR qputL
  rw [List.length_map]
  split <;> simp
def RPutPost (n : Nat) (F : Nat → Prop) (rs : List (Option Addr × Nat × M)) (r : Option Addr × Nat × M) (w : World) (e : Ending) (w' : World) : Prop :=
  ∃ A c, e = .returned (.tuple #[.agg #[.int .i64 n, .slice A (qputR n rs r).length c], .int .i64 (qputE n (rs.map fun r => r.2.2) r.2.2)]) ∧ ML w' F A c (qputR n rs r) ∧ Only Nil w w'

set_option maxRecDepth 100000 in
set_option maxHeartbeats 4000000 in
theorem Ref.qput_any (n : Nat) (F : Nat → Prop) (A : Option Addr) (c : Nat) (rs : List (Option Addr × Nat × M)) (Am : Option Addr) (cm : Nat) (m : M) (w : World) (h : ML w F A c rs) (hF : ∀ x, F x → x < w.heap.size) (hl : rs.length ≤ 200)
    (hm : m.data.length ≤ cm ∧ cm ≤ maxLen ∧ m.fits ∧ Bs w w.heap.size Am m.data ∧ (0 < m.data.length → Av F Am)) :
    Calls Try.prog 43 #[.agg #[.int .i64 n, .slice A rs.length c], .agg (mcells Am cm m).toArray] w (RPutPost n F rs (Am, cm, m) w) := by
  obtain ⟨i0, hi0, hz0, hz1, hz2⟩ := info_parts msg_info
  obtain ⟨N, hN⟩ : ∃ N, rs.length = N := ⟨_, rfl⟩
  obtain ⟨gb, hgb⟩ : ∃ gb, gb = w.heap.size := ⟨_, rfl⟩
  obtain ⟨gm, hgm⟩ : ∃ gb, gb = w.heap.size + 1 := ⟨_, rfl⟩
  obtain ⟨gr, hgr⟩ : ∃ gr, gr = w.heap.size + 1 + 1 := ⟨_, rfl⟩
  obtain ⟨W, hW⟩ : ∃ W, W = ((w.alloc (.cells #[.int .i64 n, .slice A N c] 73)).alloc (.cells (mcells Am cm m).toArray 48)).alloc (.cells #[.int .i64 0, .slice none 0 0] 73) := ⟨_, rfl⟩
  have hO : Only Nil w W := by rw [hW]; exact (((Only.refl _ _).alloc _).alloc _).alloc _
  have hb1 : Blk W gb 73 #[.int .i64 n, .slice A N c] := by rw [hW, hgb]; exact ((Blk.new _ _ _).alloc _).alloc _
  have hbm : Blk W gm 48 (mcells Am cm m).toArray := by
    rw [hW, hgm]
    have := (Blk.new (w.alloc (.cells #[.int .i64 n, .slice A N c] 73)) 48 (mcells Am cm m).toArray).alloc (.cells #[.int .i64 0, .slice none 0 0] 73)
    rw [World.size_alloc] at this
    exact this
  have hb2 : Blk W gr 73 #[.int .i64 0, .slice none 0 0] := by
    rw [hW, hgr]
    have := Blk.new ((w.alloc (.cells #[.int .i64 n, .slice A N c] 73)).alloc (.cells (mcells Am cm m).toArray 48)) 73 #[.int .i64 0, .slice none 0 0]
    rw [World.size_alloc, World.size_alloc] at this
    exact this
  have hM := h.onlyNil hO
  have hne : gb ≠ gr := by omega
  have hfull : (n ≤ N ∨ 1536 < m.data.length) → ∀ u, Only (One gr) W u → RPutPost n F rs (Am, cm, m) w (.returned (.tuple #[.agg #[.int .i64 n, .slice A N c], .int .i64 6])) u := fun hc u hu => by
    have e1 : qputR n rs (Am, cm, m) = rs := by unfold qputR; rw [hN, if_pos hc]
    have e2 : qputE n (rs.map fun r => r.2.2) m = 6 := by unfold qputE; rw [List.length_map, hN, if_pos hc]
    have hOu : Only Nil w u := hO.trans hu (fun x hx => .inr (by unfold One at hx; omega))
    refine ⟨A, c, ?_, ?_, hOu⟩
    · rw [e1, hN]
      show _ = Ending.returned (.tuple #[_, .int .i64 (qputE n (rs.map fun r => r.2.2) m)])
      rw [e2]
    · rw [e1]
      exact h.onlyNil hOu
  have hroom : ¬ (n ≤ N ∨ 1536 < m.data.length) → ∀ u v A3 c3, Only (fun z => W.heap.size ≤ z) W u → (rs ++ [(Am, cm, m)]).length ≤ c3 → u.ownsRow W.heap.size 48 9 (.slice A3 (rs ++ [(Am, cm, m)]).length c3) (rs ++ [(Am, cm, m)]).length ((rs ++ [(Am, cm, m)]).flatMap rcl) → Only (One gr) u v →
      RPutPost n F rs (Am, cm, m) w (.returned (.tuple #[.agg #[.int .i64 n, .slice A3 (rs ++ [(Am, cm, m)]).length c3], .int .i64 0])) v := fun hc u v A3 c3 h1 h2 h3 h4 => by
    have e1 : qputR n rs (Am, cm, m) = rs ++ [(Am, cm, m)] := by unfold qputR; rw [hN, if_neg hc]
    have e2 : qputE n (rs.map fun r => r.2.2) m = 0 := by unfold qputE; rw [List.length_map, hN, if_neg hc]
    have h5 := own_only h3 h4 (fun q hq hx => by have := ownBlock_ge h3 hq; have := hb2.lt; unfold One at hx; omega)
    have hs := hO.size
    have h6 : Only Nil w v := (hO.trans h1 (fun x hx => .inr (by omega))).trans h4 (fun x hx => .inr (by unfold One at hx; omega))
    refine ⟨A3, c3, ?_, ?_, h6⟩
    · rw [e1]
      show _ = Ending.returned (.tuple #[_, .int .i64 (qputE n (rs.map fun r => r.2.2) m)])
      rw [e2]
    · rw [e1]
      exact ML.of_own h5 h2 (fun x hx => Nat.lt_of_lt_of_le (hF x hx) hs) h6 (fun r' hr' => by
        rcases List.mem_append.1 hr' with h7 | h7
        · exact h.data r' h7
        · have : r' = (Am, cm, m) := by simpa using h7
          subst this
          exact hm)
  have HFULL := Lib.hid hfull
  have HROOM := Lib.hid hroom
  have hyl : N + 1 = (rs ++ [(Am, cm, m)]).length := by rw [List.length_append, hN]; rfl
  have hyc : rs.flatMap rcl ++ mcells Am cm m = (rs ++ [(Am, cm, m)]).flatMap rcl := by
    rw [List.flatMap_append]
    simp [rcl]
  have hmo := mcells_one Am cm m
  have hrd : ∀ u, Only (fun z => W.heap.size ≤ z) W u → Rd u W.heap.size 9 A N (rs.flatMap rcl) := fun u hu => by
    have h1 := hM.rd
    rw [hN] at h1
    exact rd_avoid h1 hu (Nat.le_refl _) (fun hn a ha hx => by
      obtain ⟨b, o, e, hb, _⟩ := h1.2 hn
      rw [ha] at e
      injection e with e
      rw [e] at hx
      dsimp only at hx
      omega)
  obtain ⟨rs2, hrs2⟩ : ∃ rs2, rs ++ [(Am, cm, m)] = rs2 := ⟨_, rfl⟩
  rw [hrs2] at hyl hyc HROOM
  have hl2 : rs2.length ≤ 201 := by omega
  have hcap := hM.cap
  have k1 : ∀ i, W.cell? ⟨gb, i, none⟩ = #[Value.int .i64 n, .slice A N c][i]? := fun i => hb1.cell i
  have km : ∀ i, W.cell? ⟨gm, i, none⟩ = (mcells Am cm m).toArray[i]? := fun i => hbm.cell i
  have k2 : ∀ i, W.cell? ⟨gr, i, none⟩ = #[Value.int .i64 0, .slice none 0 0][i]? := fun i => hb2.cell i
  have f2 : ∀ i, W.frozen? ⟨gr, i, none⟩ = false := fun i => hb2.frozen i
  have hc3 : (n ≤ N) ∨ (¬ n ≤ N ∧ 1536 < m.data.length) ∨ (¬ n ≤ N ∧ ¬ 1536 < m.data.length) := by omega
  have HGB := Lib.hid hgb
  have HGM := Lib.hid hgm
  have HGR := Lib.hid hgr
  have HB1 := Lib.hid hb1
  have HB2 := Lib.hid hb2
  have HBM := Lib.hid hbm
  have HYL := Lib.hid hyl
  have HYC := Lib.hid hyc
  have HMO := Lib.hid hmo
  have HRD := Lib.hid hrd
  have HL2 := Lib.hid hl2
  have HN := Lib.hid hN
  have HC := Lib.hid hcap
  have HL := Lib.hid hl
  rw [hN]
  obtain ⟨src, dst, kind, seq, a0, a1, a2, a3, x⟩ := m
  unfold mcells at km HBM hW HYC HMO ⊢
  dsimp only at km HBM hW HYC HMO hc3 HROOM HFULL ⊢
  obtain ⟨X, hX⟩ : ∃ X, x.length = X := ⟨_, rfl⟩
  rw [hX] at km HBM hW HYC HMO hc3 HROOM HFULL ⊢
  obtain ⟨cs, hcs⟩ : ∃ cs, cs = #[Value.int .i64 src, .int .i64 dst, .int .i64 kind, .int .i64 seq, .int .i64 a0, .int .i64 a1, .int .i64 a2, .int .i64 a3, .slice Am X cm] := ⟨_, rfl⟩
  have HCS := Lib.hid hcs
  have HW := Lib.hid hW
  clear h hF hl hm hO hb1 hbm hb2 hM hfull hroom hyl hyc hmo hrd hl2 hgb hgm hgr hW hX hcap hN hrs2
  rcases hc3 with hc | ⟨hc, hd⟩ | ⟨hc, hd⟩
  · have HF1 := Lib.hid (HFULL.out (.inl hc))
    have hd1 : (n : Int) ≤ (N : Int) := by omega
    clear hc
    go_enter Try.func43, Try.ntmps43
    go_upto_region 1 with fail
    rw [← HW.out, ← HGR.out, ← HGM.out, ← HGB.out]
    go_wp2_with fail
    refine bodyPost_ret (v := .tuple #[.agg #[.int .i64 n, .slice A N c], .int .i64 6]) (by simp [results, Try.results43, go_sem, k2]) rfl ?_
    refine HF1.out _ ?_
    (repeat' (first | with_reducible exact Only.refl _ _ | with_reducible refine Only.setCell ?_ (Or.inl ?_) _ | with_reducible refine Only.drewN ?_ _ | with_reducible refine Only.drew ?_ | with_reducible refine Only.alloc ?_ _ | (exact rfl)))
  · have HF1 := Lib.hid (HFULL.out (.inr hd))
    have hd1 : ¬ (n : Int) ≤ (N : Int) := by omega
    have hd2 : (1536 : Int) < (X : Int) := by omega
    clear hc hd
    go_enter Try.func43, Try.ntmps43
    go_upto_region 1 with fail
    rw [← HW.out, ← HGR.out, ← HGM.out, ← HGB.out]
    go_wp2_with fail
    refine bodyPost_ret (v := .tuple #[.agg #[.int .i64 n, .slice A N c], .int .i64 6]) (by simp [results, Try.results43, go_sem, k2]) rfl ?_
    refine HF1.out _ ?_
    (repeat' (first | with_reducible exact Only.refl _ _ | with_reducible refine Only.setCell ?_ (Or.inl ?_) _ | with_reducible refine Only.drewN ?_ _ | with_reducible refine Only.drew ?_ | with_reducible refine Only.alloc ?_ _ | (exact rfl)))
  · have HF1 := Lib.hid (HROOM.out (by omega))
    have hd1 : ¬ (n : Int) ≤ (N : Int) := by omega
    have hd2 : ¬ (1536 : Int) < (X : Int) := by omega
    clear hc hd
    go_enter Try.func43, Try.ntmps43
    go_upto_region 1 with fail
    rw [← HW.out, ← HGR.out, ← HGM.out, ← HGB.out]
    go_wp2_with fail
    have HIN : Hid (∀ (L : Nat → Bool) (vs : Nat → Value) (u u' : World), Only Nil u u' → (fun L vs u => Only (fun z => W.heap.size ≤ z) W u ∧ (L 2 = true → L 5 = false → Emp 48 W.heap.size (vs 2) u) ∧ (L 5 = true → L 8 = false → OwnR W.heap.size rs (vs 5) u) ∧ (L 7 = true → L 8 = false → NewM W.heap.size #[Value.int .i64 src, .int .i64 dst, .int .i64 kind, .int .i64 seq, .int .i64 a0, .int .i64 a1, .int .i64 a2, .int .i64 a3, .slice Am X cm] (vs 7) u) ∧ (L 8 = true → OwnR W.heap.size rs2 (vs 8) u) ∧ (L 9 = true → QAggM W.heap.size n rs2 (vs 9) u) ∧ (L 9 = true → L 8 = true)) L vs u → (fun L vs u => Only (fun z => W.heap.size ≤ z) W u ∧ (L 2 = true → L 5 = false → Emp 48 W.heap.size (vs 2) u) ∧ (L 5 = true → L 8 = false → OwnR W.heap.size rs (vs 5) u) ∧ (L 7 = true → L 8 = false → NewM W.heap.size #[Value.int .i64 src, .int .i64 dst, .int .i64 kind, .int .i64 seq, .int .i64 a0, .int .i64 a1, .int .i64 a2, .int .i64 a3, .slice Am X cm] (vs 7) u) ∧ (L 8 = true → OwnR W.heap.size rs2 (vs 8) u) ∧ (L 9 = true → QAggM W.heap.size n rs2 (vs 9) u) ∧ (L 9 = true → L 8 = true)) L vs u') := Lib.hid (fun L vs u u' hO hI => by
      obtain ⟨a1, a2, a3, a4, a5, a6, a7⟩ := hI; exact ⟨a1.thenNil hO, fun h h' => Stays.emp (T := Nil) (fun _ h => h.elim) _ _ _ hO (a2 h h'), fun h h' => Stays.ownR _ _ _ hO (a3 h h'), fun h h' => (by obtain ⟨g, q1, q2, q3⟩ := a4 h h'; exact ⟨g, q1, q2, q3.onlyNil hO⟩), fun h => Stays.ownR _ _ _ hO (a5 h), fun h => Stays.qaggM _ _ _ _ _ _ hO (a6 h), a7⟩)
    refine wp_region_any (by kernel_rfl) ?_
    change wpAny _ _ _ _ _ _ _ (World.drew _)
    refine take_first (i := 0) (v := ?v0_5) (some 19) rfl (by rfl) (by kernel_rfl) (by kernel_rfl) (by kernel_rfl) (fun _ _ _ h => h) (Or.inl ⟨by rfl, ?hy0_5⟩) ?rest0_5
    case hy0_5 => (intro w; go_simp <;> with_reducible rfl)
    refine take_first (i := 3) (v := ?v3_5) (some 22) rfl (by rfl) (by kernel_rfl) (by kernel_rfl) (by kernel_rfl) (fun _ _ _ h => h) (Or.inl ⟨by rfl, ?hy3_5⟩) ?rest3_5
    case hy3_5 => (intro w; go_simp <;> with_reducible rfl)
    refine wpAny_inv2 (X := [(1, some 20, []), (2, some 21, []), (4, some 23, []), (5, some 24, [2, 4]), (6, some 25, []), (7, some 26, [6]), (8, some 27, [5, 7]), (9, some 28, [1, 8])]) (n := 8) (g := 2) (m := 10) (l0 := [true, false, false, true, false, false, false, false, false, false, false, false]) (T := fun z => W.heap.size ≤ z) (Ps := [Any, Cst (.int .i64 n), Any, Any, Cst (.slice A N c), Any, Cst (.agg #[Value.int .i64 src, .int .i64 dst, .int .i64 kind, .int .i64 seq, .int .i64 a0, .int .i64 a1, .int .i64 a2, .int .i64 a3, .slice Am X cm]), Any, Any, Any])
      (I := fun L vs u => Only (fun z => W.heap.size ≤ z) W u ∧ (L 2 = true → L 5 = false → Emp 48 W.heap.size (vs 2) u) ∧ (L 5 = true → L 8 = false → OwnR W.heap.size rs (vs 5) u) ∧ (L 7 = true → L 8 = false → NewM W.heap.size #[Value.int .i64 src, .int .i64 dst, .int .i64 kind, .int .i64 seq, .int .i64 a0, .int .i64 a1, .int .i64 a2, .int .i64 a3, .slice Am X cm] (vs 7) u) ∧ (L 8 = true → OwnR W.heap.size rs2 (vs 8) u) ∧ (L 9 = true → QAggM W.heap.size n rs2 (vs 9) u) ∧ (L 9 = true → L 8 = true))
      (by kernel_rfl) rfl (by kernel_rfl) (by kernel_rfl) (by kernel_rfl) rfl ?h0_5 ?st_5 ?i0_5 ?step_5 ?fin_5
    case h0_5 =>
      intro j hj v u
      match j, hj with
      | 0, hj => trivial
      | 1, hj => exact absurd hj (by decide)
      | 2, hj => exact absurd hj (by decide)
      | 3, hj => trivial
      | 4, hj => exact absurd hj (by decide)
      | 5, hj => exact absurd hj (by decide)
      | 6, hj => exact absurd hj (by decide)
      | 7, hj => exact absurd hj (by decide)
      | 8, hj => exact absurd hj (by decide)
      | 9, hj => exact absurd hj (by decide)
      | 10, hj => exact absurd hj (by decide)
      | 11, hj => exact absurd hj (by decide)
      | n + 12, hj => exact absurd hj (by simp)
    case st_5 =>
      intro p hp
      simp only [List.mem_cons, List.not_mem_nil, or_false] at hp
      rcases hp with rfl | rfl | rfl | rfl | rfl | rfl | rfl | rfl | rfl | rfl <;> first | exact Stays.cst _ | exact Stays.any
    case i0_5 =>
      intro vs
      exact ⟨(Only.refl _ _).drew, (fun h => by cases h), (fun h => by cases h), (fun h => by cases h), (fun h => by cases h), (fun h => by cases h), (fun h => by cases h)⟩
    case step_5 =>
      intro x hx L vs u hI hA h0 hd
      simp only [List.mem_cons, List.not_mem_nil, or_false] at hx
      rcases hx with rfl | rfl | rfl | rfl | rfl | rfl | rfl | rfl
      · refine inv_step _ (by rfl) (by rfl) (fun K' hK => ?_)
        simp only [putAll, Act.put, List.setIfInBounds_toArray, List.set_cons_succ, List.set_cons_zero] at hK ⊢
        have ks : ∀ i, u.cell? ⟨gb, i, none⟩ = #[Value.int .i64 n, .slice A N c][i]? := fun i => (HB1.out.only hI.1 (by have := HB1.out.lt; omega)).cell i
        go_simp
        exact hK _ _ ⟨Only.refl _ _, hI, rfl⟩
      · refine inv_step _ (by rfl) (by rfl) (fun K' hK => ?_)
        simp only [putAll, Act.put, List.setIfInBounds_toArray, List.set_cons_succ, List.set_cons_zero] at hK ⊢
        go_simp
        have hI' := HIN.out L vs _ _ ((Only.refl Nil u).alloc (.cells #[] 48)) hI
        exact hK _ _ ⟨(Only.refl _ _).alloc _, ⟨hI'.1, fun _ _ => ⟨_, rfl, hI.1.size, Blk.new _ _ _⟩, hI'.2.2⟩, trivial⟩
      · refine inv_step _ (by rfl) (by rfl) (fun K' hK => ?_)
        simp only [putAll, Act.put, List.setIfInBounds_toArray, List.set_cons_succ, List.set_cons_zero] at hK ⊢
        have ks : ∀ i, u.cell? ⟨gb, i, none⟩ = #[Value.int .i64 n, .slice A N c][i]? := fun i => (HB1.out.only hI.1 (by have := HB1.out.lt; omega)).cell i
        go_simp
        exact hK _ _ ⟨Only.refl _ _, hI, rfl⟩
      · refine inv_step _ (by rfl) (by rfl) (fun K' hK => ?_)
        simp only [putAll, Act.put, List.setIfInBounds_toArray, List.set_cons_succ, List.set_cons_zero] at hK
        have e4 := hA 4 (hd 4 (by simp))
        change vs 4 = (.slice A N c) at e4
        obtain ⟨g0, e2, hg0, hE0⟩ := hI.2.1 (hd 2 (by simp)) h0
        refine step_append_new (by rfl) (.tmp 21) (.tmp 23) _ (by rfl) W.heap.size 48 i0 _ 9 88 Try.underlying45 hi0 hz0 hz1 hz2 rfl (by decide) g0 (by simp [Act.eval, putAll, Act.put, e2]) hE0 hg0 _ _ N _ (rs.flatMap rcl) (by simp [Act.eval, putAll, Act.put, e4] <;> rfl) (HRD.out _ hI.1) (rcl_one _) (by have := HL.out; have := HN.out; unfold maxLen; omega) (by have := HL.out; have := HN.out; omega) hI.1.size ?_
        intro A3 c3 u3 hc3 hown3 hO3 hat3
        have hI' := HIN.out L vs _ _ hO3 hI
        simp only [putAll, Act.put, List.setIfInBounds_toArray, List.set_cons_succ, List.set_cons_zero]
        exact hK _ _ ⟨hO3.any, ⟨hI'.1, (fun _ h => by cases h), fun _ _ => ⟨A3, c3, by rw [HN.out] <;> rfl, by rw [HN.out]; exact hc3, by rw [HN.out]; exact hown3⟩, hI'.2.2.2⟩, trivial⟩
      · refine inv_step _ (by rfl) (by rfl) (fun K' hK => ?_)
        simp only [putAll, Act.put, List.setIfInBounds_toArray, List.set_cons_succ, List.set_cons_zero] at hK ⊢
        have ks : ∀ i, u.cell? ⟨gm, i, none⟩ = #[Value.int .i64 src, .int .i64 dst, .int .i64 kind, .int .i64 seq, .int .i64 a0, .int .i64 a1, .int .i64 a2, .int .i64 a3, .slice Am X cm][i]? := fun i => (HBM.out.only hI.1 (by have := HBM.out.lt; omega)).cell i
        go_simp
        exact hK _ _ ⟨Only.refl _ _, hI, rfl⟩
      · refine inv_step _ (by rfl) (by rfl) (fun K' hK => ?_)
        simp only [putAll, Act.put, List.setIfInBounds_toArray, List.set_cons_succ, List.set_cons_zero] at hK ⊢
        have e6 := hA 6 (hd 6 (by simp))
        change vs 6 = (.agg #[Value.int .i64 src, .int .i64 dst, .int .i64 kind, .int .i64 seq, .int .i64 a0, .int .i64 a1, .int .i64 a2, .int .i64 a3, .slice Am X cm]) at e6
        simp only [e6] at hK
        go_simp
        have hI' := HIN.out L vs _ _ ((Only.refl Nil u).alloc (.cells #[Value.int .i64 src, .int .i64 dst, .int .i64 kind, .int .i64 seq, .int .i64 a0, .int .i64 a1, .int .i64 a2, .int .i64 a3, .slice Am X cm] 48)) hI
        exact hK _ _ ⟨(Only.refl _ _).alloc _, ⟨hI'.1, hI'.2.1, hI'.2.2.1, fun _ _ => ⟨_, rfl, hI.1.size, Blk.new _ _ _⟩, hI'.2.2.2.2⟩, trivial⟩
      · refine inv_step _ (by rfl) (by rfl) (fun K' hK => ?_)
        simp only [putAll, Act.put, List.setIfInBounds_toArray, List.set_cons_succ, List.set_cons_zero] at hK
        obtain ⟨A3, c3, e5, hc3, ho3⟩ := hI.2.2.1 (hd 5 (by simp)) h0
        obtain ⟨g7, e7, hg7, hb7⟩ := hI.2.2.2.1 (hd 7 (by simp)) h0
        rw [HN.out] at e5 hc3 ho3
        refine step_append_rd _ (by rfl) (.tmp 24) (.tmp 26) _ (by rfl) W.heap.size 48 i0 _ 9 88 Try.underlying45 hi0 hz0 hz1 hz2 rfl (by decide) (.slice A3 N c3) N (rs.flatMap rcl) (by simp [Act.eval, putAll, Act.put, e5]) ho3 (g7 + 1) (some ⟨g7, 0, none⟩) 1 1 _ (by simp [Act.eval, putAll, Act.put, e7]) (Rd.blk hb7 rfl) HMO.out rs2.length HYL.out (rs2.flatMap rcl) HYC.out (by have := HL2.out; have := HYL.out; unfold maxLen; omega) (by have := HL2.out; have := HYL.out; omega) hI.1.size ?_
        intro A4 c4 w4 hc4 hown4 hgr4 hat4
        simp only [putAll, Act.put, List.setIfInBounds_toArray, List.set_cons_succ, List.set_cons_zero]
        have hT : Only (fun z => W.heap.size ≤ z) _ w4 := grown_only ho3 hgr4
        exact hK _ _ ⟨hT, ⟨hI.1.trans hT (fun z hz => .inl hz), fun _ h => absurd ((hd 5 (by simp)).symm.trans h) (by decide), (fun _ h => by cases h), (fun _ h => by cases h), fun _ => ⟨A4, c4, rfl, hc4, hown4⟩, fun h => absurd ((hI.2.2.2.2.2.2 h).symm.trans h0) (by decide), fun _ => rfl⟩, trivial⟩
      · refine inv_step _ (by rfl) (by rfl) (fun K' hK => ?_)
        simp only [putAll, Act.put, List.setIfInBounds_toArray, List.set_cons_succ, List.set_cons_zero] at hK ⊢
        have e1 := hA 1 (hd 1 (by simp))
        change vs 1 = (.int .i64 n) at e1
        simp only [e1] at hK
        obtain ⟨A4, c4, e8, hc4, ho4⟩ := hI.2.2.2.2.1 (hd 8 (by simp))
        simp only [e8] at hK
        go_simp
        exact hK _ _ ⟨Only.refl _ _, ⟨hI.1, hI.2.1, hI.2.2.1, hI.2.2.2.1, hI.2.2.2.2.1, fun _ => ⟨A4, c4, rfl, hc4, ho4⟩, fun _ => hd 8 (by simp)⟩, trivial⟩
    case fin_5 =>
      intro L vs u hI hL hA
      simp only [putAll, Act.put, List.setIfInBounds_toArray, List.set_cons_succ, List.set_cons_zero, List.drop_succ_cons, List.drop_zero]
      obtain ⟨A3, c3, e9, hc3, ho3⟩ := hI.2.2.2.2.2.1 (hL 9 (by omega))
      simp only [e9]
      have kr : ∀ i, u.cell? ⟨gr, i, none⟩ = #[Value.int .i64 0, .slice none 0 0][i]? := fun i => (HB2.out.only hI.1 (by have := HB2.out.lt; omega)).cell i
      have fr : ∀ i, u.frozen? ⟨gr, i, none⟩ = false := fun i => (HB2.out.only hI.1 (by have := HB2.out.lt; omega)).frozen i
      have HI := Lib.hid hI.1
      have HC3 := Lib.hid hc3
      have HW3 := Lib.hid ho3
      clear hA hL hI hc3 ho3 e9 k1 k2 f2 km
      go_wp2_with fail
      refine bodyPost_ret (v := .tuple #[.agg #[.int .i64 n, .slice A3 rs2.length c3], .int .i64 0]) (by simp [results, Try.results43, go_sem, kr]) rfl ?_
      refine HF1.out u _ A3 c3 HI.out HC3.out HW3.out ?_
      (repeat' (first | with_reducible exact Only.refl _ _ | with_reducible refine Only.setCell ?_ (Or.inl ?_) _ | with_reducible refine Only.drewN ?_ _ | with_reducible refine Only.drew ?_ | with_reducible refine Only.alloc ?_ _ | (exact rfl)))

end Go.Proofs.Ytljfblnpgeconaa
