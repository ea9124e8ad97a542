/-
  Take of the reference's queue of messages.
  Conditions: the queue's messages can be read.
-/
import Derived.Test.YtljfblnpgeconaaRiQ1
import Derived.Test.YtljfblnpgeconaaInv
namespace Go.Proofs.Ytljfblnpgeconaa
open Go.RowKit

/-- A slice of the call's own with these rows. -/
def OwnR (base : Nat) (rs : List (Option Addr × Nat × M)) : VPred := fun v w => ∃ A c, v = .slice A rs.length c ∧ rs.length ≤ c ∧ w.ownsRow base 48 9 (.slice A rs.length c) rs.length (rs.flatMap rcl)
theorem Stays.ownR {base : Nat} {rs : List (Option Addr × Nat × M)} : Stays Nil (OwnR base rs) := fun _ _ _ hO h => by
  obtain ⟨A, c, h1, h2, h3⟩ := h
  exact ⟨A, c, h1, h2, own_onlyNil h3 hO⟩
/-- The queue with such rows. -/
def QAggM (base n : Nat) (rs : List (Option Addr × Nat × M)) : VPred := fun v w => ∃ A c, v = .agg #[.int .i64 n, .slice A rs.length c] ∧ rs.length ≤ c ∧ w.ownsRow base 48 9 (.slice A rs.length c) rs.length (rs.flatMap rcl)
theorem Stays.qaggM (base n : Nat) (rs : List (Option Addr × Nat × M)) : Stays Nil (QAggM base n rs) := fun _ _ _ hO h => by
  obtain ⟨A, c, h1, h2, h3⟩ := h
  exact ⟨A, c, h1, h2, own_onlyNil h3 hO⟩
theorem rcl_one (rs : List (Option Addr × Nat × M)) : ∀ u ∈ rs.flatMap rcl, u.oneCell' = true := flat_one (cells := rcl) (fun r => mcells_one r.1 r.2.1 r.2.2) rs
theorem cap_of_own9 {w : World} {base n c : Nat} {e : TypeId} {A : Option Addr} {xs : List Value} (h : w.ownsRow base e 9 (.slice A n c) n xs) : c ≤ maxLen := by
  rcases h.2 with ⟨hv, _⟩ | ⟨g, cap, cur, hv, _, _, _, hm, _⟩
  · injection hv with _ _ h3; subst h3; unfold maxLen; omega
  · injection hv with _ _ h3; subst h3; exact hm
/-- A row of the call's own, outside F, where the messages are. -/
theorem ML.of_own {w w' : World} {F : Nat → Prop} {base : Nat} {A : Option Addr} {c : Nat} {rs : List (Option Addr × Nat × M)} (h : w'.ownsRow base 48 9 (.slice A rs.length c) rs.length (rs.flatMap rcl)) (hc : rs.length ≤ c)
    (hF : ∀ x, F x → x < base) (hO : Only Nil w w') (hd : ∀ r ∈ rs, r.2.2.data.length ≤ r.2.1 ∧ r.2.1 ≤ maxLen ∧ r.2.2.fits ∧ Bs w w.heap.size r.1 r.2.2.data ∧ (0 < r.2.2.data.length → Av F r.1)) : ML w' F A c rs :=
  ⟨hc, cap_of_own9 h, Rd.of_own h, fun hn a ha hx => by
    have hq := ownBlock_ge h (q := a.block) (by rw [ha]; rfl)
    have := hF _ hx
    omega, fun r hr => by
    obtain ⟨h1, h2, h3, h4, h5⟩ := hd r hr
    exact ⟨h1, h2, h3, (h4.onlyNil hO (Nat.le_refl _)).up hO.size, h5⟩⟩

def RTakePost (n : Nat) (F : Nat → Prop) (rs : List (Option Addr × Nat × M)) (w : World) (e : Ending) (w' : World) : Prop :=
  ∃ A c, e = .returned (.agg #[.int .i64 n, .slice A rs.length c]) ∧ ML w' F A c rs ∧ Only Nil w w'

set_option maxRecDepth 100000 in
set_option maxHeartbeats 4000000 in
theorem Ref.qtake_any (n : Nat) (F : Nat → Prop) (A : Option Addr) (c : Nat) (rs : List (Option Addr × Nat × M)) (w : World) (h : ML w F A c rs) (hF : ∀ x, F x → x < w.heap.size) (hl : rs.length ≤ 200) :
    Calls Try.prog 44 #[.agg #[.int .i64 n, .slice A rs.length c]] w (RTakePost n F rs.tail w) := by
  obtain ⟨i0, hi0, hz0, hz1, hz2⟩ := info_parts msg_info
  obtain ⟨N, hN⟩ : ∃ N, rs.length = N := ⟨_, rfl⟩
  obtain ⟨gb, hgb⟩ : ∃ gb, gb = w.heap.size := ⟨_, rfl⟩
  obtain ⟨gr, hgr⟩ : ∃ gr, gr = w.heap.size + 1 := ⟨_, rfl⟩
  obtain ⟨W, hW⟩ : ∃ W, W = (w.alloc (.cells #[.int .i64 n, .slice A N c] 73)).alloc (.cells #[.int .i64 0, .slice none 0 0] 73) := ⟨_, rfl⟩
  have hO : Only Nil w W := by rw [hW]; exact ((Only.refl _ _).alloc _).alloc _
  have hb1 : Blk W gb 73 #[.int .i64 n, .slice A N c] := by rw [hW, hgb]; exact (Blk.new _ _ _).alloc _
  have hb2 : Blk W gr 73 #[.int .i64 0, .slice none 0 0] := by
    rw [hW, hgr]
    have := Blk.new (w.alloc (.cells #[.int .i64 n, .slice A N c] 73)) 73 #[.int .i64 0, .slice none 0 0]
    rw [World.size_alloc] at this
    exact this
  have hM := h.onlyNil hO
  have k1 : ∀ i, W.cell? ⟨gb, i, none⟩ = #[Value.int .i64 n, .slice A N c][i]? := fun i => hb1.cell i
  have k2 : ∀ i, W.cell? ⟨gr, i, none⟩ = #[Value.int .i64 0, .slice none 0 0][i]? := fun i => hb2.cell i
  have f2 : ∀ i, W.frozen? ⟨gr, i, none⟩ = false := fun i => hb2.frozen i
  have hne : gb ≠ gr := by omega
  have HW := Lib.hid hW
  have HGB := Lib.hid hgb
  have HGR := Lib.hid hgr
  have HO := Lib.hid hO
  have HB1 := Lib.hid hb1
  have HB2 := Lib.hid hb2
  have HM := Lib.hid hM
  have HF := Lib.hid hF
  have HD := Lib.hid h.data
  have HN := Lib.hid hN
  rw [hN]
  clear h hW hO hb1 hb2 hM hF hgb hgr
  rcases rs with _ | ⟨r, rs⟩
  · have h0 : N = 0 := by rw [← hN]; rfl
    subst h0
    have hfin : ∀ u, Only (One gr) W u → RTakePost n F [] w (.returned (.agg #[.int .i64 n, .slice A 0 c])) u := fun u hu => by
      have hMu : ML u F A c [] := ⟨HM.out.cap, HM.out.most, Rd.nil, fun h => absurd h (by simp), fun r hr => by cases hr⟩
      exact ⟨A, c, rfl, hMu, HO.out.trans hu (fun x hx => .inr (by unfold One at hx; rw [hx, HGR.out]; omega))⟩
    have HFN := Lib.hid hfin
    clear hfin hN
    go_enter Try.func44, Try.ntmps44
    go_upto_region 1 with fail
    rw [← HW.out, ← HGR.out, ← HGB.out]
    go_wp2_with fail
    refine bodyPost_ret (v := .agg #[.int .i64 n, .slice A 0 c]) (by simp [results, Try.results44, go_sem, k2]) rfl ?_
    refine HFN.out _ ?_
    (repeat' (first | with_reducible exact Only.refl _ _ | with_reducible refine Only.setCell ?_ (Or.inl ?_) _ | with_reducible refine Only.drewN ?_ _ | with_reducible refine Only.drew ?_ | with_reducible refine Only.alloc ?_ _ | (exact rfl)))
  · obtain ⟨b, off, rfl, hbw, hc⟩ := HM.out.at_ (k := 0) rfl
    have hcap := HM.out.cap
    rw [List.length_cons] at hN hl hcap
    have hl0 : ((N : Int) == 0) = false := beq_false_of_ne (by omega)
    obtain ⟨Ax, hAx⟩ : ∃ Ax, (if c = 1 then (⟨b, off, none⟩ : Addr) else ⟨b, off + 9, none⟩) = Ax := ⟨_, rfl⟩
    have hif : (if c = 1 then some (⟨b, off, none⟩ : Addr) else some ⟨b, off + 9, none⟩) = some Ax := by rw [← hAx]; split <;> rfl
    have hrd : Rd W W.heap.size 9 (some Ax) rs.length (rs.flatMap rcl) := by
      have h1 := HM.out.rd.cut (k := 1) (cap := c) (by simp) HM.out.cap
      have h2 : (if c = 1 then some (⟨b, off, none⟩ : Addr) else Option.map (fun x : Addr => x.add (1 * 9)) (some (⟨b, off, none⟩ : Addr))) = some Ax := by rw [← hAx]; split <;> rfl
      rw [h2, flat_drop rcl_len] at h1
      exact h1
    obtain ⟨K, hK⟩ : ∃ K, rs.length = K := ⟨_, rfl⟩
    have hNK : N - 1 = K := by omega
    have hnk : ((N : Int) - 1).toNat = K := by omega
    have hn1 : (1 : Int) ≤ (N : Int) := by omega
    have hc1 : (1 : Int) ≤ (c : Int) := by omega
    have hcN : (N : Int) ≤ (c : Int) := by omega
    have hfin : ∀ u v A3 c3, Only Nil W u → rs.length ≤ c3 → u.ownsRow W.heap.size 48 9 (.slice A3 rs.length c3) rs.length (rs.flatMap rcl) → Only (One gr) u v → RTakePost n F rs w (.returned (.agg #[.int .i64 n, .slice A3 rs.length c3])) v := fun u v A3 c3 h1 h2 h3 h4 => by
      have h5 := own_only h3 h4 (fun q hq hx => by have := ownBlock_ge h3 hq; have := HB2.out.lt; unfold One at hx; omega)
      have h6 : Only Nil w v := (HO.out.thenNil h1).trans h4 (fun x hx => .inr (by unfold One at hx; rw [hx, HGR.out]; omega))
      exact ⟨A3, c3, rfl, ML.of_own h5 h2 (fun x hx => Nat.lt_of_lt_of_le (HF.out x hx) HO.out.size) h6 (fun r' hr' => HD.out r' (List.mem_cons_of_mem _ hr')), h6⟩
    rw [hK] at hfin hrd
    have HFN := Lib.hid hfin
    have HRD := Lib.hid hrd
    have HK := Lib.hid hK
    have HKL := Lib.hid (show K ≤ 200 by omega)
    clear hc hAx hrd hfin hK hcap
    go_enter Try.func44, Try.ntmps44
    go_upto_region 1 with fail
    rw [← HW.out, ← HGR.out, ← HGB.out]
    go_wp2_with fail
    have HIN : Hid (∀ (L : Nat → Bool) (vs : Nat → Value) (u u' : World), Only Nil u u' → (fun _ _ u => Only Nil W u) L vs u → (fun _ _ u => Only Nil W u) L vs u') := Lib.hid (fun L vs u u' hO hI => by
      exact hI.thenNil hO)
    refine wp_region_any (by kernel_rfl) ?_
    change wpAny _ _ _ _ _ _ _ (World.drew _)
    refine take_first (i := 0) (v := ?v0_4) (some 8) rfl (by rfl) (by kernel_rfl) (by kernel_rfl) (by kernel_rfl) (fun _ _ _ h => h) (Or.inl ⟨by rfl, ?hy0_4⟩) ?rest0_4
    case hy0_4 => (intro w; go_simp <;> with_reducible rfl)
    refine take_first (i := 3) (v := ?v3_4) (some 11) rfl (by rfl) (by kernel_rfl) (by kernel_rfl) (by kernel_rfl) (fun _ _ _ h => h) (Or.inl ⟨by rfl, ?hy3_4⟩) ?rest3_4
    case hy3_4 => (intro w; go_simp <;> with_reducible rfl)
    refine wpAny_inv2 (X := [(1, some 9, []), (2, some 10, []), (4, some 12, []), (5, some 13, [4]), (6, some 14, [2, 5]), (7, some 15, [1, 6])]) (n := 6) (g := 1) (m := 8) (l0 := [true, false, false, true, false, false, false, false, false]) (T := Nil) (Ps := [Any, Cst (.int .i64 n), Emp 48 W.heap.size, Any, Cst (.slice (some ⟨b, off, none⟩) N c), Cst (.slice (some Ax) K (c - 1)), OwnR W.heap.size rs, QAggM W.heap.size n rs])
      (I := fun _ _ u => Only Nil W u)
      (by kernel_rfl) rfl (by kernel_rfl) (by kernel_rfl) (by kernel_rfl) rfl ?h0_4 ?st_4 ?i0_4 ?step_4 ?fin_4
    case h0_4 =>
      intro j hj v u
      match j, hj with
      | 0, hj => trivial
      | 1, hj => exact absurd hj (by decide)
      | 2, hj => exact absurd hj (by decide)
      | 3, hj => trivial
      | 4, hj => exact absurd hj (by decide)
      | 5, hj => exact absurd hj (by decide)
      | 6, hj => exact absurd hj (by decide)
      | 7, hj => exact absurd hj (by decide)
      | 8, hj => exact absurd hj (by decide)
      | n + 9, hj => exact absurd hj (by simp)
    case st_4 =>
      have hT : ∀ x, (Nil) x → x < W.heap.size := fun x h => h.elim
      intro p hp
      simp only [List.mem_cons, List.not_mem_nil, or_false] at hp
      rcases hp with rfl | rfl | rfl | rfl | rfl | rfl | rfl | rfl <;> first | exact Stays.cst _ | exact Stays.own hT | exact Stays.emp hT | exact Stays.any | exact Stays.ownR | exact Stays.qaggM _ _ _
    case i0_4 =>
      intro vs
      exact (Only.refl _ _).drew
    case step_4 =>
      intro x hx L vs u hI hA h0 hd
      simp only [List.mem_cons, List.not_mem_nil, or_false] at hx
      rcases hx with rfl | rfl | rfl | rfl | rfl | rfl
      · refine inv_step _ (by rfl) (by rfl) (fun K' hK => ?_)
        simp only [putAll, Act.put, List.setIfInBounds_toArray, List.set_cons_succ, List.set_cons_zero] at hK ⊢
        have ks : ∀ i, u.cell? ⟨gb, i, none⟩ = #[Value.int .i64 n, .slice (some ⟨b, off, none⟩) N c][i]? := fun i => (HB1.out.onlyNil hI).cell i
        go_simp
        exact hK _ _ ⟨Only.refl _ _, hI, rfl⟩
      · refine inv_step _ (by rfl) (by rfl) (fun K' hK => ?_)
        simp only [putAll, Act.put, List.setIfInBounds_toArray, List.set_cons_succ, List.set_cons_zero] at hK ⊢
        go_simp
        exact hK _ _ ⟨(Only.refl _ _).alloc _, HIN.out L vs _ _ ((Only.refl _ _).alloc _) hI, ⟨_, rfl, hI.size, Blk.new _ _ _⟩⟩
      · refine inv_step _ (by rfl) (by rfl) (fun K' hK => ?_)
        simp only [putAll, Act.put, List.setIfInBounds_toArray, List.set_cons_succ, List.set_cons_zero] at hK ⊢
        have ks : ∀ i, u.cell? ⟨gb, i, none⟩ = #[Value.int .i64 n, .slice (some ⟨b, off, none⟩) N c][i]? := fun i => (HB1.out.onlyNil hI).cell i
        go_simp
        exact hK _ _ ⟨Only.refl _ _, hI, rfl⟩
      · refine inv_step _ (by rfl) (by rfl) (fun K' hK => ?_)
        simp only [putAll, Act.put, List.setIfInBounds_toArray, List.set_cons_succ, List.set_cons_zero] at hK ⊢
        have e4 := hA 4 (hd 4 (by simp))
        change vs 4 = (.slice (some ⟨b, off, none⟩) N c) at e4
        simp only [e4] at hK
        go_simp
        exact hK _ _ ⟨Only.refl _ _, hI, rfl⟩
      · refine inv_step _ (by rfl) (by rfl) (fun K' hK => ?_)
        simp only [putAll, Act.put, List.setIfInBounds_toArray, List.set_cons_succ, List.set_cons_zero] at hK
        have e5 := hA 5 (hd 5 (by simp))
        change vs 5 = (.slice (some Ax) K (c - 1)) at e5
        obtain ⟨g0, e2, hg0, hE0⟩ := hA 2 (hd 2 (by simp))
        refine step_append_new (by rfl) (.tmp 10) (.tmp 13) _ (by rfl) W.heap.size 48 i0 _ 9 88 Try.underlying45 hi0 hz0 hz1 hz2 rfl (by decide) g0 (by simp [Act.eval, putAll, Act.put, e2]) hE0 hg0 _ _ K _ (rs.flatMap rcl) (by simp [Act.eval, putAll, Act.put, e5] <;> rfl) (Rd.onlyNil HRD.out hI (Nat.le_refl _)) (rcl_one _) (by have := HKL.out; unfold maxLen; omega) (by have := HKL.out; omega) hI.size ?_
        intro A3 c3 u3 hc3 hown3 hO3 hat3
        simp only [putAll, Act.put, List.setIfInBounds_toArray, List.set_cons_succ, List.set_cons_zero]
        exact hK _ _ ⟨hO3, HIN.out L vs _ _ hO3 hI, ⟨A3, c3, by rw [HK.out], by rw [HK.out]; exact hc3, by rw [HK.out]; exact hown3⟩⟩
      · refine inv_step _ (by rfl) (by rfl) (fun K' hK => ?_)
        simp only [putAll, Act.put, List.setIfInBounds_toArray, List.set_cons_succ, List.set_cons_zero] at hK ⊢
        have e1 := hA 1 (hd 1 (by simp))
        change vs 1 = (.int .i64 n) at e1
        simp only [e1] at hK
        obtain ⟨A3, c3, e6, hc3, ho3⟩ := hA 6 (hd 6 (by simp))
        simp only [e6] at hK
        go_simp
        exact hK _ _ ⟨Only.refl _ _, hI, ⟨A3, c3, rfl, hc3, ho3⟩⟩
    case fin_4 =>
      intro L vs u hI hL hA
      simp only [putAll, Act.put, List.setIfInBounds_toArray, List.set_cons_succ, List.set_cons_zero, List.drop_succ_cons, List.drop_zero]
      obtain ⟨A3, c3, e7, hc3, ho3⟩ := hA 7 (by omega)
      rw [HK.out] at e7 hc3 ho3
      simp only [e7]
      have kr : ∀ i, u.cell? ⟨gr, i, none⟩ = #[Value.int .i64 0, .slice none 0 0][i]? := fun i => (HB2.out.onlyNil hI).cell i
      have fr : ∀ i, u.frozen? ⟨gr, i, none⟩ = false := fun i => (HB2.out.onlyNil hI).frozen i
      have HI := Lib.hid hI
      have HC3 := Lib.hid hc3
      have HW3 := Lib.hid ho3
      clear hA hL hI hc3 ho3 e7 k1 k2 f2
      go_wp2_with fail
      refine bodyPost_ret (v := .agg #[.int .i64 n, .slice A3 K c3]) (by simp [results, Try.results44, go_sem, kr]) rfl ?_
      refine HFN.out u _ A3 c3 HI.out HC3.out HW3.out ?_
      (repeat' (first | with_reducible exact Only.refl _ _ | with_reducible refine Only.setCell ?_ (Or.inl ?_) _ | with_reducible refine Only.drewN ?_ _ | with_reducible refine Only.drew ?_ | with_reducible refine Only.alloc ?_ _ | (exact rfl)))

end Go.Proofs.Ytljfblnpgeconaa
