/-
  Put of the reference's queue of bytes.
  Conditions: the queue's bytes and what is put can be read.
-/
import Derived.Test.YtljfblnpgeconaaRiG5
namespace Go.Proofs.Ytljfblnpgeconaa
open Go.RowKit

def BPutPost (n : Nat) (b x : List UInt8) (k : Nat) (w : World) (e : Ending) (w' : World) : Prop :=
  ∃ A c, e = .returned (.tuple #[.agg #[.int .i64 n, .slice A (b ++ x.take k).length c], .int .i64 k]) ∧ (b ++ x.take k).length ≤ c ∧ w'.ownsRow w.heap.size 5 1 (.slice A (b ++ x.take k).length c) (b ++ x.take k).length (bcells (b ++ x.take k)) ∧ Only Nil w w'

set_option maxRecDepth 100000 in
set_option maxHeartbeats 4000000 in
theorem Ref.bput_any (n : Nat) (B : Option Addr) (cb : Nat) (b : List UInt8) (A : Option Addr) (cx : Nat) (x : List UInt8) (w : World) (h : Bs w w.heap.size B b) (hx : Bs w w.heap.size A x) (hcx : x.length ≤ cx) (hbn : b.length ≤ n) (hn : n ≤ 4096) (hxl : x.length ≤ 1099511627776) :
    Calls Try.prog 34 #[.agg #[.int .i64 n, .slice B b.length cb], .slice A x.length cx] w (BPutPost n b x (min x.length (n - b.length)) w) := by
  obtain ⟨i0, hi0, hz0, hz1, hz2⟩ := info_parts byte_info
  obtain ⟨K, hK⟩ : ∃ K, min x.length (n - b.length) = K := ⟨_, rfl⟩
  have hKx : K ≤ x.length := by omega
  have hlt : (x.take K).length = K := by rw [List.length_take]; omega
  obtain ⟨W0, hW0⟩ : ∃ W, w.alloc (.cells #[.int .i64 n, .slice B b.length cb] 61) = W := ⟨_, rfl⟩
  obtain ⟨W, hW⟩ : ∃ V, W0.alloc (.cells #[.int .i64 0, .slice none 0 0] 61) = V := ⟨_, rfl⟩
  have hO0 : Only Nil w W0 := by rw [← hW0]; exact (Only.refl _ _).alloc _
  have hO : Only Nil w W := by rw [← hW]; exact hO0.alloc _
  have hs0 : W0.heap.size = w.heap.size + 1 := by rw [← hW0, World.size_alloc]
  have hsW : W.heap.size = w.heap.size + 2 := by rw [← hW, World.size_alloc, hs0]
  have hb0 : Blk W w.heap.size 61 #[.int .i64 n, .slice B b.length cb] := by rw [← hW, ← hW0]; exact (Blk.new _ _ _).alloc _
  have hb1 : Blk W (w.heap.size + 1) 61 #[.int .i64 0, .slice none 0 0] := by rw [← hW, ← hs0]; exact Blk.new _ _ _
  have hB := (h.onlyNil hO (Nat.le_refl _)).up hO.size
  have hX := ((hx.take K hKx).onlyNil hO (Nat.le_refl _)).up hO.size
  obtain ⟨N, hN⟩ : ∃ N, b.length = N := ⟨_, rfl⟩
  obtain ⟨X, hXX⟩ : ∃ X, x.length = X := ⟨_, rfl⟩
  obtain ⟨xk, hxk⟩ : ∃ xk, x.take K = xk := ⟨_, rfl⟩
  obtain ⟨y, hy⟩ : ∃ y, b ++ xk = y := ⟨_, rfl⟩
  have hyl : N + K = y.length := by rw [← hy, List.length_append, hN, ← hxk, hlt]
  have hyc : bcells b ++ bcells xk = bcells y := by rw [← hy, bcells_append]
  have hfinal : ∀ w' A c, y.length ≤ c → w'.ownsRow w.heap.size 5 1 (.slice A y.length c) y.length (bcells y) → Only Nil w w' → BPutPost n b x K w (.returned (.tuple #[.agg #[.int .i64 n, .slice A y.length c], .int .i64 K])) w' := fun w' A c h1 h2 h3 => by
    unfold BPutPost
    rw [hxk, hy]
    exact ⟨A, c, rfl, h1, h2, h3⟩
  rw [hxk] at hX hlt
  have hXk : ∀ u, Only (fun z => W.heap.size ≤ z) W u → Rd u W.heap.size 1 A K (bcells xk) := fun u hu => by
    have h1 : Bs u W.heap.size A xk := hX.sep hu (Nat.le_refl _) fun hn a ea hz => by
      obtain ⟨g, off, e, hg, _⟩ := hX.2 hn
      rw [ea] at e
      injection e with e
      subst e
      dsimp only at hz
      omega
    unfold Bs at h1
    rwa [hlt] at h1
  rw [hXX, hN] at hK
  rw [hXX] at hKx hcx hxl ⊢
  rw [hN] at hW0 hb0 hbn ⊢
  rw [hK]
  have kb : ∀ i, W.cell? ⟨w.heap.size, i, none⟩ = #[.int .i64 n, .slice B N cb][i]? := fun i => hb0.cell i
  have hw1 : IntKind.i64.wrap ((n : Int) - (N : Int)) = (n : Int) - N := IntWalk.i64_in _ (by omega)
  have hw2 : min (X : Int) ((n : Int) - (N : Int)) = (K : Int) := by omega
  have hRB : ∀ u, Only (fun z => W.heap.size ≤ z) W u → Rd u W.heap.size 1 B b.length (bcells b) := fun u hu => hB.sep hu (Nat.le_refl _) fun hn a ea hz => by
    obtain ⟨g, off, e, hg, _⟩ := hB.2 hn
    rw [ea] at e
    injection e with e
    subst e
    dsimp only at hz
    omega
  have HRB := Lib.hid hRB
  clear hRB
  have HXK := Lib.hid hXk
  have HF := Lib.hid hfinal
  have HB := Lib.hid hB
  have HO := Lib.hid hO
  have HB0 := Lib.hid hb0
  have HB1 := Lib.hid hb1
  have HSW := Lib.hid hsW
  have HYL := Lib.hid hyl
  have HYC := Lib.hid hyc
  have HNB := Lib.hid hN
  have HM := Lib.hid (show y.length ≤ 8192 by omega)
  have HNL := Lib.hid (show b.length ≤ 4096 by omega)
  have q0 : (0 : Int) ≤ (K : Int) := by omega
  have q1 : (K : Int) ≤ (X : Int) := by omega
  have q2 : (K : Int) ≤ (cx : Int) := by omega
  clear hlt hfinal hXk hX hB hO hb0 hb1 h hx hN hXX hxk hy hyl hyc hK hKx hcx hxl hbn hn hO0
  go_enter Try.func34, Try.ntmps34
  go_wp2_with fail
  clear hW hW0 hs0 hsW hw1 hw2 kb
  have HIN : Hid (∀ (L : Nat → Bool) (vs : Nat → Value) (u u' : World), Only Nil u u' → (fun L vs u => Only (fun z => W.heap.size ≤ z) W u ∧ (L 2 = true → L 5 = false → Emp 5 W.heap.size (vs 2) u) ∧ (L 5 = true → L 9 = false → OwnB 5 W.heap.size b (vs 5) u) ∧ (L 9 = true → OwnB 5 W.heap.size y (vs 9) u) ∧ (L 10 = true → QAgg W.heap.size n y (vs 10) u) ∧ (L 10 = true → L 9 = true)) L vs u → (fun L vs u => Only (fun z => W.heap.size ≤ z) W u ∧ (L 2 = true → L 5 = false → Emp 5 W.heap.size (vs 2) u) ∧ (L 5 = true → L 9 = false → OwnB 5 W.heap.size b (vs 5) u) ∧ (L 9 = true → OwnB 5 W.heap.size y (vs 9) u) ∧ (L 10 = true → QAgg W.heap.size n y (vs 10) u) ∧ (L 10 = true → L 9 = true)) L vs u') := Lib.hid (fun L vs u u' hO hI => by
    obtain ⟨a1, a2, a3, a4, a5, a6⟩ := hI; exact ⟨a1.thenNil hO, fun h h' => Stays.emp (T := Nil) (fun _ h => h.elim) _ _ _ hO (a2 h h'), fun h h' => Stays.ownNil _ _ _ hO (a3 h h'), fun h => Stays.ownNil _ _ _ hO (a4 h), fun h => Stays.qagg _ _ _ _ _ _ hO (a5 h), a6⟩)
  refine wp_region_any (by kernel_rfl) ?_
  change wpAny _ _ _ _ _ _ _ (World.drew _)
  refine take_first (i := 0) (v := ?v0_3) (some 16) rfl (by rfl) (by kernel_rfl) (by kernel_rfl) (by kernel_rfl) (fun _ _ _ h => h) (Or.inl ⟨by rfl, ?hy0_3⟩) ?rest0_3
  case hy0_3 => (intro w; go_simp <;> with_reducible rfl)
  refine take_first (i := 3) (v := ?v3_3) (some 19) rfl (by rfl) (by kernel_rfl) (by kernel_rfl) (by kernel_rfl) (fun _ _ _ h => h) (Or.inl ⟨by rfl, ?hy3_3⟩) ?rest3_3
  case hy3_3 => (intro w; go_simp <;> with_reducible rfl)
  refine take_first (i := 6) (v := ?v6_3) (some 22) rfl (by rfl) (by kernel_rfl) (by kernel_rfl) (by kernel_rfl) (fun _ _ _ h => h) (Or.inl ⟨by rfl, ?hy6_3⟩) ?rest6_3
  case hy6_3 => (intro w; go_simp <;> with_reducible rfl)
  refine take_first (i := 7) (v := ?v7_3) (some 23) rfl (by rfl) (by kernel_rfl) (by kernel_rfl) (by kernel_rfl) (fun _ _ _ h => h) (Or.inl ⟨by rfl, ?hy7_3⟩) ?rest7_3
  case hy7_3 => (intro w; go_simp <;> with_reducible rfl)
  refine take_first (i := 8) (v := ?v8_3) (some 24) rfl (by rfl) (by kernel_rfl) (by kernel_rfl) (by kernel_rfl) (fun _ _ _ h => h) (Or.inl ⟨by rfl, ?hy8_3⟩) ?rest8_3
  case hy8_3 => (intro w; go_simp <;> with_reducible rfl)
  refine take_first (i := 11) (v := ?v11_3) (some 27) rfl (by rfl) (by kernel_rfl) (by kernel_rfl) (by kernel_rfl) (fun _ _ _ h => h) (Or.inl ⟨by rfl, ?hy11_3⟩) ?rest11_3
  case hy11_3 => (intro w; go_simp <;> with_reducible rfl)
  refine wpAny_inv2 (X := [(1, some 17, []), (2, some 18, []), (4, some 20, []), (5, some 21, [2, 4]), (9, some 25, [5]), (10, some 26, [1, 9])]) (n := 6) (g := 2) (m := 12) (l0 := [true, false, false, true, false, false, true, true, true, false, false, true, false, false]) (T := fun z => W.heap.size ≤ z) (Ps := [Any, Cst (.int .i64 n), Any, Any, Cst (.slice B N cb), Any, Any, Any, Any, Any, Any, Any])
    (I := fun L vs u => Only (fun z => W.heap.size ≤ z) W u ∧ (L 2 = true → L 5 = false → Emp 5 W.heap.size (vs 2) u) ∧ (L 5 = true → L 9 = false → OwnB 5 W.heap.size b (vs 5) u) ∧ (L 9 = true → OwnB 5 W.heap.size y (vs 9) u) ∧ (L 10 = true → QAgg W.heap.size n y (vs 10) u) ∧ (L 10 = true → L 9 = true))
    (by kernel_rfl) rfl (by kernel_rfl) (by kernel_rfl) (by kernel_rfl) rfl ?h0_3 ?st_3 ?i0_3 ?step_3 ?fin_3
  case h0_3 =>
    intro j hj v u
    match j, hj with
    | 0, hj => trivial
    | 1, hj => exact absurd hj (by decide)
    | 2, hj => exact absurd hj (by decide)
    | 3, hj => trivial
    | 4, hj => exact absurd hj (by decide)
    | 5, hj => exact absurd hj (by decide)
    | 6, hj => trivial
    | 7, hj => trivial
    | 8, hj => trivial
    | 9, hj => exact absurd hj (by decide)
    | 10, hj => exact absurd hj (by decide)
    | 11, hj => trivial
    | 12, hj => exact absurd hj (by decide)
    | 13, hj => exact absurd hj (by decide)
    | n + 14, hj => exact absurd hj (by simp)
  case st_3 =>
    intro p hp
    simp only [List.mem_cons, List.not_mem_nil, or_false] at hp
    rcases hp with rfl | rfl | rfl | rfl | rfl | rfl | rfl | rfl | rfl | rfl | rfl | rfl <;> first | exact Stays.cst _ | exact Stays.any
  case i0_3 =>
    intro vs
    exact ⟨(Only.refl _ _).drew, (fun h => by cases h), (fun h => by cases h), (fun h => by cases h), (fun h => by cases h), (fun h => by cases h)⟩
  case step_3 =>
    intro x hx L vs u hI hA h0 hd
    simp only [List.mem_cons, List.not_mem_nil, or_false] at hx
    rcases hx with rfl | rfl | rfl | rfl | rfl | rfl
    · refine inv_step _ (by rfl) (by rfl) (fun K' hK => ?_)
      simp only [putAll, Act.put, List.setIfInBounds_toArray, List.set_cons_succ, List.set_cons_zero] at hK ⊢
      have ks := fun i => (HB0.out.only hI.1 (by have := HSW.out; omega)).cell i
      go_simp
      exact hK _ _ ⟨Only.refl _ _, hI, rfl⟩
    · refine inv_step _ (by rfl) (by rfl) (fun K' hK => ?_)
      simp only [putAll, Act.put, List.setIfInBounds_toArray, List.set_cons_succ, List.set_cons_zero] at hK ⊢
      go_simp
      have hI' := HIN.out L vs _ _ ((Only.refl Nil u).alloc (.cells #[] 5)) hI
      exact hK _ _ ⟨(Only.refl _ _).alloc _, ⟨hI'.1, fun _ _ => ⟨_, rfl, hI.1.size, Blk.new _ _ _⟩, hI'.2.2⟩, trivial⟩
    · refine inv_step _ (by rfl) (by rfl) (fun K' hK => ?_)
      simp only [putAll, Act.put, List.setIfInBounds_toArray, List.set_cons_succ, List.set_cons_zero] at hK ⊢
      have ks := fun i => (HB0.out.only hI.1 (by have := HSW.out; omega)).cell i
      go_simp
      exact hK _ _ ⟨Only.refl _ _, hI, rfl⟩
    · refine inv_step _ (by rfl) (by rfl) (fun K' hK => ?_)
      simp only [putAll, Act.put, List.setIfInBounds_toArray, List.set_cons_succ, List.set_cons_zero] at hK
      have e4 := hA 4 (hd 4 (by simp))
      change vs 4 = (.slice B N cb) at e4
      obtain ⟨g0, e2, hg0, hE0⟩ := hI.2.1 (hd 2 (by simp)) h0
      refine step_append_new (by rfl) (.tmp 18) (.tmp 20) _ (by rfl) W.heap.size 5 i0 (.int .u8 0) 1 1 Try.underlying29 hi0 hz0 hz1 hz2 rfl Nat.zero_lt_one g0 (by simp [Act.eval, putAll, Act.put, e2]) hE0 hg0 _ _ b.length _ (bcells b) (by simp [Act.eval, putAll, Act.put, e4, HNB.out] <;> rfl) (HRB.out _ hI.1) (bcells_one _) (by have := HNL.out; unfold maxLen; omega) (by have := HNL.out; omega) hI.1.size ?_
      intro A3 c3 u3 hc3 hown3 hO3 hat3
      have hI' := HIN.out L vs _ _ hO3 hI
      simp only [putAll, Act.put, List.setIfInBounds_toArray, List.set_cons_succ, List.set_cons_zero]
      exact hK _ _ ⟨hO3.any, ⟨hI'.1, fun _ h => (by cases h), fun _ _ => ⟨A3, c3, rfl, hc3, hown3⟩, hI'.2.2.2⟩, trivial⟩
    · refine inv_step _ (by rfl) (by rfl) (fun K' hK => ?_)
      simp only [putAll, Act.put, List.setIfInBounds_toArray, List.set_cons_succ, List.set_cons_zero] at hK
      obtain ⟨A3, c3, e5, hc3, ho3⟩ := hI.2.2.1 (hd 5 (by simp)) h0
      refine step_append_rd _ (by rfl) (.tmp 21) (.tmp 24) _ (by rfl) W.heap.size 5 i0 (.int .u8 0) 1 1 Try.underlying29 hi0 hz0 hz1 hz2 rfl Nat.zero_lt_one (.slice A3 b.length c3) b.length (bcells b) (by simp [Act.eval, putAll, Act.put, e5]) ho3 W.heap.size A K cx (bcells xk) (by simp [Act.eval, putAll, Act.put]) (HXK.out _ hI.1) (bcells_one _) y.length (by rw [HNB.out]; exact HYL.out) _ HYC.out (by have := HM.out; have := HYL.out; have := HNB.out; unfold maxLen; omega) (by have := HM.out; have := HYL.out; have := HNB.out; omega) hI.1.size ?_
      intro A4 c4 w4 hc4 hown4 hgr4 hat4
      simp only [putAll, Act.put, List.setIfInBounds_toArray, List.set_cons_succ, List.set_cons_zero]
      have hT : Only (fun z => W.heap.size ≤ z) _ w4 := grown_only ho3 hgr4
      exact hK _ _ ⟨hT, ⟨hI.1.trans hT (fun z hz => .inl hz), fun _ h => absurd ((hd 5 (by simp)).symm.trans h) (by decide), fun _ h => (by cases h), fun _ => ⟨A4, c4, rfl, hc4, hown4⟩, fun h => absurd ((hI.2.2.2.2.2 h).symm.trans h0) (by decide), fun _ => rfl⟩, trivial⟩
    · refine inv_step _ (by rfl) (by rfl) (fun K' hK => ?_)
      simp only [putAll, Act.put, List.setIfInBounds_toArray, List.set_cons_succ, List.set_cons_zero] at hK ⊢
      have e1 := hA 1 (hd 1 (by simp))
      change vs 1 = (.int .i64 n) at e1
      simp only [e1] at hK
      obtain ⟨A4, c4, e9, hc4, ho4⟩ := hI.2.2.2.1 (hd 9 (by simp))
      simp only [e9] at hK
      go_simp
      exact hK _ _ ⟨Only.refl _ _, ⟨hI.1, hI.2.1, hI.2.2.1, hI.2.2.2.1, fun _ => ⟨A4, c4, rfl, hc4, ho4⟩, fun _ => hd 9 (by simp)⟩, trivial⟩
  case fin_3 =>
    intro L vs u hI hL hA
    simp only [putAll, Act.put, List.setIfInBounds_toArray, List.set_cons_succ, List.set_cons_zero, List.drop_succ_cons, List.drop_zero]
    obtain ⟨A3, c3, e10, hc3, ho3⟩ := hI.2.2.2.2.1 (hL 10 (by omega))
    simp only [e10]
    have hI := hI.1
    have hb1 : Blk u (w.heap.size + 1) _ _ := HB1.out.only hI (by have := HSW.out; omega)
    have k1 : ∀ i, u.cell? ⟨w.heap.size + 1, i, none⟩ = #[Value.int .i64 0, .slice none 0 0][i]? := fun i => hb1.cell i
    have f1 : ∀ i, u.frozen? ⟨w.heap.size + 1, i, none⟩ = false := fun i => hb1.frozen i
    have HI5 := Lib.hid hI
    have HW5 := Lib.hid ho3
    clear hA hL e10 ho3 hb1
    go_wp2_with fail
    have hfin : ∀ w', Only (One (w.heap.size + 1)) u w' → BPutPost n b x K w (.returned (.tuple #[.agg #[.int .i64 n, .slice A3 y.length c3], .int .i64 K])) w' := fun w' hw => by
      have h1 := HSW.out
      exact HF.out w' A3 c3 hc3 (own_base (own_only HW5.out hw fun q hq hx => by
        have := ownBlock_ge HW5.out hq
        unfold One at hx
        omega) (by omega)) ((HO.out.trans HI5.out (fun z hz => .inr (by omega))).trans hw fun x hx => .inr (by unfold One at hx; omega))
    refine bodyPost_ret (v := .tuple #[.agg #[.int .i64 n, .slice A3 y.length c3], .int .i64 K]) (by simp [results, Try.results34, go_sem, k1]) rfl ?_
    refine hfin _ ?_
    (repeat' (first | with_reducible exact Only.refl _ _ | with_reducible refine Only.setCell ?_ (Or.inl ?_) _ | with_reducible refine Only.drewN ?_ _ | with_reducible refine Only.drew ?_ | with_reducible refine Only.alloc ?_ _ | (exact rfl)))

end Go.Proofs.Ytljfblnpgeconaa
