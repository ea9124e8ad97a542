/-
  Take of the reference's queue of bytes.
  Conditions: the queue's bytes can be read.
-/
import Derived.Test.YtljfblnpgeconaaRiG1
import Derived.Deep.RegionHeld3
import Derived.Test.YtljfblnpgeconaaInv
namespace Go.Proofs.Ytljfblnpgeconaa
open Go.RowKit

def BTakePost (n : Nat) (b : List UInt8) (k : Nat) (w : World) (e : Ending) (w' : World) : Prop :=
  ∃ A c A2 c2, e = .returned (.tuple #[.agg #[.int .i64 n, .slice A (b.drop k).length c], .slice A2 (b.take k).length c2]) ∧ (b.drop k).length ≤ c ∧ w'.ownsRow w.heap.size 5 1 (.slice A (b.drop k).length c) (b.drop k).length (bcells (b.drop k)) ∧ Bs w' w'.heap.size A2 (b.take k) ∧ Only Nil w w'

def QAgg (base n : Nat) (y : List UInt8) : VPred := fun v w => ∃ A c, v = .agg #[.int .i64 n, .slice A y.length c] ∧ y.length ≤ c ∧ w.ownsRow base 5 1 (.slice A y.length c) y.length (bcells y)
theorem Stays.qagg (base n : Nat) (y : List UInt8) : Stays Nil (QAgg base n y) := fun _ _ _ hO h => by
  obtain ⟨A, c, h1, h2, h3⟩ := h
  exact ⟨A, c, h1, h2, own_onlyNil h3 hO⟩

set_option maxRecDepth 100000 in
set_option maxHeartbeats 4000000 in
theorem Ref.btake_any (n : Nat) (B : Option Addr) (cb : Nat) (b : List UInt8) (k : Int) (w : World) (h : Bs w w.heap.size B b) (hc : b.length ≤ cb) (hl : b.length ≤ 4096) :
    Calls Try.prog 35 #[.agg #[.int .i64 n, .slice B b.length cb], .int .i64 k] w (BTakePost n b k.toNat w) := by
  obtain ⟨i0, hi0, hz0, hz1, hz2⟩ := info_parts byte_info
  obtain ⟨K, hK⟩ : ∃ K, min k.toNat b.length = K := ⟨_, rfl⟩
  have hct : b.take k.toNat = b.take K ∧ b.drop k.toNat = b.drop K := by
    rw [← hK]
    rcases Nat.le_total k.toNat b.length with h1 | h1
    · rw [Nat.min_eq_left h1]; exact ⟨rfl, rfl⟩
    · rw [Nat.min_eq_right h1, List.take_of_length_le h1, List.take_length, List.drop_of_length_le h1, List.drop_length]; exact ⟨rfl, rfl⟩
  have hKb : K ≤ b.length := by omega
  have hlt : (b.take K).length = K := by rw [List.length_take]; omega
  have hld : (b.drop K).length = b.length - K := List.length_drop
  have hP : BTakePost n b k.toNat w = BTakePost n b K w := by unfold BTakePost; rw [hct.1, hct.2]
  rw [hP]
  obtain ⟨W0, hW0⟩ : ∃ W, w.alloc (.cells #[.int .i64 n, .slice B b.length cb] 61) = W := ⟨_, rfl⟩
  obtain ⟨W, hW⟩ : ∃ V, W0.alloc (.cells #[.int .i64 0, .slice none 0 0] 61) = V := ⟨_, rfl⟩
  have hO0 : Only Nil w W0 := by rw [← hW0]; exact (Only.refl _ _).alloc _
  have hO : Only Nil w W := by rw [← hW]; exact hO0.alloc _
  have hs0 : W0.heap.size = w.heap.size + 1 := by rw [← hW0, World.size_alloc]
  have hsW : W.heap.size = w.heap.size + 2 := by rw [← hW, World.size_alloc, hs0]
  have hb0 : Blk W w.heap.size 61 #[.int .i64 n, .slice B b.length cb] := by rw [← hW, ← hW0]; exact (Blk.new _ _ _).alloc _
  have hb1 : Blk W (w.heap.size + 1) 61 #[.int .i64 0, .slice none 0 0] := by rw [← hW, ← hs0]; exact Blk.new _ _ _
  have hB := (h.onlyNil hO (Nat.le_refl _)).up hO.size
  have hpk : Calls Try.prog 36 #[.agg #[.int .i64 n, .slice B b.length cb], .int .i64 k] W (BytesPost Nil (b.take K) W) := by
    rw [← hct.1]; exact bpeek_any n B cb b k W hB hc hl
  unfold BytesPost at hpk
  rw [hlt] at hpk
  obtain ⟨N, hN⟩ : ∃ N, b.length = N := ⟨_, rfl⟩
  obtain ⟨x, hx⟩ : ∃ x, b.take K = x := ⟨_, rfl⟩
  obtain ⟨y, hy⟩ : ∃ y, b.drop K = y := ⟨_, rfl⟩
  obtain ⟨Bx, hBx⟩ : ∃ Bx, (if cb = K then B else Option.map (fun x => x.add K) B) = Bx := ⟨_, rfl⟩
  have hcut : ∀ u, Bs u W.heap.size B b → Bs u W.heap.size Bx y := fun u h => by
    have h1 := h.cut (k := K) (cap := cb) (by omega) hc
    rwa [hBx, hy] at h1
  have hfinal : ∀ w' A c A2 c2, c ≥ y.length → w'.ownsRow w.heap.size 5 1 (.slice A y.length c) y.length (bcells y) → Bs w' w'.heap.size A2 x → Only Nil w w' → BTakePost n b K w (.returned (.tuple #[.agg #[.int .i64 n, .slice A y.length c], .slice A2 K c2])) w' := fun w' A c A2 c2 h1 h2 h3 h4 => by
    unfold BTakePost
    rw [hx, hy, ← hx, hlt, hx]
    exact ⟨A, c, A2, c2, rfl, h1, h2, h3, h4⟩
  rw [hx] at hpk
  rw [hy, hN] at hld
  rw [hN] at hpk hW0 hb0 hKb hc hl hK ⊢
  have kb : ∀ i, W.cell? ⟨w.heap.size, i, none⟩ = #[.int .i64 n, .slice B N cb][i]? := fun i => hb0.cell i
  have HPK := Lib.hid hpk
  have HCUT := Lib.hid hcut
  have HF := Lib.hid hfinal
  have HB := Lib.hid hB
  have HO := Lib.hid hO
  have HB0 := Lib.hid hb0
  have HB1 := Lib.hid hb1
  have HSW := Lib.hid hsW
  have HLD := Lib.hid hld
  have q0 : (0 : Int) ≤ (K : Int) := by omega
  have q1 : (K : Int) ≤ (N : Int) := by omega
  have q2 : (N : Int) ≤ (cb : Int) := by omega
  have q3 : N - K = y.length := by omega
  have HL := Lib.hid hl
  clear hP hct hlt hpk hcut hfinal hB hO hb0 hb1 hld h hN hx hy hK hKb hc hl hO0
  go_enter Try.func35, Try.ntmps35
  go_wp2_with fail
  clear hW hW0 hs0 hsW
  refine HPK.out.mono ?_
  rintro e w2 ⟨A2, c2, rfl, hc2, hown2, hO2⟩
  have hb0 := HB0.out.onlyNil hO2
  have HW2 := Lib.hid hown2
  have HO2 := Lib.hid hO2
  have HBB := Lib.hid hb0
  have HBR := Lib.hid (HB1.out.onlyNil hO2)
  have HRD := Lib.hid (HCUT.out _ (HB.out.onlyNil hO2 (Nat.le_refl _)))
  have HSZ := Lib.hid hO2.size
  have HYL := Lib.hid (show y.length ≤ 4096 by have := HLD.out; have := HL.out; omega)
  clear hown2 hO2 hc2 kb hb0
  go_wp2_with fail
  have HIN : Hid (∀ (L : Nat → Bool) (vs : Nat → Value) (u u' : World), Only Nil u u' → (fun _ _ u => Only Nil w2 u) L vs u → (fun _ _ u => Only Nil w2 u) L vs u') := Lib.hid (fun L vs u u' hO hI => by
    exact hI.thenNil hO)
  refine wp_region_any (by kernel_rfl) ?_
  change wpAny _ _ _ _ _ _ _ (World.drew _)
  refine take_first (i := 0) (v := ?v0_2) (some 10) rfl (by rfl) (by kernel_rfl) (by kernel_rfl) (by kernel_rfl) (fun _ _ _ h => h) (Or.inl ⟨by rfl, ?hy0_2⟩) ?rest0_2
  case hy0_2 => (intro w; go_simp <;> with_reducible rfl)
  refine take_first (i := 3) (v := ?v3_2) (some 13) rfl (by rfl) (by kernel_rfl) (by kernel_rfl) (by kernel_rfl) (fun _ _ _ h => h) (Or.inl ⟨by rfl, ?hy3_2⟩) ?rest3_2
  case hy3_2 => (intro w; go_simp <;> with_reducible rfl)
  refine take_first (i := 5) (v := ?v5_2) (some 15) rfl (by rfl) (by kernel_rfl) (by kernel_rfl) (by kernel_rfl) (fun _ _ _ h => h) (Or.inl ⟨by rfl, ?hy5_2⟩) ?rest5_2
  case hy5_2 => (intro w; go_simp <;> with_reducible rfl)
  refine take_first (i := 6) (v := ?v6_2) (some 16) rfl (by rfl) (by kernel_rfl) (by kernel_rfl) (by kernel_rfl) (fun _ _ _ h => h) (Or.inl ⟨by rfl, ?hy6_2⟩) ?rest6_2
  case hy6_2 => (intro w; go_simp <;> with_reducible rfl)
  refine take_first (i := 10) (v := ?v10_2) (some 20) rfl (by rfl) (by kernel_rfl) (by kernel_rfl) (by kernel_rfl) (fun _ _ _ h => h) (Or.inl ⟨by rfl, ?hy10_2⟩) ?rest10_2
  case hy10_2 => (intro w; go_simp <;> with_reducible rfl)
  refine wpAny_inv2 (X := [(1, some 11, []), (2, some 12, []), (4, some 14, []), (7, some 17, [4]), (8, some 18, [2, 7]), (9, some 19, [1, 8])]) (n := 6) (g := 2) (m := 11) (l0 := [true, false, false, true, false, true, true, false, false, false, true, false, false]) (T := Nil) (Ps := [Any, Cst (.int .i64 n), Emp 5 w2.heap.size, Any, Cst (.slice B N cb), Any, Any, Cst (.slice Bx y.length (cb - K)), OwnB 5 w2.heap.size y, QAgg w2.heap.size n y, Any])
    (I := fun _ _ u => Only Nil w2 u)
    (by kernel_rfl) rfl (by kernel_rfl) (by kernel_rfl) (by kernel_rfl) rfl ?h0_2 ?st_2 ?i0_2 ?step_2 ?fin_2
  case h0_2 =>
    intro j hj v u
    match j, hj with
    | 0, hj => trivial
    | 1, hj => exact absurd hj (by decide)
    | 2, hj => exact absurd hj (by decide)
    | 3, hj => trivial
    | 4, hj => exact absurd hj (by decide)
    | 5, hj => trivial
    | 6, hj => trivial
    | 7, hj => exact absurd hj (by decide)
    | 8, hj => exact absurd hj (by decide)
    | 9, hj => exact absurd hj (by decide)
    | 10, hj => trivial
    | 11, hj => exact absurd hj (by decide)
    | 12, hj => exact absurd hj (by decide)
    | n + 13, hj => exact absurd hj (by simp)
  case st_2 =>
    have hT : ∀ x, (Nil) x → x < w2.heap.size := fun x h => h.elim
    intro p hp
    simp only [List.mem_cons, List.not_mem_nil, or_false] at hp
    rcases hp with rfl | rfl | rfl | rfl | rfl | rfl | rfl | rfl | rfl | rfl | rfl <;> first | exact Stays.cst _ | exact Stays.own hT | exact Stays.emp hT | exact Stays.any | exact Stays.ownNil | exact Stays.qagg _ _ _
  case i0_2 =>
    intro vs
    exact (Only.refl _ _).drew
  case step_2 =>
    intro x hx L vs u hI hA h0 hd
    simp only [List.mem_cons, List.not_mem_nil, or_false] at hx
    rcases hx with rfl | rfl | rfl | rfl | rfl | rfl
    · refine inv_step _ (by rfl) (by rfl) (fun K' hK => ?_)
      simp only [putAll, Act.put, List.setIfInBounds_toArray, List.set_cons_succ, List.set_cons_zero] at hK ⊢
      have ks := fun i => (HBB.out.onlyNil hI).cell i
      go_simp
      exact hK _ _ ⟨Only.refl _ _, hI, rfl⟩
    · refine inv_step _ (by rfl) (by rfl) (fun K' hK => ?_)
      simp only [putAll, Act.put, List.setIfInBounds_toArray, List.set_cons_succ, List.set_cons_zero] at hK ⊢
      go_simp
      exact hK _ _ ⟨(Only.refl _ _).alloc _, HIN.out L vs _ _ ((Only.refl _ _).alloc _) hI, ⟨_, rfl, hI.size, Blk.new _ _ _⟩⟩
    · refine inv_step _ (by rfl) (by rfl) (fun K' hK => ?_)
      simp only [putAll, Act.put, List.setIfInBounds_toArray, List.set_cons_succ, List.set_cons_zero] at hK ⊢
      have ks := fun i => (HBB.out.onlyNil hI).cell i
      go_simp
      exact hK _ _ ⟨Only.refl _ _, hI, rfl⟩
    · refine inv_step _ (by rfl) (by rfl) (fun K' hK => ?_)
      simp only [putAll, Act.put, List.setIfInBounds_toArray, List.set_cons_succ, List.set_cons_zero] at hK ⊢
      have e4 := hA 4 (hd 4 (by simp))
      change vs 4 = (.slice B N cb) at e4
      simp only [e4] at hK
      go_simp
      exact hK _ _ ⟨Only.refl _ _, hI, rfl⟩
    · refine inv_step _ (by rfl) (by rfl) (fun K' hK => ?_)
      simp only [putAll, Act.put, List.setIfInBounds_toArray, List.set_cons_succ, List.set_cons_zero] at hK
      have e7 := hA 7 (hd 7 (by simp))
      change vs 7 = (.slice Bx y.length (cb - K)) at e7
      obtain ⟨g0, e2, hg0, hE0⟩ := hA 2 (hd 2 (by simp))
      refine step_append_new (by rfl) (.tmp 12) (.tmp 17) _ (by rfl) w2.heap.size 5 i0 (.int .u8 0) 1 1 Try.underlying29 hi0 hz0 hz1 hz2 rfl Nat.zero_lt_one g0 (by simp [Act.eval, putAll, Act.put, e2]) hE0 hg0 _ _ y.length _ (bcells y) (by simp [Act.eval, putAll, Act.put, e7] <;> rfl) (Rd.more (HRD.out.onlyNil hI HSZ.out) (Nat.le_trans HSZ.out hI.size)) (bcells_one _) (by have := HYL.out; unfold maxLen; omega) (by have := HYL.out; omega) hI.size ?_
      intro A3 c3 u3 hc3 hown3 hO3 hat3
      simp only [putAll, Act.put, List.setIfInBounds_toArray, List.set_cons_succ, List.set_cons_zero]
      exact hK _ _ ⟨hO3, HIN.out L vs _ _ hO3 hI, ⟨A3, c3, rfl, hc3, hown3⟩⟩
    · refine inv_step _ (by rfl) (by rfl) (fun K' hK => ?_)
      simp only [putAll, Act.put, List.setIfInBounds_toArray, List.set_cons_succ, List.set_cons_zero] at hK ⊢
      have e1 := hA 1 (hd 1 (by simp))
      change vs 1 = (.int .i64 n) at e1
      simp only [e1] at hK
      obtain ⟨A3, c3, e8, hc3, ho3⟩ := hA 8 (hd 8 (by simp))
      simp only [e8] at hK
      go_simp
      exact hK _ _ ⟨Only.refl _ _, hI, ⟨A3, c3, rfl, hc3, ho3⟩⟩
  case fin_2 =>
    intro L vs u hI hL hA
    simp only [putAll, Act.put, List.setIfInBounds_toArray, List.set_cons_succ, List.set_cons_zero, List.drop_succ_cons, List.drop_zero]
    obtain ⟨A3, c3, e9, hc3, ho3⟩ := hA 9 (by omega)
    simp only [e9]
    have hb1 := HBR.out.onlyNil hI
    have k1 : ∀ i, u.cell? ⟨w.heap.size + 1, i, none⟩ = #[Value.int .i64 0, .slice none 0 0][i]? := fun i => hb1.cell i
    have f1 : ∀ i, u.frozen? ⟨w.heap.size + 1, i, none⟩ = false := fun i => hb1.frozen i
    have HI5 := Lib.hid hI
    have HW5 := Lib.hid ho3
    clear hA hL e9 hI ho3 hb1
    go_wp2_with fail
    have hfin : ∀ w', Only (One (w.heap.size + 1)) u w' → BTakePost n b K w (.returned (.tuple #[.agg #[.int .i64 n, .slice A3 y.length c3], .slice A2 K c2])) w' := fun w' hw => by
      have h1 := HSW.out
      have h2 := HSZ.out
      have hx2 : Bs w2 w2.heap.size A2 x := (Bs.of_own HW2.out).1
      have hx3 : Bs u w2.heap.size A2 x := hx2.onlyNil HI5.out (Nat.le_refl _)
      have hx4 : Bs w' w2.heap.size A2 x := hx3.sep hw HI5.out.size (fun hn a ea hx => by
        have hq := ownBlock_ge HW2.out (q := a.block) (by rw [ea]; rfl)
        unfold One at hx
        omega)
      exact HF.out w' A3 c3 A2 c2 hc3 (own_base (own_only HW5.out hw fun q hq hx => by
        have := ownBlock_ge HW5.out hq
        unfold One at hx
        omega) (by omega)) (hx4.up (Nat.le_trans HI5.out.size hw.size)) (((HO.out.thenNil HO2.out).thenNil HI5.out).trans hw fun x hx => .inr (by unfold One at hx; omega))
    refine bodyPost_ret (v := .tuple #[.agg #[.int .i64 n, .slice A3 y.length c3], .slice A2 K c2]) (by simp [results, Try.results35, go_sem, k1]) rfl ?_
    refine hfin _ ?_
    (repeat' (first | with_reducible exact Only.refl _ _ | with_reducible refine Only.setCell ?_ (Or.inl ?_) _ | with_reducible refine Only.drewN ?_ _ | with_reducible refine Only.drew ?_ | with_reducible refine Only.alloc ?_ _ | (exact rfl)))

end Go.Proofs.Ytljfblnpgeconaa
