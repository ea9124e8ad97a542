/-
  The walk of ref43: copied: an end that shares no memory with another one.
  Conditions: the slices of the end can be read, each has at most 2 to the power 40 bytes.
-/
import Derived.Test.YtfichoekjjcjiaaStW2
import Derived.Test.YtfichoekjjcjiaaInv
namespace Go.Proofs.Ytfichoekjjcjiaa
open Go.RowKit
namespace Ref

set_option maxRecDepth 100000 in
set_option maxHeartbeats 2000000 in
theorem copied_any (l : Loc) (e : E) (w : World) (h : EB w w.heap.size l e) (ho : e.out.length ≤ 1099511627776) (hi : e.inn.length ≤ 1099511627776) :
    Calls Try.prog 38 #[.agg (ecells l e).toArray] w (CopyPost e w) := by
  obtain ⟨i0, hi0, hz0, hz1, hz2⟩ := info_parts byte_info
  obtain ⟨w2, hw2⟩ : ∃ w2, w2 = (w.alloc (.cells (ecells l e).toArray 24)).alloc (.cells (ecells nowhere zE).toArray 24) := ⟨_, rfl⟩
  have hO2 : Only Nil w w2 := by rw [hw2]; exact ((Only.refl _ _).alloc _).alloc _
  have hb0 : Blk w2 w.heap.size 24 (ecells l e).toArray := by rw [hw2]; exact (Blk.new w _ _).alloc _
  have hb1 : Blk w2 (w.heap.size + 1) 24 (ecells nowhere zE).toArray := by rw [hw2]; simpa using Blk.new (w.alloc (.cells (ecells l e).toArray 24)) 24 (ecells nowhere zE).toArray
  have hs2 : w2.heap.size = w.heap.size + 2 := by rw [hw2]; simp
  have hon : ∀ x, One w.heap.size x → w.heap.size ≤ x := fun x hx => by unfold One at hx; omega
  have HBo : Hid (∀ u, Only (One w.heap.size) w2 u → Rd u w.heap.size 1 l.Ao e.out.length (bcells e.out)) := Lib.hid (fun u hO => Rd.only (Rd.onlyNil h.out hO2 (Nat.le_refl _)) hO hO2.size hon)
  have HBi : Hid (∀ u, Only (One w.heap.size) w2 u → Rd u w.heap.size 1 l.Ai e.inn.length (bcells e.inn)) := Lib.hid (fun u hO => Rd.only (Rd.onlyNil h.inn hO2 (Nat.le_refl _)) hO hO2.size hon)
  have HS2 := Lib.hid hs2
  have HO2 := Lib.hid hO2
  have HB0 := Lib.hid hb0
  have HB1 := Lib.hid hb1
  have HLo := Lib.hid ho
  have HLi := Lib.hid hi
  clear hO2 hb0 hb1 h hs2 ho hi hon
  obtain ⟨out, base, closed, done, inn, next, ended, due⟩ := e
  unfold ecells at hw2 ⊢
  unfold nowhere zE at hw2
  dsimp only [List.length_nil] at hw2 HBo HBi HLo HLi ⊢
  go_enter Try.func38, Try.ntmps38
  go_wp2_with fail
  rw [← hw2]
  clear hw2
  have HIN : Hid (∀ (L : Nat → Bool) (vs : Nat → Value) (u u' : World), Only Nil u u' → (fun L vs u => Only (One w.heap.size) w2 u ∧ (L 9 = true → L 3 = true ∧ L 2 = true) ∧ Blk u w.heap.size 24 #[if L 9 = true then vs 3 else .slice l.Ao out.length l.co, .int .i64 base, .bool closed, .bool done, .slice l.Ai inn.length l.ci, .int .i64 next, .bool ended, .bool due] ∧ (L 0 = true → L 4 = true → Ap (vs 0) (vs 4)) ∧ (L 0 = true → L 7 = true → Ap (vs 0) (vs 7)) ∧ (L 3 = true → L 4 = true → Ap (vs 3) (vs 4)) ∧ (L 3 = true → L 7 = true → Ap (vs 3) (vs 7))) L vs u → (fun L vs u => Only (One w.heap.size) w2 u ∧ (L 9 = true → L 3 = true ∧ L 2 = true) ∧ Blk u w.heap.size 24 #[if L 9 = true then vs 3 else .slice l.Ao out.length l.co, .int .i64 base, .bool closed, .bool done, .slice l.Ai inn.length l.ci, .int .i64 next, .bool ended, .bool due] ∧ (L 0 = true → L 4 = true → Ap (vs 0) (vs 4)) ∧ (L 0 = true → L 7 = true → Ap (vs 0) (vs 7)) ∧ (L 3 = true → L 4 = true → Ap (vs 3) (vs 4)) ∧ (L 3 = true → L 7 = true → Ap (vs 3) (vs 7))) L vs u') := Lib.hid (fun L vs u u' hO hI => by
    exact ⟨hI.1.thenNil hO, hI.2.1, hI.2.2.1.onlyNil hO, hI.2.2.2⟩)
  refine wp_region_inv (X := [(0, some 3, []), (1, some 4, []), (2, some 5, [1]), (3, some 6, [0, 2]), (4, some 7, []), (5, some 8, []), (6, some 9, [5]), (7, some 10, [4, 6]), (8, some 11, []), (9, none, [2, 3, 8])]) (n := 10) (g := 2) (T := One w.heap.size) (Ps := [Emp 5 w2.heap.size, Cst (.pointer (some ⟨w.heap.size, 0, none⟩)), Cst (.slice l.Ao out.length l.co), OwnB 5 w2.heap.size out, Emp 5 w2.heap.size, Cst (.pointer (some ⟨w.heap.size, 4, none⟩)), Cst (.slice l.Ai inn.length l.ci), OwnB 5 w2.heap.size inn, Cst (.pointer (some ⟨w.heap.size, 0, none⟩)), Any])
    (I := fun L vs u => Only (One w.heap.size) w2 u ∧ (L 9 = true → L 3 = true ∧ L 2 = true) ∧ Blk u w.heap.size 24 #[if L 9 = true then vs 3 else .slice l.Ao out.length l.co, .int .i64 base, .bool closed, .bool done, .slice l.Ai inn.length l.ci, .int .i64 next, .bool ended, .bool due] ∧ (L 0 = true → L 4 = true → Ap (vs 0) (vs 4)) ∧ (L 0 = true → L 7 = true → Ap (vs 0) (vs 7)) ∧ (L 3 = true → L 4 = true → Ap (vs 3) (vs 4)) ∧ (L 3 = true → L 7 = true → Ap (vs 3) (vs 7)))
    (by kernel_rfl) (by kernel_rfl) (by kernel_rfl) (by kernel_rfl) rfl ?st_4 ?i0_4 ?step_4 ?fin_4
  case st_4 =>
    have hT : ∀ x, (One w.heap.size) x → x < w2.heap.size := fun x h => by unfold One at h; have := HS2.out; omega
    intro p hp
    simp only [List.mem_cons, List.not_mem_nil, or_false] at hp
    rcases hp with rfl | rfl | rfl | rfl | rfl | rfl | rfl | rfl | rfl | rfl <;> first | exact Stays.cst _ | exact Stays.own hT | exact Stays.emp hT | exact Stays.any
  case i0_4 =>
    intro vs
    exact ⟨(Only.refl _ _).drew, (fun h => by cases h), HB0.out.drew, (fun h => by cases h), (fun h => by cases h), (fun h => by cases h), (fun h => by cases h)⟩
  case step_4 =>
    intro x hx L vs u hI hA h0 hd
    simp only [List.mem_cons, List.not_mem_nil, or_false] at hx
    rcases hx with rfl | rfl | rfl | rfl | rfl | rfl | rfl | rfl | rfl | rfl
    · refine inv_step _ (by rfl) (by rfl) (fun K' hK => ?_)
      simp only [putAll, Act.put, List.setIfInBounds_toArray, List.set_cons_succ, List.set_cons_zero] at hK ⊢
      go_simp
      exact hK _ _ ⟨(Only.refl _ _).alloc _, ⟨hI.1.alloc _, hI.2.1, hI.2.2.1.alloc _, fun _ h => Ap.new rfl fun q hq => Emp.lt (hA 4 h) hq, fun _ h => Ap.new rfl fun q hq => OwnB.lt (hA 7 h) hq, hI.2.2.2.2.2⟩, ⟨_, rfl, hI.1.size, Blk.new _ _ _⟩⟩
    · refine inv_step _ (by rfl) (by rfl) (fun K' hK => ?_)
      simp only [putAll, Act.put, List.setIfInBounds_toArray, List.set_cons_succ, List.set_cons_zero] at hK ⊢
      go_simp
      exact hK _ _ ⟨Only.refl _ _, hI, rfl⟩
    · refine inv_step _ (by rfl) (by rfl) (fun K' hK => ?_)
      simp only [putAll, Act.put, List.setIfInBounds_toArray, List.set_cons_succ, List.set_cons_zero] at hK ⊢
      have e1 := hA 1 (hd 1 (by simp))
      change vs 1 = (.pointer (some ⟨w.heap.size, 0, none⟩)) at e1
      simp only [e1] at hK
      have h9 : L 9 = false := by
        cases e : L 9 with
        | false => rfl
        | true => exact absurd (hI.2.1 e).2 (by rw [show L 2 = false from h0]; decide)
      have ks := hI.2.2.1.cell 0
      rw [h9] at ks
      change u.cell? ⟨w.heap.size, 0, none⟩ = some (Value.slice l.Ao out.length l.co) at ks
      go_simp
      exact hK _ _ ⟨Only.refl _ _, ⟨hI.1, fun h => absurd h (by show ¬ L 9 = true; rw [h9]; decide), hI.2.2⟩, rfl⟩
    · refine inv_step _ (by rfl) (by rfl) (fun K' hK => ?_)
      simp only [putAll, Act.put, List.setIfInBounds_toArray, List.set_cons_succ, List.set_cons_zero] at hK
      have e2 := hA 2 (hd 2 (by simp))
      change vs 2 = (.slice l.Ao out.length l.co) at e2
      obtain ⟨g0, e0, hg0, hE0⟩ := hA 0 (hd 0 (by simp))
      refine step_append_new (by rfl) (.tmp 3) (.tmp 5) _ (by rfl) w2.heap.size 5 i0 (.int .u8 0) 1 1 Try.underlying22 hi0 hz0 hz1 hz2 rfl Nat.zero_lt_one g0 (by simp [Act.eval, putAll, Act.put, e0]) hE0 hg0 _ _ out.length _ (bcells out) (by simp [Act.eval, putAll, Act.put, e2] <;> rfl) (HBo.out _ hI.1) (bcells_one _) (by have := HLo.out; unfold maxLen; omega) (by have := HLo.out; omega) hI.1.size ?_
      intro A3 c3 u3 hc3 hown3 hO3 hat3
      simp only [putAll, Act.put, List.setIfInBounds_toArray, List.set_cons_succ, List.set_cons_zero]
      exact hK _ _ ⟨hO3.any, ⟨hI.1.thenNil hO3, fun h => absurd (hI.2.1 h).1 (by rw [show L 3 = false from h0]; decide), by
        have h9 : L 9 = false := by
          cases e : L 9 with
          | false => rfl
          | true => exact absurd (hI.2.1 e).1 (by rw [show L 3 = false from h0]; decide)
        have hb := hI.2.2.1.onlyNil hO3
        rw [h9] at hb
        show Blk u3 _ _ #[if L 9 = true then _ else _, _, _, _, _, _, _, _]
        rw [h9]
        exact hb, hI.2.2.2.1, hI.2.2.2.2.1, fun _ h => Ap.grow hat3 (e0 ▸ hI.2.2.2.1 (hd 0 (by simp)) h) fun q hq => Emp.lt (hA 4 h) hq, fun _ h => Ap.grow hat3 (e0 ▸ hI.2.2.2.2.1 (hd 0 (by simp)) h) fun q hq => OwnB.lt (hA 7 h) hq⟩, ⟨A3, c3, rfl, hc3, hown3⟩⟩
    · refine inv_step _ (by rfl) (by rfl) (fun K' hK => ?_)
      simp only [putAll, Act.put, List.setIfInBounds_toArray, List.set_cons_succ, List.set_cons_zero] at hK ⊢
      go_simp
      exact hK _ _ ⟨(Only.refl _ _).alloc _, ⟨hI.1.alloc _, hI.2.1, hI.2.2.1.alloc _, fun h _ => (Ap.new rfl fun q hq => Emp.lt (hA 0 h) hq).symm, hI.2.2.2.2.1, fun h _ => (Ap.new rfl fun q hq => OwnB.lt (hA 3 h) hq).symm, hI.2.2.2.2.2.2⟩, ⟨_, rfl, hI.1.size, Blk.new _ _ _⟩⟩
    · refine inv_step _ (by rfl) (by rfl) (fun K' hK => ?_)
      simp only [putAll, Act.put, List.setIfInBounds_toArray, List.set_cons_succ, List.set_cons_zero] at hK ⊢
      go_simp
      exact hK _ _ ⟨Only.refl _ _, hI, rfl⟩
    · refine inv_step _ (by rfl) (by rfl) (fun K' hK => ?_)
      simp only [putAll, Act.put, List.setIfInBounds_toArray, List.set_cons_succ, List.set_cons_zero] at hK ⊢
      have e5 := hA 5 (hd 5 (by simp))
      change vs 5 = (.pointer (some ⟨w.heap.size, 4, none⟩)) at e5
      simp only [e5] at hK
      have ks := hI.2.2.1.cell 4
      change u.cell? ⟨w.heap.size, 4, none⟩ = some (Value.slice l.Ai inn.length l.ci) at ks
      go_simp
      exact hK _ _ ⟨Only.refl _ _, hI, rfl⟩
    · refine inv_step _ (by rfl) (by rfl) (fun K' hK => ?_)
      simp only [putAll, Act.put, List.setIfInBounds_toArray, List.set_cons_succ, List.set_cons_zero] at hK
      have e6 := hA 6 (hd 6 (by simp))
      change vs 6 = (.slice l.Ai inn.length l.ci) at e6
      obtain ⟨g0, e4, hg0, hE0⟩ := hA 4 (hd 4 (by simp))
      refine step_append_new (by rfl) (.tmp 7) (.tmp 9) _ (by rfl) w2.heap.size 5 i0 (.int .u8 0) 1 1 Try.underlying22 hi0 hz0 hz1 hz2 rfl Nat.zero_lt_one g0 (by simp [Act.eval, putAll, Act.put, e4]) hE0 hg0 _ _ inn.length _ (bcells inn) (by simp [Act.eval, putAll, Act.put, e6] <;> rfl) (HBi.out _ hI.1) (bcells_one _) (by have := HLi.out; unfold maxLen; omega) (by have := HLi.out; omega) hI.1.size ?_
      intro A3 c3 u3 hc3 hown3 hO3 hat3
      simp only [putAll, Act.put, List.setIfInBounds_toArray, List.set_cons_succ, List.set_cons_zero]
      exact hK _ _ ⟨hO3.any, ⟨hI.1.thenNil hO3, hI.2.1, hI.2.2.1.onlyNil hO3, hI.2.2.2.1, fun h _ => (Ap.grow hat3 (e4 ▸ (hI.2.2.2.1 h (hd 4 (by simp))).symm) fun q hq => Emp.lt (hA 0 h) hq).symm, hI.2.2.2.2.2.1, fun h _ => (Ap.grow hat3 (e4 ▸ (hI.2.2.2.2.2.1 h (hd 4 (by simp))).symm) fun q hq => OwnB.lt (hA 3 h) hq).symm⟩, ⟨A3, c3, rfl, hc3, hown3⟩⟩
    · refine inv_step _ (by rfl) (by rfl) (fun K' hK => ?_)
      simp only [putAll, Act.put, List.setIfInBounds_toArray, List.set_cons_succ, List.set_cons_zero] at hK ⊢
      go_simp
      exact hK _ _ ⟨Only.refl _ _, hI, rfl⟩
    · refine inv_step _ (by rfl) (by rfl) (fun K' hK => ?_)
      simp only [putAll, Act.put, List.setIfInBounds_toArray, List.set_cons_succ, List.set_cons_zero] at hK ⊢
      have e2 := hA 2 (hd 2 (by simp))
      change vs 2 = (.slice l.Ao out.length l.co) at e2
      have e8 := hA 8 (hd 8 (by simp))
      change vs 8 = (.pointer (some ⟨w.heap.size, 0, none⟩)) at e8
      simp only [e2, e8] at hK
      obtain ⟨A1, c1, e3, hc1, ho1⟩ := hA 3 (hd 3 (by simp))
      simp only [e3] at hK
      have h9 : L 9 = false := h0
      have hb := hI.2.2.1
      rw [h9] at hb
      have kf : ∀ i, u.frozen? ⟨w.heap.size, i, none⟩ = false := fun i => hb.frozen i
      have kb : ∀ i, u.cell? ⟨w.heap.size, i, none⟩ = #[Value.slice l.Ao out.length l.co, .int .i64 base, .bool closed, .bool done, .slice l.Ai inn.length l.ci, .int .i64 next, .bool ended, .bool due][i]? := fun i => hb.cell i
      go_simp
      have hOne : ∀ a : World, Only (One w.heap.size) a u → Only (One w.heap.size) a (u.setCell ⟨w.heap.size, 0, none⟩ (Value.slice A1 out.length c1)) := fun a h => h.setCell (p := ⟨w.heap.size, 0, none⟩) (Or.inl (show One w.heap.size w.heap.size from rfl)) _
      refine hK undef _ ⟨hOne _ (Only.refl _ _), ⟨hOne _ hI.1, fun _ => ⟨hd 3 (by simp), hd 2 (by simp)⟩, ?_, hI.2.2.2⟩, trivial⟩
      have hb2 := hb.set_ 0 (vs 3)
      rw [e3] at hb2
      show Blk _ _ _ #[if true = true then vs 3 else _, _, _, _, _, _, _, _]
      rw [if_pos rfl, e3]
      exact hb2
  case fin_4 =>
    intro L vs u hI hL hA
    simp only [putAll, Act.put, List.setIfInBounds_toArray, List.set_cons_succ, List.set_cons_zero, List.drop_succ_cons, List.drop_zero]
    obtain ⟨hO, _, hb, _, _, _, hap⟩ := hI
    have hap := hap (hL 3 (by omega)) (hL 7 (by omega))
    rw [hL 9 (by omega), if_pos rfl] at hb
    obtain ⟨Ao3, co3, e3, hc3, ho3⟩ := hA 3 (by omega)
    obtain ⟨Ai3, ci3, e7, hc7, ho7⟩ := hA 7 (by omega)
    clear hA hL
    rw [e3] at hb hap
    rw [e7] at hap
    simp only [e3, e7]
    have k0 : ∀ i, u.cell? ⟨w.heap.size, i, none⟩ = #[Value.slice Ao3 out.length co3, .int .i64 base, .bool closed, .bool done, .slice l.Ai inn.length l.ci, .int .i64 next, .bool ended, .bool due][i]? := fun i => hb.cell i
    have f0 : ∀ i, u.frozen? ⟨w.heap.size, i, none⟩ = false := fun i => hb.frozen i
    have hb1 : Blk u (w.heap.size + 1) _ _ := HB1.out.only hO (by unfold One; omega)
    have k1 : ∀ i, u.cell? ⟨w.heap.size + 1, i, none⟩ = #[Value.slice none 0 0, .int .i64 0, .bool false, .bool false, .slice none 0 0, .int .i64 0, .bool false, .bool false][i]? := fun i => hb1.cell i
    have f1 : ∀ i, u.frozen? ⟨w.heap.size + 1, i, none⟩ = false := fun i => hb1.frozen i
    have HP := Lib.hid (And.intro ho3 (And.intro ho7 (And.intro hap (And.intro hc3 (And.intro hc7 hO)))))
    clear hb hb1 ho3 ho7 hap e3 e7 hc3 hc7 hO
    go_wp2_with fail
    refine bodyPost_ret (v := .agg #[.slice Ao3 out.length co3, .int .i64 base, .bool closed, .bool done, .slice Ai3 inn.length ci3, .int .i64 next, .bool ended, .bool due]) (by simp [results, Try.results38, go_sem, k1]) rfl ?_
    obtain ⟨ho3, ho7, hap, hc3, hc7, hO⟩ := HP.out
    have hfin : ∀ w', Only (fun x => x = w.heap.size ∨ x = w.heap.size + 1) u w' → CopyPost ⟨out, base, closed, done, inn, next, ended, due⟩ w (.returned (.agg #[.slice Ao3 out.length co3, .int .i64 base, .bool closed, .bool done, .slice Ai3 inn.length ci3, .int .i64 next, .bool ended, .bool due])) w' := fun w' hw => by
      have hs := HS2.out
      refine ⟨⟨Ao3, co3, Ai3, ci3⟩, rfl, hc3, hc7, own_base (own_only ho3 hw fun q hq hx => ?_) (by omega), own_base (own_only ho7 hw fun q hq hx => ?_) (by omega), hap, ?_⟩
      · have := ownBlock_ge ho3 hq; omega
      · have := ownBlock_ge ho7 hq; omega
      · exact (HO2.out.trans hO (fun x hx => .inr (by unfold One at hx; omega))).trans hw (fun x hx => .inr (by omega))
    refine hfin _ ?_
    (repeat' (first | with_reducible exact Only.refl _ _ | with_reducible refine Only.setCell ?_ (Or.inl ?_) _ | with_reducible refine Only.drewN ?_ _ | with_reducible refine Only.drew ?_ | with_reducible refine Only.alloc ?_ _ | (first | exact .inl rfl | exact .inr rfl)))

end Ref
end Go.Proofs.Ytfichoekjjcjiaa
