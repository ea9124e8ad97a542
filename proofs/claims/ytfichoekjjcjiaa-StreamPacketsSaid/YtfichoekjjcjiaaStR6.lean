/-
  Walks of ref43: Send.
  Conditions: the slices of the end can be read, each has at most 2 to the power 40 bytes.
-/
import Derived.Test.YtfichoekjjcjiaaStR5
import Derived.BigRegion
namespace Go.Proofs.Ytfichoekjjcjiaa
open Go.RowKit
namespace Ref

/-- The boxes of Send. -/
structure BoxesS (w w2 : World) (l : Loc) (e : E) : Prop where
  only : Only Nil w w2
  b0 : Blk w2 w.heap.size 24 #[Value.slice l.Ao e.out.length l.co, .int .i64 e.base, .bool e.closed, .bool e.done, .slice l.Ai e.inn.length l.ci, .int .i64 e.next, .bool e.ended, .bool e.due]
  b1 : Blk w2 (w.heap.size + 1) 24 #[Value.slice none 0 0, .int .i64 0, .bool false, .bool false, .slice none 0 0, .int .i64 0, .bool false, .bool false]
  bp : Blk w2 (w.heap.size + 1 + 1) 26 #[.int .i64 0, .int .i64 0, .int .i64 0, .int .i64 0, .bool false, .slice none 0 0]
  size : w2.heap.size = w.heap.size + 3
theorem BoxesS.mk3 (w : World) (l : Loc) (e : E) : BoxesS w (((w.alloc (.cells (ecells l e).toArray 24)).alloc (.cells (ecells nowhere zE).toArray 24)).alloc (.cells (pcells none 0 zP).toArray 26)) l e :=
  ⟨(((Only.refl _ _).alloc _).alloc _).alloc _, ((Blk.new w _ _).alloc _).alloc _, by
    have := (Blk.new (w.alloc (.cells (ecells l e).toArray 24)) 24 (ecells nowhere zE).toArray).alloc (.cells (pcells none 0 zP).toArray 26)
    rw [World.size_alloc] at this
    exact this, by
    have := Blk.new ((w.alloc (.cells (ecells l e).toArray 24)).alloc (.cells (ecells nowhere zE).toArray 24)) 26 (pcells none 0 zP).toArray
    rw [World.size_alloc, World.size_alloc] at this
    exact this, by simp⟩

/-- The packet's value in the making. -/
def PAgg (base : Nat) (pair side seq ack : Int) (d : List UInt8) : VPred := fun v w => ∃ A c, v = .agg #[.int .i64 pair, .int .i64 side, .int .i64 seq, .int .i64 ack, .bool false, .slice A d.length c] ∧ d.length ≤ c ∧ w.ownsRow base 5 1 (.slice A d.length c) d.length (bcells d)
theorem Stays.pagg {base : Nat} {pair side seq ack : Int} {d : List UInt8} : Stays Nil (PAgg base pair side seq ack d) := fun _ _ _ hO h => by
  obtain ⟨A, c, h1, h2, h3⟩ := h
  exact ⟨A, c, h1, h2, own_onlyNil h3 hO⟩
def PZero (base : Nat) : VPred := fun v w => ∃ g, v = .pointer (some ⟨g, 0, none⟩) ∧ base ≤ g ∧ Blk w g 26 #[.int .i64 0, .int .i64 0, .int .i64 0, .int .i64 0, .bool false, .slice none 0 0]
theorem Stays.pzero {base : Nat} : Stays Nil (PZero base) := fun _ _ _ hO h => by
  obtain ⟨g, h1, h2, h3⟩ := h
  exact ⟨g, h1, h2, h3.onlyNil hO⟩

/-- Behind the making of the packet. -/
structure SMid (d : List UInt8) (pair side seq ack : Int) (fin : Bool) (g : Nat) (A : Option Addr) (c : Nat) (w2 wd : World) : Prop where
  box : Blk wd g 26 #[.int .i64 pair, .int .i64 side, .int .i64 seq, .int .i64 ack, .bool fin, .slice A d.length c]
  new : w2.heap.size ≤ g
  cap : d.length ≤ c
  own : wd.ownsRow w2.heap.size 5 1 (.slice A d.length c) d.length (bcells d)
  only : Only Nil w2 wd
theorem SMid.next {d : List UInt8} {pair side seq ack : Int} {fin : Bool} {g : Nat} {A : Option Addr} {c : Nat} {w2 wd wd' : World} (h : SMid d pair side seq ack fin g A c w2 wd) (hO : Only Nil wd wd') : SMid d pair side seq ack fin g A c w2 wd' :=
  ⟨h.box.onlyNil hO, h.new, h.cap, own_onlyNil h.own hO, h.only.thenNil hO⟩

set_option maxRecDepth 100000 in
set_option maxHeartbeats 4000000 in
theorem send_any (l : Loc) (e : E) (pair side : Int) (w : World) (h : EB w w.heap.size l e) (ho : e.out.length ≤ 1099511627776) (hi : e.inn.length ≤ 1099511627776) :
    Calls Try.prog 15 #[.agg (ecells l e).toArray, .int .i64 pair, .int .i64 side] w (SPost (sendE e pair side) w) := by
  obtain ⟨i0, hi0, hz0, hz1, hz2⟩ := info_parts byte_info
  obtain ⟨out, base, closed, done, inn, next, ended, due⟩ := e
  have hbx := BoxesS.mk3 w l ⟨out, base, closed, done, inn, next, ended, due⟩
  obtain ⟨w2, hw2⟩ : ∃ w2, w2 = ((w.alloc (.cells (ecells l ⟨out, base, closed, done, inn, next, ended, due⟩).toArray 24)).alloc (.cells (ecells nowhere zE).toArray 24)).alloc (.cells (pcells none 0 zP).toArray 26) := ⟨_, rfl⟩
  rw [← hw2] at hbx
  have hV := valid_any l ⟨out, base, closed, done, inn, next, ended, due⟩
  have hPV := fun A c fin d => pvalid_any A c ⟨pair, side, base, next, fin, d⟩
  have hC := copied_any l ⟨out, base, closed, done, inn, next, ended, due⟩
  unfold ecells pcells at hw2
  unfold ecells at hV hC ⊢
  unfold pcells at hPV
  unfold nowhere zE zP at hw2
  dsimp only [List.length_nil] at hw2 hV hC hPV ho hi ⊢
  have hOB : ∀ u, Only Nil w2 u → Rd u w.heap.size 1 l.Ao out.length (bcells out) := fun u hO => (h.out.onlyNil (hbx.only.thenNil hO) (Nat.le_refl _))
  have hErr : ∀ w1 w', Only Nil w2 w1 → Only (fun x => w.heap.size ≤ x) w1 w' → SPost (zE, zP, 1) w (.returned (.tuple #[.agg #[.slice none 0 0, .int .i64 0, .bool false, .bool false, .slice none 0 0, .int .i64 0, .bool false, .bool false],
      .agg #[.int .i64 0, .int .i64 0, .int .i64 0, .int .i64 0, .bool false, .slice none 0 0], .int .i64 1])) w' := fun w1 w' hO1 hO =>
    ⟨nowhere, none, 0, rfl, EB.zero _ _, PB.zero _ _, (hbx.only.thenNil hO1).trans hO (fun x hx => .inr hx)⟩
  obtain ⟨N, hN⟩ : ∃ N, min out.length 64 = N := ⟨_, rfl⟩
  obtain ⟨d, hd⟩ : ∃ d, d = out.take N := ⟨_, rfl⟩
  have hdN : d.length = N := by rw [hd, List.length_take]; omega
  have hd64 : d = out.take 64 := by rw [hd, List.take_eq_take_iff]; omega
  have hTB : ∀ u, Only Nil w2 u → Rd u w.heap.size 1 l.Ao d.length (bcells d) := fun u hO => by
    have := (hOB u hO).take (k := N) (by omega)
    rw [Nat.mul_one, bcells_take, ← hd] at this
    rw [hdN]
    exact this
  have hmin : (if (64 : Int) < (out.length : Int) then (64 : Int) else (out.length : Int)) = (d.length : Int) := by rw [hdN]; split <;> omega
  have hNi : (d.length : Int) ≤ l.co := by have := h.co; dsimp only at this; omega
  have HX := Lib.hid hbx
  have HB := Lib.hid h
  have HO := Lib.hid ho
  have HI := Lib.hid hi
  have HV := Lib.hid hV
  have HPV := Lib.hid hPV
  have HC := Lib.hid hC
  have HErr := Lib.hid hErr
  have HTB := Lib.hid hTB
  have HD := Lib.hid hd64
  have HDN := Lib.hid hdN
  have HNN := Lib.hid hN
  have hN64 : d.length ≤ 64 := by omega
  have HN64 := Lib.hid hN64
  have HMN := Lib.hid hmin
  have HNI := Lib.hid hNi
  clear hbx h ho hi hV hPV hC hErr hTB hOB hd hd64 hdN hN hN64 hmin hNi
  go_enter Try.func15, Try.ntmps15
  go_upto_region 1 with fail
  rw [← hw2]
  have HW2 := Lib.hid hw2
  clear hw2
  go_cut [9] (fun pv wd => ∃ g A c, pv = .pointer (some ⟨g, 0, none⟩) ∧ SMid d pair side base next false g A c w2 wd)
  case first =>
    have HIN : Hid (∀ (L : Nat → Bool) (vs : Nat → Value) (u u' : World), Only Nil u u' → (fun _ _ u => Only Nil w2 u) L vs u → (fun _ _ u => Only Nil w2 u) L vs u') := Lib.hid (fun L vs u u' hO hI => by
      exact hI.thenNil hO)
    refine wp_region_any (by kernel_rfl) ?_
    change wpAny _ _ _ _ _ _ _ (World.drew _)
    refine take_first (i := 0) (v := ?v0_3) (some 10) rfl (by rfl) (by kernel_rfl) (by kernel_rfl) (by kernel_rfl) (fun _ _ _ h => h) (Or.inl ⟨by rfl, ?hy0_3⟩) ?rest0_3
    case hy0_3 => (intro w; go_simp <;> with_reducible rfl)
    refine take_first (i := 1) (v := ?v1_3) (some 11) rfl (by rfl) (by kernel_rfl) (by kernel_rfl) (by kernel_rfl) (fun _ _ _ h => h) (Or.inl ⟨by rfl, ?hy1_3⟩) ?rest1_3
    case hy1_3 => (intro w; go_simp <;> with_reducible rfl)
    refine take_first (i := 2) (v := ?v2_3) (some 12) rfl (by rfl) (by kernel_rfl) (by kernel_rfl) (by kernel_rfl) (fun _ _ _ h => h) (Or.inl ⟨by rfl, ?hy2_3⟩) ?rest2_3
    case hy2_3 => (intro w; go_simp <;> with_reducible rfl)
    refine take_first (i := 4) (v := ?v4_3) (some 14) rfl (by rfl) (by kernel_rfl) (by kernel_rfl) (by kernel_rfl) (fun _ _ _ h => h) (Or.inl ⟨by rfl, ?hy4_3⟩) ?rest4_3
    case hy4_3 => (intro w; go_simp <;> with_reducible rfl)
    refine take_first (i := 7) (v := ?v7_3) (some 17) rfl (by rfl) (by kernel_rfl) (by kernel_rfl) (by kernel_rfl) (fun _ _ _ h => h) (Or.inl ⟨by rfl, ?hy7_3⟩) ?rest7_3
    case hy7_3 => (intro w; go_simp <;> with_reducible rfl)
    refine take_first (i := 9) (v := ?v9_3) (some 19) rfl (by rfl) (by kernel_rfl) (by kernel_rfl) (by kernel_rfl) (fun _ _ _ h => h) (Or.inl ⟨by rfl, ?hy9_3⟩) ?rest9_3
    case hy9_3 => (intro w; go_simp <;> with_reducible rfl)
    refine wpAny_inv2 (X := [(3, some 13, []), (5, some 15, []), (6, some 16, []), (8, some 18, []), (10, some 20, []), (11, some 21, [10]), (12, some 22, [11]), (13, some 23, [8, 12]), (14, some 24, [6, 13]), (15, some 25, [3, 5, 14]), (16, some 9, [])]) (n := 11) (g := 1) (m := 17) (l0 := [true, true, true, false, true, false, false, true, false, true, false, false, false, false, false, false, false, false]) (T := Nil) (Ps := [Any, Any, Any, Cst (.int .i64 base), Any, Cst (.int .i64 next), Emp 5 w2.heap.size, Any, Cst (.slice l.Ao out.length l.co), Any, Cst (.slice l.Ao out.length l.co), Cst (.int .i64 out.length), Cst (.int .i64 d.length), Cst (.slice l.Ao d.length l.co), OwnB 5 w2.heap.size d, PAgg w2.heap.size pair side base next d, PZero w2.heap.size])
      (I := fun _ _ u => Only Nil w2 u)
      (by kernel_rfl) rfl (by kernel_rfl) (by kernel_rfl) (by kernel_rfl) rfl ?h0_3 ?st_3 ?i0_3 ?step_3 ?fin_3
    case h0_3 =>
      intro j hj v u
      match j, hj with
      | 0, hj => trivial
      | 1, hj => trivial
      | 2, hj => trivial
      | 3, hj => exact absurd hj (by decide)
      | 4, hj => trivial
      | 5, hj => exact absurd hj (by decide)
      | 6, hj => exact absurd hj (by decide)
      | 7, hj => trivial
      | 8, hj => exact absurd hj (by decide)
      | 9, hj => trivial
      | 10, hj => exact absurd hj (by decide)
      | 11, hj => exact absurd hj (by decide)
      | 12, hj => exact absurd hj (by decide)
      | 13, hj => exact absurd hj (by decide)
      | 14, hj => exact absurd hj (by decide)
      | 15, hj => exact absurd hj (by decide)
      | 16, hj => exact absurd hj (by decide)
      | 17, hj => exact absurd hj (by decide)
      | n + 18, hj => exact absurd hj (by simp)
    case st_3 =>
      have hT : ∀ x, (Nil) x → x < w2.heap.size := fun x h => h.elim
      intro p hp
      simp only [List.mem_cons, List.not_mem_nil, or_false] at hp
      rcases hp with rfl | rfl | rfl | rfl | rfl | rfl | rfl | rfl | rfl | rfl | rfl | rfl | rfl | rfl | rfl | rfl | rfl <;> first | exact Stays.cst _ | exact Stays.own hT | exact Stays.emp hT | exact Stays.any | exact Stays.pagg | exact Stays.pzero
    case i0_3 =>
      intro vs
      exact (Only.refl _ _).drew
    case step_3 =>
      intro x hx L vs u hI hA h0 hd
      simp only [List.mem_cons, List.not_mem_nil, or_false] at hx
      rcases hx with rfl | rfl | rfl | rfl | rfl | rfl | rfl | rfl | rfl | rfl | rfl
      · refine inv_step _ (by rfl) (by rfl) (fun K' hK => ?_)
        simp only [putAll, Act.put, List.setIfInBounds_toArray, List.set_cons_succ, List.set_cons_zero] at hK ⊢
        have ks := fun i => (HX.out.b0.onlyNil hI).cell i
        go_simp
        exact hK _ _ ⟨Only.refl _ _, hI, rfl⟩
      · refine inv_step _ (by rfl) (by rfl) (fun K' hK => ?_)
        simp only [putAll, Act.put, List.setIfInBounds_toArray, List.set_cons_succ, List.set_cons_zero] at hK ⊢
        have ks := fun i => (HX.out.b0.onlyNil hI).cell i
        go_simp
        exact hK _ _ ⟨Only.refl _ _, hI, rfl⟩
      · refine inv_step _ (by rfl) (by rfl) (fun K' hK => ?_)
        simp only [putAll, Act.put, List.setIfInBounds_toArray, List.set_cons_succ, List.set_cons_zero] at hK ⊢
        go_simp
        exact hK _ _ ⟨(Only.refl _ _).alloc _, hI.alloc _, ⟨_, rfl, hI.size, Blk.new _ _ _⟩⟩
      · refine inv_step _ (by rfl) (by rfl) (fun K' hK => ?_)
        simp only [putAll, Act.put, List.setIfInBounds_toArray, List.set_cons_succ, List.set_cons_zero] at hK ⊢
        have ks := fun i => (HX.out.b0.onlyNil hI).cell i
        go_simp
        exact hK _ _ ⟨Only.refl _ _, hI, rfl⟩
      · refine inv_step _ (by rfl) (by rfl) (fun K' hK => ?_)
        simp only [putAll, Act.put, List.setIfInBounds_toArray, List.set_cons_succ, List.set_cons_zero] at hK ⊢
        have ks := fun i => (HX.out.b0.onlyNil hI).cell i
        go_simp
        exact hK _ _ ⟨Only.refl _ _, hI, rfl⟩
      · refine inv_step _ (by rfl) (by rfl) (fun K' hK => ?_)
        simp only [putAll, Act.put, List.setIfInBounds_toArray, List.set_cons_succ, List.set_cons_zero] at hK ⊢
        have e10 := hA 10 (hd 10 (by simp))
        change vs 10 = (.slice l.Ao out.length l.co) at e10
        simp only [e10] at hK
        go_simp
        exact hK _ _ ⟨Only.refl _ _, hI, rfl⟩
      · refine inv_step _ (by rfl) (by rfl) (fun K' hK => ?_)
        simp only [putAll, Act.put, List.setIfInBounds_toArray, List.set_cons_succ, List.set_cons_zero] at hK ⊢
        have e11 := hA 11 (hd 11 (by simp))
        change vs 11 = (.int .i64 out.length) at e11
        simp only [e11] at hK
        go_simp
        refine hK _ _ ⟨Only.refl _ _, hI, ?_⟩
        have hm := HMN.out
        show Value.int .i64 _ = Value.int .i64 _
        exact congrArg (Value.int .i64) hm
      · refine inv_step _ (by rfl) (by rfl) (fun K' hK => ?_)
        simp only [putAll, Act.put, List.setIfInBounds_toArray, List.set_cons_succ, List.set_cons_zero] at hK ⊢
        have e8 := hA 8 (hd 8 (by simp))
        change vs 8 = (.slice l.Ao out.length l.co) at e8
        have e12 := hA 12 (hd 12 (by simp))
        change vs 12 = (.int .i64 d.length) at e12
        simp only [e8, e12] at hK
        have hNi := HNI.out
        go_simp
        exact hK _ _ ⟨Only.refl _ _, hI, rfl⟩
      · refine inv_step _ (by rfl) (by rfl) (fun K' hK => ?_)
        simp only [putAll, Act.put, List.setIfInBounds_toArray, List.set_cons_succ, List.set_cons_zero] at hK
        have e13 := hA 13 (hd 13 (by simp))
        change vs 13 = (.slice l.Ao d.length l.co) at e13
        obtain ⟨g0, e6, hg0, hE0⟩ := hA 6 (hd 6 (by simp))
        refine step_append_new (by rfl) (.tmp 16) (.tmp 23) _ (by rfl) w2.heap.size 5 i0 (.int .u8 0) 1 1 Try.underlying22 hi0 hz0 hz1 hz2 rfl Nat.zero_lt_one g0 (by simp [Act.eval, putAll, Act.put, e6]) hE0 hg0 _ _ d.length _ (bcells d) (by simp [Act.eval, putAll, Act.put, e13] <;> rfl) (HTB.out _ hI) (bcells_one _) (by have := HN64.out; unfold maxLen; omega) (by have := HN64.out; omega) hI.size ?_
        intro A3 c3 u3 hc3 hown3 hO3 hat3
        simp only [putAll, Act.put, List.setIfInBounds_toArray, List.set_cons_succ, List.set_cons_zero]
        exact hK _ _ ⟨hO3, hI.thenNil hO3, ⟨A3, c3, rfl, hc3, hown3⟩⟩
      · refine inv_step _ (by rfl) (by rfl) (fun K' hK => ?_)
        simp only [putAll, Act.put, List.setIfInBounds_toArray, List.set_cons_succ, List.set_cons_zero] at hK ⊢
        have e3 := hA 3 (hd 3 (by simp))
        change vs 3 = (.int .i64 base) at e3
        have e5 := hA 5 (hd 5 (by simp))
        change vs 5 = (.int .i64 next) at e5
        simp only [e3, e5] at hK
        obtain ⟨A2, c2, e14, hc2, ho2⟩ := hA 14 (hd 14 (by simp))
        simp only [e14] at hK
        go_simp
        exact hK _ _ ⟨Only.refl _ _, hI, ⟨A2, c2, rfl, hc2, ho2⟩⟩
      · refine inv_step _ (by rfl) (by rfl) (fun K' hK => ?_)
        simp only [putAll, Act.put, List.setIfInBounds_toArray, List.set_cons_succ, List.set_cons_zero] at hK ⊢
        go_simp
        exact hK _ _ ⟨(Only.refl _ _).alloc _, hI.alloc _, ⟨_, rfl, hI.size, Blk.new _ _ _⟩⟩
    case fin_3 =>
      intro L vs u hI hL hA
      simp only [putAll, Act.put, List.setIfInBounds_toArray, List.set_cons_succ, List.set_cons_zero, List.drop_succ_cons, List.drop_zero]
      obtain ⟨A2, c2, e15, hc2, ho2⟩ := hA 15 (by omega)
      obtain ⟨g, e16, hg, hz⟩ := hA 16 (by omega)
      simp only [e15, e16]
      have kz : ∀ i, u.cell? ⟨g, i, none⟩ = #[Value.int .i64 0, .int .i64 0, .int .i64 0, .int .i64 0, .bool false, .slice none 0 0][i]? := fun i => hz.cell i
      have fz : ∀ i, u.frozen? ⟨g, i, none⟩ = false := fun i => hz.frozen i
      have HZ := Lib.hid hz
      have HI5 := Lib.hid hI
      have HOW5 := Lib.hid ho2
      have HC2 := Lib.hid hc2
      clear hA hL hz e15 e16 hI ho2 hc2
      go_wp2_with fail
      go_meet
      case rel =>
        have hR : ∀ u', Only (One g) u u' → Blk u' g 26 #[.int .i64 pair, .int .i64 side, .int .i64 base, .int .i64 next, .bool false, .slice A2 d.length c2] → SMid d pair side base next false g A2 c2 w2 u' := fun u' hS hb =>
          ⟨hb, hg, HC2.out, own_only HOW5.out hS (fun q hq hx => own_blk_ne HOW5.out HZ.out (by decide) (by rw [hq, hx])), HI5.out.trans hS (fun x hx => .inr (by unfold One at hx; omega))⟩
        refine ⟨g, A2, c2, rfl, hR _ ?_ ?_⟩
        · (repeat' (first | with_reducible exact Only.refl _ _ | with_reducible refine Only.setCell ?_ (Or.inl ?_) _ | with_reducible refine Only.drewN ?_ _ | with_reducible refine Only.drew ?_ | with_reducible refine Only.alloc ?_ _ | (exact rfl)))
        · exact (((((HZ.out.set_ 0 _).set_ 1 _).set_ 2 _).set_ 3 _).set_ 4 _).set_ 5 _
  case rest =>
    obtain ⟨g, A, c, rfl, hM⟩ := hcut
    have HM := Lib.hid hM
    have k0 : ∀ i, wc.cell? ⟨w.heap.size, i, none⟩ = #[Value.slice l.Ao out.length l.co, .int .i64 base, .bool closed, .bool done, .slice l.Ai inn.length l.ci, .int .i64 next, .bool ended, .bool due][i]? := fun i => (HX.out.b0.onlyNil hM.only).cell i
    have kp : ∀ i, wc.cell? ⟨g, i, none⟩ = #[Value.int .i64 pair, .int .i64 side, .int .i64 base, .int .i64 next, .bool false, .slice A d.length c][i]? := fun i => hM.box.cell i
    have fp : ∀ i, wc.frozen? ⟨g, i, none⟩ = false := fun i => hM.box.frozen i
    obtain ⟨F, hF⟩ : ∃ F, (closed && !done && decide (out.length ≤ 64)) = F := ⟨_, rfl⟩
    have HF := Lib.hid hF
    have hmid : ∀ u', Only (One g) wc u' → Blk u' g 26 #[.int .i64 pair, .int .i64 side, .int .i64 base, .int .i64 next, .bool F, .slice A d.length c] → SMid d pair side base next F g A c w2 u' := fun u' hS hb =>
      ⟨hb, HM.out.new, HM.out.cap, own_only HM.out.own hS (fun q hq hx => own_blk_ne HM.out.own HM.out.box (by decide) (by rw [hq, hx])), HM.out.only.trans hS (fun x hx => .inr (by have := HM.out.new; unfold One at hx; omega))⟩
    have HMID := Lib.hid hmid
    clear hM hF hmid
    go_upto_region 2 with fail
    go_cut [] (fun wd => SMid d pair side base next F g A c w2 wd)
    case first =>
      cases closed
      · have hF : F = false := by rw [← HF.out]; rfl
        have HFx := Lib.hid hF
        clear hF
        go_wp2_with fail
        go_meet
        case rel =>
          refine HMID.out _ ?_ ?_
          · (repeat' (first | with_reducible exact Only.refl _ _ | with_reducible refine Only.setCell ?_ (Or.inl ?_) _ | with_reducible refine Only.drewN ?_ _ | with_reducible refine Only.drew ?_ | with_reducible refine Only.alloc ?_ _ | (exact rfl)))
          · rw [HFx.out]; exact HM.out.box.set_ 4 _
      cases done
      rotate_left
      · have hF : F = false := by rw [← HF.out]; rfl
        have HFx := Lib.hid hF
        clear hF
        go_wp2_with fail
        go_meet
        case rel =>
          refine HMID.out _ ?_ ?_
          · (repeat' (first | with_reducible exact Only.refl _ _ | with_reducible refine Only.setCell ?_ (Or.inl ?_) _ | with_reducible refine Only.drewN ?_ _ | with_reducible refine Only.drew ?_ | with_reducible refine Only.alloc ?_ _ | (exact rfl)))
          · rw [HFx.out]; exact HM.out.box.set_ 4 _
      have hF : F = ((d.length : Int) == (out.length : Int)) := by
        rw [← HF.out]
        show decide (out.length ≤ 64) = decide ((d.length : Int) = (out.length : Int))
        rw [decide_eq_decide]
        have := HDN.out
        have := HNN.out
        omega
      have HFx := Lib.hid hF
      clear hF
      go_wp2_with fail
      go_meet
      case rel =>
        refine HMID.out _ ?_ ?_
        · (repeat' (first | with_reducible exact Only.refl _ _ | with_reducible refine Only.setCell ?_ (Or.inl ?_) _ | with_reducible refine Only.drewN ?_ _ | with_reducible refine Only.drew ?_ | with_reducible refine Only.alloc ?_ _ | (exact rfl)))
        · rw [HFx.out]; exact HM.out.box.set_ 4 _
    case rest =>
      have hM := hcut
      have HM3 := Lib.hid hM
      clear hcut k0 kp fp
      have k0 : ∀ i, wc.cell? ⟨w.heap.size, i, none⟩ = #[Value.slice l.Ao out.length l.co, .int .i64 base, .bool closed, .bool done, .slice l.Ai inn.length l.ci, .int .i64 next, .bool ended, .bool due][i]? := fun i => (HX.out.b0.onlyNil hM.only).cell i
      clear hM
      by_cases hv : VE ⟨out, base, closed, done, inn, next, ended, due⟩
      rotate_left
      · have hr : sendE ⟨out, base, closed, done, inn, next, ended, due⟩ pair side = (zE, zP, 1) := by unfold sendE; rw [if_pos (fun h => hv h.1)]
        have HR := Lib.hid hr
        have hV := HV.out
        rw [decide_eq_false hv] at hV
        have HV' := Lib.hid hV
        clear hV hr
        go_wp2_with fail
        refine (HV'.out _).mono ?_
        rintro x w4 ⟨rfl, hO4⟩
        have hO24 := HM3.out.only.thenNil hO4
        have k1 : ∀ i, w4.cell? ⟨w.heap.size + 1, i, none⟩ = #[Value.slice none 0 0, .int .i64 0, .bool false, .bool false, .slice none 0 0, .int .i64 0, .bool false, .bool false][i]? := fun i => (HX.out.b1.onlyNil hO24).cell i
        have f1 : ∀ i, w4.frozen? ⟨w.heap.size + 1, i, none⟩ = false := fun i => (HX.out.b1.onlyNil hO24).frozen i
        have kp : ∀ i, w4.cell? ⟨w.heap.size + 1 + 1, i, none⟩ = #[Value.int .i64 0, .int .i64 0, .int .i64 0, .int .i64 0, .bool false, .slice none 0 0][i]? := fun i => (HX.out.bp.onlyNil hO24).cell i
        have fp : ∀ i, w4.frozen? ⟨w.heap.size + 1 + 1, i, none⟩ = false := fun i => (HX.out.bp.onlyNil hO24).frozen i
        have HO24 := Lib.hid hO24
        clear hO4 hO24 k0
        go_wp2_with fail
        refine bodyPost_ret (v := .tuple #[.agg #[.slice none 0 0, .int .i64 0, .bool false, .bool false, .slice none 0 0, .int .i64 0, .bool false, .bool false], .agg #[.int .i64 0, .int .i64 0, .int .i64 0, .int .i64 0, .bool false, .slice none 0 0], .int .i64 1]) (by simp [results, Try.results15, go_sem, k1, kp]) rfl ?_
        rw [HR.out]
        refine HErr.out _ _ HO24.out ?_
        (repeat' (first | with_reducible exact Only.refl _ _ | with_reducible refine Only.setCell ?_ (Or.inl ?_) _ | with_reducible refine Only.drewN ?_ _ | with_reducible refine Only.drew ?_ | with_reducible refine Only.alloc ?_ _ | (show w.heap.size ≤ _; dsimp only; omega)))
      have hV := HV.out
      rw [decide_eq_true hv] at hV
      have HV' := Lib.hid hV
      clear hV
      have hvpe : VP ⟨pair, side, base, next, F, d⟩ ↔ VP ⟨pair, side, 0, 0, false, []⟩ := by
        have h3 := hv.2.2.1
        have h4 := hv.2.2.2.1
        have h5 := HN64.out
        unfold VP
        dsimp only [List.length_nil] at h3 h4 ⊢
        constructor
        · rintro ⟨h1, h2, _⟩
          exact ⟨h1, h2, ⟨by omega, by omega⟩, ⟨by omega, by omega⟩, by omega⟩
        · rintro ⟨h1, h2, _⟩
          exact ⟨h1, h2, ⟨by omega, by omega⟩, ⟨by omega, by omega⟩, h5⟩
      go_wp2_with fail
      refine (HV'.out _).mono ?_
      rintro x w4 ⟨rfl, hO4⟩
      have hM4 := HM3.out.next hO4
      have kp : ∀ i, w4.cell? ⟨g, i, none⟩ = #[Value.int .i64 pair, .int .i64 side, .int .i64 base, .int .i64 next, .bool F, .slice A d.length c][i]? := fun i => hM4.box.cell i
      have HM4 := Lib.hid hM4
      clear hM4 hO4 k0
      go_wp2_with fail
      refine (HPV.out A c F d _).mono ?_
      rintro x w5 ⟨rfl, hO5⟩
      have hM5 := HM4.out.next hO5
      have HM5 := Lib.hid hM5
      have k05 : ∀ i, w5.cell? ⟨w.heap.size, i, none⟩ = #[Value.slice l.Ao out.length l.co, .int .i64 base, .bool closed, .bool done, .slice l.Ai inn.length l.ci, .int .i64 next, .bool ended, .bool due][i]? := fun i => (HX.out.b0.onlyNil hM5.only).cell i
      have f05 : ∀ i, w5.frozen? ⟨w.heap.size, i, none⟩ = false := fun i => (HX.out.b0.onlyNil hM5.only).frozen i
      clear hM5 hO5 kp
      by_cases hvp : VP ⟨pair, side, base, next, F, d⟩
      rotate_left
      · have hr : sendE ⟨out, base, closed, done, inn, next, ended, due⟩ pair side = (zE, zP, 1) := by unfold sendE; rw [if_pos (fun h => hvp (hvpe.2 h.2))]
        have HR := Lib.hid hr
        rw [decide_eq_false hvp]
        clear hr hvpe
        have hO24 := HM5.out.only
        have k1 : ∀ i, w5.cell? ⟨w.heap.size + 1, i, none⟩ = #[Value.slice none 0 0, .int .i64 0, .bool false, .bool false, .slice none 0 0, .int .i64 0, .bool false, .bool false][i]? := fun i => (HX.out.b1.onlyNil hO24).cell i
        have f1 : ∀ i, w5.frozen? ⟨w.heap.size + 1, i, none⟩ = false := fun i => (HX.out.b1.onlyNil hO24).frozen i
        have kp : ∀ i, w5.cell? ⟨w.heap.size + 1 + 1, i, none⟩ = #[Value.int .i64 0, .int .i64 0, .int .i64 0, .int .i64 0, .bool false, .slice none 0 0][i]? := fun i => (HX.out.bp.onlyNil hO24).cell i
        have fp : ∀ i, w5.frozen? ⟨w.heap.size + 1 + 1, i, none⟩ = false := fun i => (HX.out.bp.onlyNil hO24).frozen i
        clear hO24 k05 f05 hvp hv
        go_wp2_with fail
        refine bodyPost_ret (v := .tuple #[.agg #[.slice none 0 0, .int .i64 0, .bool false, .bool false, .slice none 0 0, .int .i64 0, .bool false, .bool false], .agg #[.int .i64 0, .int .i64 0, .int .i64 0, .int .i64 0, .bool false, .slice none 0 0], .int .i64 1]) (by simp [results, Try.results15, go_sem, k1, kp]) rfl ?_
        rw [HR.out]
        refine HErr.out _ _ HM5.out.only ?_
        (repeat' (first | with_reducible exact Only.refl _ _ | with_reducible refine Only.setCell ?_ (Or.inl ?_) _ | with_reducible refine Only.drewN ?_ _ | with_reducible refine Only.drew ?_ | with_reducible refine Only.alloc ?_ _ | (show w.heap.size ≤ _; dsimp only; omega)))
      have hr : sendE ⟨out, base, closed, done, inn, next, ended, due⟩ pair side = (⟨out, base, closed, done, inn, next, ended, false⟩, ⟨pair, side, base, next, F, d⟩, 0) := by
        unfold sendE
        rw [if_neg (fun h => h ⟨hv, hvpe.1 hvp⟩), HD.out, HF.out]
      have HR := Lib.hid hr
      rw [decide_eq_true hvp]
      clear hr hvpe hvp hv
      go_upto_region 5 with fail
      go_cut [] (fun wd => ∃ l3 : Loc, CMid l3 ⟨out, base, closed, done, inn, next, ended, due⟩ w wd ∧ Blk wd (w.heap.size + 1) 24 (ecells nowhere zE).toArray ∧ Blk wd (w.heap.size + 1 + 1) 26 (pcells none 0 zP).toArray ∧
        Blk wd g 26 #[.int .i64 pair, .int .i64 side, .int .i64 base, .int .i64 next, .bool F, .slice A d.length c] ∧ wd.ownsRow w.heap.size 5 1 (.slice A d.length c) d.length (bcells d))
      case first =>
        go_wp2_with fail
        refine (HC.out _ (HB.out.next (HX.out.only.thenNil HM5.out.only)) HO.out HI.out).mono ?_
        rintro x w6 ⟨l3, rfl, hco, hci, hown1, hown2, hsep, hO6⟩
        have hM6 := HM5.out.next hO6
        have hO26 := HM5.out.only.thenNil hO6
        have k06 : ∀ i, w6.cell? ⟨w.heap.size, i, none⟩ = #[Value.slice l.Ao out.length l.co, .int .i64 base, .bool closed, .bool done, .slice l.Ai inn.length l.ci, .int .i64 next, .bool ended, .bool due][i]? := fun i => (HX.out.b0.onlyNil hO26).cell i
        have f06 : ∀ i, w6.frozen? ⟨w.heap.size, i, none⟩ = false := fun i => (HX.out.b0.onlyNil hO26).frozen i
        have hG := hM6.new
        rw [HX.out.size] at hG
        have hcm := CMid.of_store (HX.out.only.thenNil HM5.out.only) (HX.out.b0.onlyNil HM5.out.only) rfl hco hci hown1 hown2 hO6
        have hc1 := CMid.far (w := w) (HX.out.b1.onlyNil hO26) (by omega) (.slice l3.Ao out.length l3.co) (.int .i64 base) (.bool closed) (.bool done) (.slice l3.Ai inn.length l3.ci) (.int .i64 next) (.bool ended) (.bool due)
        have hcp := CMid.far (w := w) (HX.out.bp.onlyNil hO26) (by omega) (.slice l3.Ao out.length l3.co) (.int .i64 base) (.bool closed) (.bool done) (.slice l3.Ai inn.length l3.ci) (.int .i64 next) (.bool ended) (.bool due)
        have hcg := CMid.far (w := w) hM6.box (by omega) (.slice l3.Ao out.length l3.co) (.int .i64 base) (.bool closed) (.bool done) (.slice l3.Ai inn.length l3.ci) (.int .i64 next) (.bool ended) (.bool due)
        have hB0 := HX.out.b0.onlyNil hO26
        have hown := fun u' hS => own_base (own_only (S := One w.heap.size) (w' := u') hM6.own hS (fun q hq hx => own_blk_ne hM6.own hB0 (by decide) (by rw [hq, hx]))) (base' := w.heap.size) HX.out.only.size
        have HR := Lib.hid (And.intro hcm (And.intro hc1 (And.intro hcp hcg)))
        have HOWN := Lib.hid hown
        clear hcm hc1 hcp hcg hown hM6 hO26 hO6 hown1 hown2 hsep hB0 hG hco hci
        go_wp2_with fail
        go_meet
        case rel =>
          refine ⟨l3, HR.out.1, HR.out.2.1, HR.out.2.2.1, HR.out.2.2.2, HOWN.out _ ?_⟩
          (repeat' (first | with_reducible exact Only.refl _ _ | with_reducible refine Only.setCell ?_ (Or.inl ?_) _ | with_reducible refine Only.drewN ?_ _ | with_reducible refine Only.drew ?_ | with_reducible refine Only.alloc ?_ _ | (exact rfl)))
      case rest =>
        obtain ⟨l3, hM6, hb1, hbp, hbg, hown⟩ := hcut
        have HM6 := Lib.hid hM6
        have HB1 := Lib.hid hb1
        have HBP := Lib.hid hbp
        have HBG := Lib.hid hbg
        have HOWN := Lib.hid hown
        have k6 : ∀ i, wc.cell? ⟨w.heap.size, i, none⟩ = #[Value.slice l3.Ao out.length l3.co, .int .i64 base, .bool closed, .bool done, .slice l3.Ai inn.length l3.ci, .int .i64 next, .bool ended, .bool due][i]? := fun i => hM6.b0.cell i
        have f6 : ∀ i, wc.frozen? ⟨w.heap.size, i, none⟩ = false := fun i => hM6.b0.frozen i
        have hG := HM5.out.new
        rw [HX.out.size] at hG
        have HG := Lib.hid hG
        clear hM6 hb1 hbp hbg hown k05 f05 hG
        go_upto_region 6 with fail
        go_cut [] (fun wd => CMid l3 ⟨out, base, closed, done, inn, next, ended, false⟩ w wd ∧ Blk wd (w.heap.size + 1) 24 (ecells nowhere zE).toArray ∧ Blk wd (w.heap.size + 1 + 1) 26 (pcells none 0 zP).toArray ∧
          Blk wd g 26 #[.int .i64 pair, .int .i64 side, .int .i64 base, .int .i64 next, .bool F, .slice A d.length c] ∧ wd.ownsRow w.heap.size 5 1 (.slice A d.length c) d.length (bcells d))
        case first =>
          have hg : Hid (∀ u', Only (One w.heap.size) wc u' → Blk u' w.heap.size 24 #[Value.slice l3.Ao out.length l3.co, .int .i64 base, .bool closed, .bool done, .slice l3.Ai inn.length l3.ci, .int .i64 next, .bool ended, .bool false] → CMid l3 ⟨out, base, closed, done, inn, next, ended, false⟩ w u' ∧ Blk u' (w.heap.size + 1) 24 (ecells nowhere zE).toArray ∧ Blk u' (w.heap.size + 1 + 1) 26 (pcells none 0 zP).toArray ∧
            Blk u' g 26 #[.int .i64 pair, .int .i64 side, .int .i64 base, .int .i64 next, .bool F, .slice A d.length c] ∧ u'.ownsRow w.heap.size 5 1 (.slice A d.length c) d.length (bcells d)) := Lib.hid (fun u' hS hb => by
              have hM6 := HM6.out
              refine ⟨⟨hb, hM6.co, hM6.ci, own_only hM6.out hS (fun q hq hx => own_blk_ne hM6.out hM6.b0 (by decide) (by rw [hq, hx])), own_only hM6.inn hS (fun q hq hx => own_blk_ne hM6.inn hM6.b0 (by decide) (by rw [hq, hx])), hM6.only.trans hS (fun x hx => .inr (Nat.le_of_eq hx.symm))⟩, ?_, ?_, ?_, own_only HOWN.out hS (fun q hq hx => own_blk_ne HOWN.out hM6.b0 (by decide) (by rw [hq, hx]))⟩
              · exact HB1.out.only hS (by unfold One; omega)
              · exact HBP.out.only hS (by unfold One; omega)
              · have := HG.out
                exact HBG.out.only hS (by unfold One; omega))
          go_wp2_with fail
          go_meet
          case rel =>
            refine hg.out _ ?_ ?_
            · (repeat' (first | with_reducible exact Only.refl _ _ | with_reducible refine Only.setCell ?_ (Or.inl ?_) _ | with_reducible refine Only.drewN ?_ _ | with_reducible refine Only.drew ?_ | with_reducible refine Only.alloc ?_ _ | (exact rfl)))
            · exact HM6.out.b0.set_ 7 _
        case rest =>
          obtain ⟨hM7, hd1, hdp, hdg, hdo⟩ := hcut
          have q0 : ∀ i, wc.cell? ⟨w.heap.size, i, none⟩ = #[Value.slice l3.Ao out.length l3.co, .int .i64 base, .bool closed, .bool done, .slice l3.Ai inn.length l3.ci, .int .i64 next, .bool ended, .bool false][i]? := fun i => hM7.b0.cell i
          have q1 : ∀ i, wc.cell? ⟨w.heap.size + 1, i, none⟩ = #[Value.slice none 0 0, .int .i64 0, .bool false, .bool false, .slice none 0 0, .int .i64 0, .bool false, .bool false][i]? := fun i => hd1.cell i
          have g1 : ∀ i, wc.frozen? ⟨w.heap.size + 1, i, none⟩ = false := fun i => hd1.frozen i
          have qp : ∀ i, wc.cell? ⟨w.heap.size + 1 + 1, i, none⟩ = #[Value.int .i64 0, .int .i64 0, .int .i64 0, .int .i64 0, .bool false, .slice none 0 0][i]? := fun i => hdp.cell i
          have gp : ∀ i, wc.frozen? ⟨w.heap.size + 1 + 1, i, none⟩ = false := fun i => hdp.frozen i
          have qg : ∀ i, wc.cell? ⟨g, i, none⟩ = #[Value.int .i64 pair, .int .i64 side, .int .i64 base, .int .i64 next, .bool F, .slice A d.length c][i]? := fun i => hdg.cell i
          have hE : ∀ w', Only (fun x => x = w.heap.size + 1 ∨ x = w.heap.size + 1 + 1) wc w' → SPost (⟨out, base, closed, done, inn, next, ended, false⟩, ⟨pair, side, base, next, F, d⟩, 0) w (.returned (.tuple #[.agg #[.slice l3.Ao out.length l3.co, .int .i64 base, .bool closed, .bool done, .slice l3.Ai inn.length l3.ci, .int .i64 next, .bool ended, .bool false], .agg #[.int .i64 pair, .int .i64 side, .int .i64 base, .int .i64 next, .bool F, .slice A d.length c], .int .i64 0])) w' := by
            intro w' hO
            obtain ⟨h1, h2, h3⟩ := hM7.fin hO (fun x hx => by
              rcases hx with rfl | rfl
              · exact ⟨by omega, _, _, hd1, by decide⟩
              · exact ⟨by omega, _, _, hdp, by decide⟩)
            have ho' := own_only hdo hO (fun q hq hx => by
              rcases hx with hx | hx
              · exact own_blk_ne hdo hd1 (by decide) (by rw [hq, hx])
              · exact own_blk_ne hdo hdp (by decide) (by rw [hq, hx]))
            exact ⟨l3, A, c, rfl, ⟨h1, h2, hM7.co, hM7.ci⟩, ⟨(Bs.of_own ho').1, HM5.out.cap⟩, h3⟩
          have HE := Lib.hid hE
          have hgne : g ≠ w.heap.size + 1 ∧ g ≠ w.heap.size + 1 + 1 := by have := HG.out; omega
          obtain ⟨hg1, hg2⟩ := hgne
          clear hM7 hd1 hdp hdg hdo hE k6 f6
          go_upto_region 7 with fail
          go_region
          all_goals
            go_wp2_with fail
            refine bodyPost_ret (v := .tuple #[.agg #[.slice l3.Ao out.length l3.co, .int .i64 base, .bool closed, .bool done, .slice l3.Ai inn.length l3.ci, .int .i64 next, .bool ended, .bool false], .agg #[.int .i64 pair, .int .i64 side, .int .i64 base, .int .i64 next, .bool F, .slice A d.length c], .int .i64 0]) (by simp [results, Try.results15, go_sem, q1, qp]) rfl ?_
            rw [HR.out]
            refine HE.out _ ?_
            (repeat' (first | with_reducible exact Only.refl _ _ | with_reducible refine Only.setCell ?_ (Or.inl ?_) _ | with_reducible refine Only.drewN ?_ _ | with_reducible refine Only.drew ?_ | with_reducible refine Only.alloc ?_ _ | (first | exact .inl rfl | exact .inr rfl)))

end Ref
end Go.Proofs.Ytfichoekjjcjiaa
