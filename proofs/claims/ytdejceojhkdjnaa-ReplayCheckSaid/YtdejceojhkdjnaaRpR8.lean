/-
  Walks of ratoonref54.SameCalls, ratoonlaw54.calls.
  Conditions: the calls can be read.
-/
import Derived.Test.YtdejceojhkdjnaaRpR7
namespace Go.Proofs.Ytdejceojhkdjnaa
open Go.RowKit

/-- A list of calls that can be read. -/
structure CS (w : World) (A : Option Addr) (rs : List CR) : Prop where
  rd : Rd w w.heap.size 11 A rs.length (rs.flatMap CR.cells)
  data : ∀ r ∈ rs, Bs w w.heap.size r.Ad r.x.data ∧ Bs w w.heap.size r.Ar r.x.reply
theorem CS.onlyNil {w w' : World} {A : Option Addr} {rs : List CR} (h : CS w A rs) (hO : Only Nil w w') : CS w' A rs :=
  ⟨Rd.more (Rd.onlyNil h.rd hO (Nat.le_refl _)) hO.size, fun r hr => ⟨((h.data r hr).1.onlyNil hO (Nat.le_refl _)).up hO.size, ((h.data r hr).2.onlyNil hO (Nat.le_refl _)).up hO.size⟩⟩
theorem RRow.cs {w : World} {base : Nat} {A : Option Addr} {c : Nat} {rs : List CR} (h : RRow w base A c rs) : CS w A rs :=
  ⟨Rd.of_own h.row, fun r hr => ⟨(Bs.of_own (h.data r hr).1).1, (Bs.of_own (h.data r hr).2).1⟩⟩
/-- The cells of a call with the parts x. -/
def ccells (x : Cl) (Ad : Option Addr) (cd : Nat) (Ar : Option Addr) (cr : Nat) : Array Value :=
  #[.int .i64 x.task, .int .i64 x.number, .int .i64 x.a0, .int .i64 x.a1, .int .i64 x.a2, .slice Ad x.data.length cd, .bool x.done, .int .i64 x.result, .slice Ar x.reply.length cr, .int .i64 x.beg, .int .i64 x.fin]
def zcells : Array Value := #[.int .i64 0, .int .i64 0, .int .i64 0, .int .i64 0, .int .i64 0, .slice none 0 0, .bool false, .int .i64 0, .slice none 0 0, .int .i64 0, .int .i64 0]

/-- What is known while 'x, y := a[i], b[i]' runs, in whatever order: which boxes there are, and what they hold. -/
structure XY (w0 : World) (C : Array Value) (L : Nat → Bool) (vs : Nat → Value) (u : World) : Prop where
  only : Only Nil w0 u
  x : L 8 = true → ∃ g, vs 8 = .pointer (some ⟨g, 0, none⟩) ∧ w0.heap.size ≤ g ∧ Blk u g 61 (if L 10 = true then C else zcells)
  y : L 9 = true → ∃ g, vs 9 = .pointer (some ⟨g, 0, none⟩) ∧ w0.heap.size ≤ g ∧ Blk u g 61 zcells ∧ (L 8 = true → vs 8 ≠ .pointer (some ⟨g, 0, none⟩))
  l : L 8 = false → L 10 = false
theorem XY.nil {w0 : World} {C : Array Value} {L : Nat → Bool} {vs : Nat → Value} {u u' : World} (h : XY w0 C L vs u) (hO : Only Nil u u') : XY w0 C L vs u' :=
  ⟨h.only.thenNil hO, fun h8 => by obtain ⟨g, h1, h2, h3⟩ := h.x h8; exact ⟨g, h1, h2, h3.onlyNil hO⟩, fun h9 => by obtain ⟨g, h1, h2, h3, h4⟩ := h.y h9; exact ⟨g, h1, h2, h3.onlyNil hO, h4⟩, h.l⟩
theorem XY.other {w0 : World} {C : Array Value} {L : Nat → Bool} {vs : Nat → Value} {u u' : World} (h : XY w0 C L vs u) (hO : Only Nil u u') {i : Nat} (v : Value) (h8 : i ≠ 8) (h9 : i ≠ 9) (h10 : i ≠ 10) : XY w0 C (upd L i true) (upd vs i v) u' := by
  have h := h.nil hO
  have e8 : ∀ {α : Type} (f : Nat → α) (b : α), upd f i b 8 = f 8 := fun f b => by unfold upd; rw [if_neg (Ne.symm h8)]
  have e9 : ∀ {α : Type} (f : Nat → α) (b : α), upd f i b 9 = f 9 := fun f b => by unfold upd; rw [if_neg (Ne.symm h9)]
  have e10 : ∀ {α : Type} (f : Nat → α) (b : α), upd f i b 10 = f 10 := fun f b => by unfold upd; rw [if_neg (Ne.symm h10)]
  refine ⟨h.only, ?_, ?_, ?_⟩
  · rw [e8, e8, e10]; exact h.x
  · rw [e9, e9, e8, e8]; exact h.y
  · rw [e8, e10]; exact h.l
theorem XY.new8 {w0 : World} {C : Array Value} {L : Nat → Bool} {vs : Nat → Value} {u : World} (h : XY w0 C L vs u) (h8 : L 8 = false) : XY w0 C (upd L 8 true) (upd vs 8 (.pointer (some ⟨u.heap.size, 0, none⟩))) (u.alloc (.cells zcells 61)) := by
  have hO : Only Nil u (u.alloc (.cells zcells 61)) := (Only.refl _ _).alloc _
  refine ⟨h.only.thenNil hO, fun _ => ⟨u.heap.size, by simp [upd], h.only.size, ?_⟩, fun h9 => ?_, fun h => by simp [upd] at h⟩
  · have : upd L 8 true 10 = false := by simp only [upd]; exact h.l h8
    rw [this]
    exact Blk.new _ _ _
  · have h9' : L 9 = true := by simpa [upd] using h9
    obtain ⟨g, h1, h2, h3, _⟩ := h.y h9'
    refine ⟨g, by simpa [upd] using h1, h2, h3.onlyNil hO, fun _ => ?_⟩
    have := h3.lt
    simp only [upd, if_true]
    intro e
    injection e with e
    injection e with e
    injection e with e
    omega
theorem XY.new9 {w0 : World} {C : Array Value} {L : Nat → Bool} {vs : Nat → Value} {u : World} (h : XY w0 C L vs u) : XY w0 C (upd L 9 true) (upd vs 9 (.pointer (some ⟨u.heap.size, 0, none⟩))) (u.alloc (.cells zcells 61)) := by
  have hO : Only Nil u (u.alloc (.cells zcells 61)) := (Only.refl _ _).alloc _
  refine ⟨h.only.thenNil hO, fun h8 => ?_, fun _ => ⟨u.heap.size, by simp [upd], h.only.size, Blk.new _ _ _, fun h8 => ?_⟩, fun h8 => ?_⟩
  · have h8' : L 8 = true := by simpa [upd] using h8
    obtain ⟨g, h1, h2, h3⟩ := h.x h8'
    refine ⟨g, by simpa [upd] using h1, h2, ?_⟩
    have : upd L 9 true 10 = L 10 := by simp [upd]
    rw [this]
    exact h3.onlyNil hO
  · have h8' : L 8 = true := by simpa [upd] using h8
    obtain ⟨g, h1, h2, h3⟩ := h.x h8'
    have := h3.lt
    have e8 : upd vs 9 (.pointer (some ⟨u.heap.size, 0, none⟩)) 8 = vs 8 := by simp [upd]
    rw [e8, h1]
    intro e
    injection e with e
    injection e with e
    injection e with e
    omega
  · have h8' : L 8 = false := by simpa [upd] using h8
    have := h.l h8'
    simpa [upd] using this

theorem XY.put {w0 : World} {C : Array Value} {L : Nat → Bool} {vs : Nat → Value} {u u' : World} (h : XY w0 C L vs u) {g : Nat} (e8 : vs 8 = .pointer (some ⟨g, 0, none⟩)) (hg : w0.heap.size ≤ g) (_h10 : L 10 = false) (h8 : L 8 = true) (hO : Only (One g) u u') (hb : Blk u' g 61 C) (v : Value) :
    XY w0 C (upd L 10 true) (upd vs 10 v) u' := by
  refine ⟨h.only.trans hO (fun x hx => .inr (by unfold One at hx; omega)), fun _ => ⟨g, by simpa [upd] using e8, hg, ?_⟩, fun h9 => ?_, fun h => ?_⟩
  · have : upd L 10 true 10 = true := by simp [upd]
    rw [if_pos this]
    exact hb
  · have h9' : L 9 = true := by simpa [upd] using h9
    obtain ⟨g9, h1, h2, h3, h4⟩ := h.y h9'
    have hne := h4 h8
    refine ⟨g9, by simpa [upd] using h1, h2, h3.only hO (fun hx => ?_), fun _ => by simpa [upd] using hne⟩
    unfold One at hx
    rw [e8, hx] at hne
    exact hne rfl
  · have : L 8 = false := by simpa [upd] using h
    rw [h8] at this
    cases this

theorem put11_blk2 {w : World} {g : Nat} {task call a0 a1 a2 : Int} {A : Option Addr} {n c : Nat} {d : Bool} {res : Int} {A' : Option Addr} {n' c' : Nat} {k E : Int} (h : Blk w g 61 zcells) :
    Blk (((((((((((w.setCell ⟨g, 0, none⟩ (.int .i64 task)).setCell ⟨g, 1, none⟩ (.int .i64 call)).setCell ⟨g, 2, none⟩ (.int .i64 a0)).setCell ⟨g, 3, none⟩ (.int .i64 a1)).setCell ⟨g, 4, none⟩ (.int .i64 a2)).setCell ⟨g, 5, none⟩ (.slice A n c)).setCell ⟨g, 6, none⟩ (.bool d)).setCell ⟨g, 7, none⟩ (.int .i64 res)).setCell ⟨g, 8, none⟩ (.slice A' n' c')).setCell ⟨g, 9, none⟩ (.int .i64 k)).setCell ⟨g, 10, none⟩ (.int .i64 E)) g 61
      #[.int .i64 task, .int .i64 call, .int .i64 a0, .int .i64 a1, .int .i64 a2, .slice A n c, .bool d, .int .i64 res, .slice A' n' c', .int .i64 k, .int .i64 E] := by
  have := ((((((((((h.set_ 0 (.int .i64 task)).set_ 1 (.int .i64 call)).set_ 2 (.int .i64 a0)).set_ 3 (.int .i64 a1)).set_ 4 (.int .i64 a2)).set_ 5 (.slice A n c)).set_ 6 (.bool d)).set_ 7 (.int .i64 res)).set_ 8 (.slice A' n' c')).set_ 9 (.int .i64 k)).set_ 10 (.int .i64 E)
  simp only [zcells, List.setIfInBounds_toArray, List.set_cons_succ, List.set_cons_zero] at this
  exact this

set_option maxRecDepth 100000 in
set_option maxHeartbeats 4000000 in
theorem Ref.same_calls (A B : Option Addr) (ca cb : Nat) (rs qs : List CR) (w : World) (ha : CS w A rs) (hb : CS w B qs) (hx : rs.map CR.x = qs.map CR.x) (hl : rs.length ≤ 1099511627776) :
    Calls Try.prog 14 #[.slice A rs.length ca, .slice B qs.length cb] w fun e w' => e = .returned (.bool true) ∧ Only Nil w w' := by
  obtain ⟨M, hM⟩ : ∃ M, rs.length = M := ⟨_, rfl⟩
  have hq : qs.length = M := by have := congrArg List.length hx; rw [List.length_map, List.length_map, hM] at this; exact this.symm
  have HA := Lib.hid ha
  have HB := Lib.hid hb
  have HX := Lib.hid hx
  rw [hM] at hl
  have HM := Lib.hid hM
  have HQ := Lib.hid hq
  rw [hM, hq]
  clear ha hb hx hM hq
  go_enter Try.func14, Try.ntmps14
  go_wp2_with fail
  go_loopw [5] (fun i wr => ∃ k : Nat, k ≤ M ∧ i = .int .i64 k ∧ Only Nil w wr) (fun i _ => M - (intOf i).toNat)
  case atStart => exact ⟨0, Nat.zero_le _, rfl, Only.refl _ _⟩
  case round =>
    obtain ⟨k, hk, rfl, hO⟩ := hrel
    have HO := Lib.hid hO
    clear hO
    by_cases hlt : k < M
    · obtain ⟨r, hr⟩ : ∃ r, rs[k]? = some r := ⟨rs[k]'(by rw [HM.out]; exact hlt), List.getElem?_eq_getElem _⟩
      obtain ⟨q, hq⟩ : ∃ q, qs[k]? = some q := ⟨qs[k]'(by rw [HQ.out]; exact hlt), List.getElem?_eq_getElem _⟩
      have hxx : r.x = q.x := by
        have h1 : (rs.map CR.x)[k]? = some r.x := by rw [List.getElem?_map, hr]; rfl
        have h2 : (qs.map CR.x)[k]? = some q.x := by rw [List.getElem?_map, hq]; rfl
        rw [HX.out, h2] at h1
        injection h1 with h1
        exact h1.symm
      obtain ⟨b, off, rfl, hb, hc⟩ := Rd.row CR.cells_len (HA.out.onlyNil HO.out).rd hr (by omega)
      obtain ⟨b', off', rfl, hb', hc'⟩ := Rd.row CR.cells_len (HB.out.onlyNil HO.out).rd hq (by omega)
      have hd1 := (HA.out.onlyNil HO.out).data r (List.mem_of_getElem? hr)
      have hd2 := (HB.out.onlyNil HO.out).data q (List.mem_of_getElem? hq)
      obtain ⟨Ad, cd, Ar, cr, x⟩ := r
      obtain ⟨Bd, dd, Br, dr, y⟩ := q
      dsimp only at hxx hd1 hd2
      subst hxx
      obtain ⟨task, number, a0, a1, a2, data, done, result, reply, beg, fin⟩ := x
      dsimp only at hd1 hd2
      obtain ⟨D, hD⟩ : ∃ D, data.length = D := ⟨_, rfl⟩
      obtain ⟨R, hR⟩ : ∃ R, reply.length = R := ⟨_, rfl⟩
      obtain ⟨C1, hC1⟩ : ∃ C1, C1 = #[Value.int .i64 task, .int .i64 number, .int .i64 a0, .int .i64 a1, .int .i64 a2, .slice Ad D cd, .bool done, .int .i64 result, .slice Ar R cr, .int .i64 beg, .int .i64 fin] := ⟨_, rfl⟩
      have hc1 : ∀ u, Only Nil wr u → ∀ j v, #[Value.int .i64 task, .int .i64 number, .int .i64 a0, .int .i64 a1, .int .i64 a2, .slice Ad D cd, .bool done, .int .i64 result, .slice Ar R cr, .int .i64 beg, .int .i64 fin][j]? = some v → u.cell? ⟨b, off + (k * 11 + j), none⟩ = some v := fun u hO j v hj => by
        have hj2 := hc j v (by rw [← hD, ← hR] at hj; rw [← hj, List.getElem?_toArray]; rfl)
        exact (hO.cell (lt_of_cell hj2) (fun h => h)).trans hj2
      have hc2 : ∀ u, Only Nil wr u → ∀ j v, #[Value.int .i64 task, .int .i64 number, .int .i64 a0, .int .i64 a1, .int .i64 a2, .slice Bd D dd, .bool done, .int .i64 result, .slice Br R dr, .int .i64 beg, .int .i64 fin][j]? = some v → u.cell? ⟨b', off' + (k * 11 + j), none⟩ = some v := fun u hO j v hj => by
        have hj2 := hc' j v (by rw [← hD, ← hR] at hj; rw [← hj, List.getElem?_toArray]; rfl)
        exact (hO.cell (lt_of_cell hj2) (fun h => h)).trans hj2
      have HC1 := Lib.hid hc1
      have HC2 := Lib.hid hc2
      have HD1 := Lib.hid hd1
      have HD2 := Lib.hid hd2
      have HD := Lib.hid hD
      have HR := Lib.hid hR
      have HCC := Lib.hid hC1
      have hki : (k : Int) < M := by omega
      clear hr hq hc hc' hb hb' hd1 hd2 hc1 hc2 hD hR hC1
      go_upto_region 6 with fail
      go_cut [6, 7] (fun p q wd => ∃ gx gy, p = .pointer (some ⟨gx, 0, none⟩) ∧ q = .pointer (some ⟨gy, 0, none⟩) ∧ Blk wd gx 61 C1 ∧
        Blk wd gy 61 #[.int .i64 task, .int .i64 number, .int .i64 a0, .int .i64 a1, .int .i64 a2, .slice Bd D dd, .bool done, .int .i64 result, .slice Br R dr, .int .i64 beg, .int .i64 fin] ∧ Only Nil wr wd)
      case first =>
        have hz := rcall_zero
        have HIN : Hid (∀ (L : Nat → Bool) (vs : Nat → Value) (u u' : World), Only Nil u u' → (fun L vs u => XY wr C1 L vs u) L vs u → (fun L vs u => XY wr C1 L vs u) L vs u') := Lib.hid (fun L vs u u' hO hI => by
          exact hI.nil hO)
        refine wp_region_any (by kernel_rfl) ?_
        change wpAny _ _ _ _ _ _ _ (World.drew _)
        refine take_first (i := 0) (v := ?v0_1) (some 19) rfl (by rfl) (by kernel_rfl) (by kernel_rfl) (by kernel_rfl) (fun _ _ _ h => h) (Or.inl ⟨by rfl, ?hy0_1⟩) ?rest0_1
        case hy0_1 => (intro w; go_simp <;> with_reducible rfl)
        refine take_first (i := 1) (v := ?v1_1) (some 20) rfl (by rfl) (by kernel_rfl) (by kernel_rfl) (by kernel_rfl) (fun _ _ _ h => h) (Or.inl ⟨by rfl, ?hy1_1⟩) ?rest1_1
        case hy1_1 => (intro w; go_simp <;> with_reducible rfl)
        refine take_first (i := 2) (v := ?v2_1) (some 21) rfl (by rfl) (by kernel_rfl) (by kernel_rfl) (by kernel_rfl) (fun _ _ _ h => h) (Or.inl ⟨by rfl, ?hy2_1⟩) ?rest2_1
        case hy2_1 => (intro w; go_simp <;> with_reducible rfl)
        refine take_first (i := 4) (v := ?v4_1) (some 23) rfl (by rfl) (by kernel_rfl) (by kernel_rfl) (by kernel_rfl) (fun _ _ _ h => h) (Or.inl ⟨by rfl, ?hy4_1⟩) ?rest4_1
        case hy4_1 => (intro w; go_simp <;> with_reducible rfl)
        refine take_first (i := 5) (v := ?v5_1) (some 24) rfl (by rfl) (by kernel_rfl) (by kernel_rfl) (by kernel_rfl) (fun _ _ _ h => h) (Or.inl ⟨by rfl, ?hy5_1⟩) ?rest5_1
        case hy5_1 => (intro w; go_simp <;> with_reducible rfl)
        refine take_first (i := 6) (v := ?v6_1) (some 25) rfl (by rfl) (by kernel_rfl) (by kernel_rfl) (by kernel_rfl) (fun _ _ _ h => h) (Or.inl ⟨by rfl, ?hy6_1⟩) ?rest6_1
        case hy6_1 => (intro w; go_simp <;> with_reducible rfl)
        refine wpAny_inv2 (X := [(3, some 22, []), (7, some 26, []), (8, some 6, []), (9, some 7, []), (10, none, [8, 3])]) (n := 5) (g := 1) (m := 11) (l0 := [true, true, true, false, true, true, true, false, false, false, false, false]) (T := fun x => wr.heap.size ≤ x) (Ps := [Any, Any, Any, Cst (.agg #[.int .i64 task, .int .i64 number, .int .i64 a0, .int .i64 a1, .int .i64 a2, .slice Ad D cd, .bool done, .int .i64 result, .slice Ar R cr, .int .i64 beg, .int .i64 fin]), Any, Any, Any, Cst (.agg #[.int .i64 task, .int .i64 number, .int .i64 a0, .int .i64 a1, .int .i64 a2, .slice Bd D dd, .bool done, .int .i64 result, .slice Br R dr, .int .i64 beg, .int .i64 fin]), Any, Any, Any])
          (I := fun L vs u => XY wr C1 L vs u)
          (by kernel_rfl) rfl (by kernel_rfl) (by kernel_rfl) (by kernel_rfl) rfl ?h0_1 ?st_1 ?i0_1 ?step_1 ?fin_1
        case h0_1 =>
          intro j hj v u
          match j, hj with
          | 0, hj => trivial
          | 1, hj => trivial
          | 2, hj => trivial
          | 3, hj => exact absurd hj (by decide)
          | 4, hj => trivial
          | 5, hj => trivial
          | 6, hj => trivial
          | 7, hj => exact absurd hj (by decide)
          | 8, hj => exact absurd hj (by decide)
          | 9, hj => exact absurd hj (by decide)
          | 10, hj => exact absurd hj (by decide)
          | 11, hj => exact absurd hj (by decide)
          | n + 12, hj => exact absurd hj (by simp)
        case st_1 =>
          intro p hp
          simp only [List.mem_cons, List.not_mem_nil, or_false] at hp
          rcases hp with rfl | rfl | rfl | rfl | rfl | rfl | rfl | rfl | rfl | rfl | rfl <;> first | exact Stays.cst _ | exact Stays.any
        case i0_1 =>
          intro vs
          exact ⟨(Only.refl _ _).drew, (fun h => by cases h), (fun h => by cases h), fun _ => rfl⟩
        case step_1 =>
          intro x hx L vs u hI hA h0 hd
          simp only [List.mem_cons, List.not_mem_nil, or_false] at hx
          rcases hx with rfl | rfl | rfl | rfl | rfl
          · refine inv_step _ (by rfl) (by rfl) (fun K' hK => ?_)
            simp only [putAll, Act.put, List.setIfInBounds_toArray, List.set_cons_succ, List.set_cons_zero] at hK ⊢
            have e := HC1.out _ hI.only
            have e0 : u.cell? ⟨b, off + k * 11, none⟩ = some (.int .i64 task) := e 0 _ rfl
            have e1 : u.cell? ⟨b, off + k * 11 + 1, none⟩ = some (.int .i64 number) := e 1 _ rfl
            have e2 : u.cell? ⟨b, off + k * 11 + 2, none⟩ = some (.int .i64 a0) := e 2 _ rfl
            have e3 : u.cell? ⟨b, off + k * 11 + 3, none⟩ = some (.int .i64 a1) := e 3 _ rfl
            have e4 : u.cell? ⟨b, off + k * 11 + 4, none⟩ = some (.int .i64 a2) := e 4 _ rfl
            have e5 : u.cell? ⟨b, off + k * 11 + 5, none⟩ = some (.slice Ad D cd) := e 5 _ rfl
            have e6 : u.cell? ⟨b, off + k * 11 + 6, none⟩ = some (.bool done) := e 6 _ rfl
            have e7 : u.cell? ⟨b, off + k * 11 + 7, none⟩ = some (.int .i64 result) := e 7 _ rfl
            have e8 : u.cell? ⟨b, off + k * 11 + 8, none⟩ = some (.slice Ar R cr) := e 8 _ rfl
            have e9 : u.cell? ⟨b, off + k * 11 + 9, none⟩ = some (.int .i64 beg) := e 9 _ rfl
            have e10 : u.cell? ⟨b, off + k * 11 + 10, none⟩ = some (.int .i64 fin) := e 10 _ rfl
            go_simp
            exact hK _ _ ⟨Only.refl _ _, hI.other (Only.refl _ _) _ (by decide) (by decide) (by decide), rfl⟩
          · refine inv_step _ (by rfl) (by rfl) (fun K' hK => ?_)
            simp only [putAll, Act.put, List.setIfInBounds_toArray, List.set_cons_succ, List.set_cons_zero] at hK ⊢
            have e := HC2.out _ hI.only
            have e0 : u.cell? ⟨b', off' + k * 11, none⟩ = some (.int .i64 task) := e 0 _ rfl
            have e1 : u.cell? ⟨b', off' + k * 11 + 1, none⟩ = some (.int .i64 number) := e 1 _ rfl
            have e2 : u.cell? ⟨b', off' + k * 11 + 2, none⟩ = some (.int .i64 a0) := e 2 _ rfl
            have e3 : u.cell? ⟨b', off' + k * 11 + 3, none⟩ = some (.int .i64 a1) := e 3 _ rfl
            have e4 : u.cell? ⟨b', off' + k * 11 + 4, none⟩ = some (.int .i64 a2) := e 4 _ rfl
            have e5 : u.cell? ⟨b', off' + k * 11 + 5, none⟩ = some (.slice Bd D dd) := e 5 _ rfl
            have e6 : u.cell? ⟨b', off' + k * 11 + 6, none⟩ = some (.bool done) := e 6 _ rfl
            have e7 : u.cell? ⟨b', off' + k * 11 + 7, none⟩ = some (.int .i64 result) := e 7 _ rfl
            have e8 : u.cell? ⟨b', off' + k * 11 + 8, none⟩ = some (.slice Br R dr) := e 8 _ rfl
            have e9 : u.cell? ⟨b', off' + k * 11 + 9, none⟩ = some (.int .i64 beg) := e 9 _ rfl
            have e10 : u.cell? ⟨b', off' + k * 11 + 10, none⟩ = some (.int .i64 fin) := e 10 _ rfl
            go_simp
            exact hK _ _ ⟨Only.refl _ _, hI.other (Only.refl _ _) _ (by decide) (by decide) (by decide), rfl⟩
          · refine inv_step _ (by rfl) (by rfl) (fun K' hK => ?_)
            simp only [putAll, Act.put, List.setIfInBounds_toArray, List.set_cons_succ, List.set_cons_zero] at hK ⊢
            go_simp
            exact hK _ _ ⟨((Only.refl Nil _).alloc _).any, hI.new8 h0, trivial⟩
          · refine inv_step _ (by rfl) (by rfl) (fun K' hK => ?_)
            simp only [putAll, Act.put, List.setIfInBounds_toArray, List.set_cons_succ, List.set_cons_zero] at hK ⊢
            go_simp
            exact hK _ _ ⟨((Only.refl Nil _).alloc _).any, hI.new9, trivial⟩
          · refine inv_step _ (by rfl) (by rfl) (fun K' hK => ?_)
            simp only [putAll, Act.put, List.setIfInBounds_toArray, List.set_cons_succ, List.set_cons_zero] at hK ⊢
            have e3 := hA 3 (hd 3 (by simp))
            change vs 3 = (.agg #[.int .i64 task, .int .i64 number, .int .i64 a0, .int .i64 a1, .int .i64 a2, .slice Ad D cd, .bool done, .int .i64 result, .slice Ar R cr, .int .i64 beg, .int .i64 fin]) at e3
            simp only [e3] at hK
            obtain ⟨g, e8, hg, hb⟩ := hI.x (hd 8 (by simp))
            simp only [e8] at hK
            have h10 : L 10 = false := h0
            rw [h10, if_neg (by simp)] at hb
            have kb : ∀ i, u.cell? ⟨g, i, none⟩ = #[Value.int .i64 0, .int .i64 0, .int .i64 0, .int .i64 0, .int .i64 0, .slice none 0 0, .bool false, .int .i64 0, .slice none 0 0, .int .i64 0, .int .i64 0][i]? := fun i => hb.cell i
            have kf : ∀ i, u.frozen? ⟨g, i, none⟩ = false := fun i => hb.frozen i
            go_simp
            refine hK undef _ ⟨by (repeat' (first | with_reducible exact Only.refl _ _ | with_reducible refine Only.setCell ?_ (Or.inl ?_) _ | with_reducible refine Only.drewN ?_ _ | with_reducible refine Only.drew ?_ | with_reducible refine Only.alloc ?_ _ | (exact hg))), ?_, trivial⟩
            have hb2 := put11_blk2 (task := task) (call := number) (a0 := a0) (a1 := a1) (a2 := a2) (A := Ad) (n := D) (c := cd) (d := done) (res := result) (A' := Ar) (n' := R) (c' := cr) (k := beg) (E := fin) hb
            rw [← HCC.out] at hb2
            exact hI.put e8 hg h10 (hd 8 (by simp)) (by (repeat' (first | with_reducible exact Only.refl _ _ | with_reducible refine Only.setCell ?_ (Or.inl ?_) _ | with_reducible refine Only.drewN ?_ _ | with_reducible refine Only.drew ?_ | with_reducible refine Only.alloc ?_ _ | (exact rfl)))) hb2 undef
        case fin_1 =>
          intro L vs u hI hL hA
          simp only [putAll, Act.put, List.setIfInBounds_toArray, List.set_cons_succ, List.set_cons_zero, List.drop_succ_cons, List.drop_zero]
          obtain ⟨gx, e8, hgx, hbx⟩ := hI.x (hL 8 (by omega))
          obtain ⟨gy, e9, hgy, hby, hne⟩ := hI.y (hL 9 (by omega))
          rw [if_pos (hL 10 (by omega))] at hbx
          have hne2 := hne (hL 8 (by omega))
          have e7 := hA 7 (by omega)
          change vs 7 = .agg #[.int .i64 task, .int .i64 number, .int .i64 a0, .int .i64 a1, .int .i64 a2, .slice Bd D dd, .bool done, .int .i64 result, .slice Br R dr, .int .i64 beg, .int .i64 fin] at e7
          simp only [e7, e8, e9]
          have HXY : Hid (gx ≠ gy) := Lib.hid (fun h => hne2 (by rw [e8, h]))
          have kb : ∀ i, u.cell? ⟨gy, i, none⟩ = #[Value.int .i64 0, .int .i64 0, .int .i64 0, .int .i64 0, .int .i64 0, .slice none 0 0, .bool false, .int .i64 0, .slice none 0 0, .int .i64 0, .int .i64 0][i]? := fun i => hby.cell i
          have kf : ∀ i, u.frozen? ⟨gy, i, none⟩ = false := fun i => hby.frozen i
          have HBX := Lib.hid hbx
          have HBY := Lib.hid hby
          have HI := Lib.hid hI.only
          clear hA hL hI e7 e8 e9 hbx hby hne hne2
          go_wp2_with fail
          go_meet
          case rel =>
            exact ⟨gx, gy, rfl, rfl, HBX.out.only (S := One gy) (by (repeat' (first | with_reducible exact Only.refl _ _ | with_reducible refine Only.setCell ?_ (Or.inl ?_) _ | with_reducible refine Only.drewN ?_ _ | with_reducible refine Only.drew ?_ | with_reducible refine Only.alloc ?_ _ | (exact rfl)))) HXY.out, put11_blk2 HBY.out, HI.out.trans (S' := One gy) (by (repeat' (first | with_reducible exact Only.refl _ _ | with_reducible refine Only.setCell ?_ (Or.inl ?_) _ | with_reducible refine Only.drewN ?_ _ | with_reducible refine Only.drew ?_ | with_reducible refine Only.alloc ?_ _ | (exact rfl)))) (fun x hx => .inr (by unfold One at hx; omega))⟩
      case rest =>
        obtain ⟨gx, gy, rfl, rfl, hbx, hby, hO6⟩ := hcut
        rw [HCC.out] at hbx
        have kx : ∀ i, wc.cell? ⟨gx, i, none⟩ = #[Value.int .i64 task, .int .i64 number, .int .i64 a0, .int .i64 a1, .int .i64 a2, .slice Ad D cd, .bool done, .int .i64 result, .slice Ar R cr, .int .i64 beg, .int .i64 fin][i]? := fun i => hbx.cell i
        have ky : ∀ i, wc.cell? ⟨gy, i, none⟩ = #[Value.int .i64 task, .int .i64 number, .int .i64 a0, .int .i64 a1, .int .i64 a2, .slice Bd D dd, .bool done, .int .i64 result, .slice Br R dr, .int .i64 beg, .int .i64 fin][i]? := fun i => hby.cell i
        have hs1 := run_str (P := Try.prog) wc 38 9 5 Try.underlying38 Try.underlying5 Try.underlying9 (c := cd) (n := D) (HD1.out.1.onlyNil hO6 (Nat.le_refl _)) HD.out.symm
        have hs2 := run_str (P := Try.prog) wc 38 9 5 Try.underlying38 Try.underlying5 Try.underlying9 (c := dd) (n := D) (HD2.out.1.onlyNil hO6 (Nat.le_refl _)) HD.out.symm
        have hs3 := run_str (P := Try.prog) wc 38 9 5 Try.underlying38 Try.underlying5 Try.underlying9 (c := cr) (n := R) (HD1.out.2.onlyNil hO6 (Nat.le_refl _)) HR.out.symm
        have hs4 := run_str (P := Try.prog) wc 38 9 5 Try.underlying38 Try.underlying5 Try.underlying9 (c := dr) (n := R) (HD2.out.2.onlyNil hO6 (Nat.le_refl _)) HR.out.symm
        have hq := eqArr3 a0 a1 a2 a0 a1 a2
        have HO6 := Lib.hid (HO.out.thenNil hO6)
        clear hbx hby hO6
        go_wp2_with fail
        go_roundw
        case rel => exact ⟨k + 1, by omega, by go_num, HO6.out⟩
        case measure => simp [intOf]; omega
    · have hkM : k = M := by omega
      subst hkM
      go_wp2_with fail
      go_ret
      exact ⟨rfl, HO.out⟩

/-- Kept where only a row of the reference's calls has grown. -/
theorem CRow.apart {w w' : World} {base base' : Nat} {A : Option Addr} {c : Nat} {rs : List CR} {v : Value} {n : Nat} {xs : List Value} (h : CRow w base A c rs) (hv : w.ownsRow base' 61 11 v n xs) (hO : Only (fun x => v.ownBlock = some x) w w') : CRow w' base A c rs :=
  ⟨own_only h.row hO (fun _ hq hx => own_own_ne h.row hv (by decide) hq hx), fun r hr => ⟨own_only (h.data r hr).1 hO (fun _ hq hx => own_own_ne (h.data r hr).1 hv (by decide) hq hx), own_only (h.data r hr).2 hO (fun _ hq hx => own_own_ne (h.data r hr).2 hv (by decide) hq hx)⟩⟩

set_option maxRecDepth 100000 in
set_option maxHeartbeats 2000000 in
theorem law_calls_any (A : Option Addr) (c : Nat) (rs : List ER) (w : World) (h : Es w w.heap.size A rs) (hl : rs.length ≤ 1099511627776) (hd : ∀ r ∈ rs, r.x.data.length ≤ 1099511627776) :
    Calls Try.prog 15 #[.slice A rs.length c] w (RCallsPost (rs.map ER.x) w) := by
  obtain ⟨j0, hj0, hy0, hy1, hy2⟩ := info_parts rcall_info
  have HC := Lib.hid (calls_any A c rs w h hl hd)
  obtain ⟨N, hN⟩ : ∃ N, rs.length = N := ⟨_, rfl⟩
  rw [hN] at HC hl ⊢
  have HN := Lib.hid hN
  have HL := Lib.hid hl
  clear h hl hd hN
  go_enter Try.func15, Try.ntmps15
  go_wp2_with fail
  refine HC.out.mono ?_
  rintro e w1 ⟨A1, c1, os, rfl, hos, hrow, hoc, hO⟩
  have hML : os.length ≤ N := by
    have := callsP_len (rs.map ER.x) (rs.map ER.x).length
    rw [← hos, List.length_map, List.length_map, HN.out] at this
    exact this
  obtain ⟨M, hM⟩ : ∃ M, os.length = M := ⟨_, rfl⟩
  rw [hM] at hML ⊢
  have HM := Lib.hid hM
  have HML := Lib.hid (Nat.le_trans hML HL.out)
  have HOS := Lib.hid hos
  have HROW := Lib.hid hrow
  have HO := Lib.hid hO
  clear hos hrow hoc hO hM hML
  go_wp2_with fail
  go_loopw [5, 4] (fun i v wr => ∃ (k : Nat) (A' : Option Addr) (c' : Nat), k ≤ M ∧ i = .int .i64 k ∧ v = .slice A' k c' ∧ k ≤ c' ∧ RRow wr w.heap.size A' c' (os.take k) ∧ CRow wr w.heap.size A1 c1 os ∧ Only Nil w wr) (fun i _ _ => M - (intOf i).toNat)
  case atStart => exact ⟨0, none, 0, Nat.zero_le _, rfl, rfl, Nat.le_refl _, ⟨World.ownsRow_nil _ _ _ _, fun r hr => by cases hr⟩, HROW.out, HO.out⟩
  case round =>
    obtain ⟨k, A', c', hk, rfl, rfl, hkc, hr, hcr, hO⟩ := hrel
    have HR := Lib.hid hr
    have HCR := Lib.hid hcr
    have HO2 := Lib.hid hO
    have HKC := Lib.hid hkc
    clear hr hcr hO hkc
    by_cases hlt : k < M
    · obtain ⟨r, hr⟩ : ∃ r, os[k]? = some r := ⟨os[k]'(by rw [HM.out]; exact hlt), List.getElem?_eq_getElem _⟩
      have htk : (os.take k).length = k := by rw [List.length_take, HM.out]; omega
      have hrd := Rd.of_own HCR.out.row
      obtain ⟨b, off, rfl, hb, hc⟩ := Rd.row CR.cells_len hrd hr (by omega)
      have hdat := HCR.out.data r (List.mem_of_getElem? hr)
      have hsn : os.take (k + 1) = os.take k ++ [r] := by
        obtain ⟨hkl, hge⟩ := List.getElem?_eq_some_iff.1 hr
        rw [List.take_succ_eq_append_getElem hkl, hge]
      have HSN := Lib.hid hsn
      have HTK := Lib.hid htk
      have HDA := Lib.hid hdat
      have hki : (k : Int) < M := by omega
      have hMb := HML.out
      clear hr htk hrd hb hdat hsn
      obtain ⟨Ad, cd, Ar, cr, ⟨task, number, a0, a1, a2, data, done, result, reply, beg, fin⟩⟩ := r
      dsimp only at HDA
      have e0 : wr.cell? ⟨b, off + k * 11, none⟩ = some (.int .i64 task) := hc 0 _ rfl
      have e1 : wr.cell? ⟨b, off + k * 11 + 1, none⟩ = some (.int .i64 number) := hc 1 _ rfl
      have e2 : wr.cell? ⟨b, off + k * 11 + 2, none⟩ = some (.int .i64 a0) := hc 2 _ rfl
      have e3 : wr.cell? ⟨b, off + k * 11 + 3, none⟩ = some (.int .i64 a1) := hc 3 _ rfl
      have e4 : wr.cell? ⟨b, off + k * 11 + 4, none⟩ = some (.int .i64 a2) := hc 4 _ rfl
      have e5 : wr.cell? ⟨b, off + k * 11 + 5, none⟩ = some (.slice Ad data.length cd) := hc 5 _ rfl
      have e6 : wr.cell? ⟨b, off + k * 11 + 6, none⟩ = some (.bool done) := hc 6 _ rfl
      have e7 : wr.cell? ⟨b, off + k * 11 + 7, none⟩ = some (.int .i64 result) := hc 7 _ rfl
      have e8 : wr.cell? ⟨b, off + k * 11 + 8, none⟩ = some (.slice Ar reply.length cr) := hc 8 _ rfl
      have e9 : wr.cell? ⟨b, off + k * 11 + 9, none⟩ = some (.int .i64 beg) := hc 9 _ rfl
      have e10 : wr.cell? ⟨b, off + k * 11 + 10, none⟩ = some (.int .i64 fin) := hc 10 _ rfl
      clear hc
      go_wp2_with (at_builtin; go_must (refine wpList_append_rd _ rfl (.tmp 14) (.tmp 19) _ rfl w.heap.size 61 j0 _ 11 120 Try.underlying32 hj0 hy0 hy1 hy2 rfl (by omega) (.slice A' k c') k ((os.take k).flatMap CR.cells) rfl ?qown (wr.heap.size + 1) (some ⟨wr.heap.size, 0, none⟩) 1 1 [.int .i64 task, .int .i64 number, .int .i64 a0, .int .i64 a1, .int .i64 a2, .slice Ad data.length cd, .bool done, .int .i64 result, .slice Ar reply.length cr, .int .i64 beg, .int .i64 fin] rfl ?qrd ?qone (k + 1) rfl _ rfl ?q63 ?qby ?qbase ?_))
      case qown => have := own_onlyNil HR.out.row ((Only.refl Nil wr).alloc (.cells #[.int .i64 task, .int .i64 number, .int .i64 a0, .int .i64 a1, .int .i64 a2, .slice Ad data.length cd, .bool done, .int .i64 result, .slice Ar reply.length cr, .int .i64 beg, .int .i64 fin] 61)); rw [HTK.out] at this; exact this
      case qrd => exact Rd.newBlock wr #[.int .i64 task, .int .i64 number, .int .i64 a0, .int .i64 a1, .int .i64 a2, .slice Ad data.length cd, .bool done, .int .i64 result, .slice Ar reply.length cr, .int .i64 beg, .int .i64 fin] _ 11 1 rfl rfl
      case qone => first | exact CR.cells_one ⟨Ad, cd, Ar, cr, ⟨task, number, a0, a1, a2, data, done, result, reply, beg, fin⟩⟩ | exact ⟨rfl, rfl, rfl, rfl, rfl, rfl, rfl, rfl, rfl, rfl, rfl⟩
      case q63 => have := HML.out; unfold maxLen; omega
      case qby => have := HML.out; omega
      case qbase => have := HO2.out.size; simp; omega
      intro A4 c4 w4 hc4 hown4 hgr4 hat4
      have hO4 : Only (fun x => (Value.slice A' (os.take k).length c').ownBlock = some x) (wr.alloc (.cells #[.int .i64 task, .int .i64 number, .int .i64 a0, .int .i64 a1, .int .i64 a2, .slice Ad data.length cd, .bool done, .int .i64 result, .slice Ar reply.length cr, .int .i64 beg, .int .i64 fin] 61)) w4 := by rw [HTK.out]; exact Only.of_grown hgr4
      have hrow4 : RRow w4 w.heap.size A4 c4 (os.take k ++ [⟨Ad, cd, Ar, cr, ⟨task, number, a0, a1, a2, data, done, result, reply, beg, fin⟩⟩]) :=
        RRow.grow (HR.out.onlyNil ((Only.refl _ _).alloc _)) hO4 (by rw [HTK.out]; exact hown4) (own_onlyNil HDA.out.1 ((Only.refl _ _).alloc _)) (own_onlyNil HDA.out.2 ((Only.refl _ _).alloc _))
      rw [← HSN.out] at hrow4
      have hcr4 : CRow w4 w.heap.size (some ⟨b, off, none⟩) c1 os := (HCR.out.onlyNil ((Only.refl _ _).alloc _)).apart (own_onlyNil HR.out.row ((Only.refl _ _).alloc _)) hO4
      have HO10 : Hid (Only Nil w w4) := Lib.hid ((HO2.out.alloc _).trans hO4 (fun x hx => .inr (ownBlock_ge HR.out.row hx)))
      have HR4 := Lib.hid hrow4
      have HCR4 := Lib.hid hcr4
      have HC4 := Lib.hid hc4
      clear hO4 hrow4 hcr4 hown4 hgr4 hat4 hc4
      go_wp2_with fail
      go_roundw
      case rel => exact ⟨k + 1, A4, c4, by omega, by go_num, rfl, HC4.out, HR4.out, HCR4.out, HO10.out⟩
      case measure => simp [intOf]; omega
    · have hkM : k = M := by omega
      subst hkM
      have htk : os.take k = os := List.take_of_length_le (by rw [HM.out]; exact Nat.le_refl _)
      have hR := HR.out
      rw [htk] at hR
      have HRR := Lib.hid hR
      clear htk hR
      go_wp2_with fail
      go_ret
      exact ⟨A', c', os, by rw [HM.out]; rfl, HOS.out, HRR.out, by rw [HM.out]; exact HKC.out, HO2.out⟩

end Go.Proofs.Ytdejceojhkdjnaa
