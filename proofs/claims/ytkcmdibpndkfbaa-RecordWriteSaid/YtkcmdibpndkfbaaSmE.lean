/-
  Walks of ratoonref01.Same, ratoonref01.SameEntry, ratoonref53.Same.
  Conditions: the entries can be read.
-/
import Derived.Test.YtkcmdibpndkfbaaEnP
import Derived.Test.YtkcmdibpndkfbaaRpW1
import Derived.Test.YtkcmdibpndkfbaaInv
import Derived.Deep.Cut
import Derived.Deep.DeepCutAuto
namespace Go.Proofs.Ytkcmdibpndkfbaa
open Go.RowKit

def sameE (x y : En) : Bool := x.kind == y.kind && (x.task == y.task && (x.call == y.call && ((x.a0 == y.a0 && (x.a1 == y.a1 && x.a2 == y.a2)) && (x.result == y.result && x.data == y.data))))
theorem sameE_iff {x y : En} : sameE x y = true ↔ x = y := by
  obtain ⟨k, t, c, a0, a1, a2, r, d⟩ := x
  obtain ⟨k', t', c', b0, b1, b2, r', d'⟩ := y
  unfold sameE
  simp only [Bool.and_eq_true, beq_iff_eq, En.mk.injEq, and_assoc]
def sameL : List En → List En → Bool
  | [], [] => true
  | x :: a, y :: b => sameE x y && sameL a b
  | _, _ => false
theorem sameL_iff : ∀ {a b : List En}, sameL a b = true ↔ a = b := by
  intro a
  induction a with
  | nil => intro b; cases b <;> simp [sameL]
  | cons x a ih =>
    intro b
    cases b with
    | nil => simp [sameL]
    | cons y b => simp only [sameL, Bool.and_eq_true, sameE_iff, ih, List.cons.injEq]
theorem sameL_len {a b : List En} (h : a.length ≠ b.length) : sameL a b = false := by
  cases hs : sameL a b with
  | false => rfl
  | true => rw [sameL_iff] at hs; rw [hs] at h; exact absurd rfl h

/-- Entries that can be read, of whatever size. -/
structure Ed (w : World) (A : Option Addr) (rs : List ER) : Prop where
  rd : Rd w w.heap.size 8 A rs.length (rs.flatMap ER.cells)
  data : ∀ r ∈ rs, Bs w w.heap.size r.A r.x.data
theorem Ed.next {w w' : World} {A : Option Addr} {rs : List ER} (h : Ed w A rs) (hO : Only Nil w w') : Ed w' A rs :=
  ⟨Rd.more (Rd.onlyNil h.rd hO (Nat.le_refl _)) hO.size, fun r hr => ((h.data r hr).onlyNil hO (Nat.le_refl _)).up hO.size⟩
theorem Ed.at_ {w : World} {A : Option Addr} {rs : List ER} (h : Ed w A rs) {k : Nat} {r : ER} (hk : rs[k]? = some r) :
    ∃ b off, A = some ⟨b, off, none⟩ ∧ b < w.heap.size ∧ ∀ j u, r.cells[j]? = some u → w.cell? ⟨b, off + (k * 8 + j), none⟩ = some u :=
  Rd.row ER.cells_len h.rd hk (by omega)
theorem Es.ed {w : World} {A : Option Addr} {rs : List ER} (h : Es w w.heap.size A rs) : Ed w A rs := ⟨h.rd, fun r hr => (h.ok r hr).data⟩

theorem same_any (A B : Option Addr) (ca cb : Nat) (a b : List UInt8) (w : World) (ha : Bs w w.heap.size A a) (hb : Bs w w.heap.size B b) :
    Calls Try.prog 31 #[.slice A a.length ca, .slice B b.length cb] w fun e w' => e = .returned (.bool (a == b)) ∧ w' = w := by
  have h1 := run_str (P := Try.prog) w 26 9 5 Try.underlying26 Try.underlying5 Try.underlying9 (c := ca) ha rfl
  have h2 := run_str (P := Try.prog) w 26 9 5 Try.underlying26 Try.underlying5 Try.underlying9 (c := cb) hb rfl
  go_enter Try.func31, Try.ntmps31
  go_wp2_with fail
  go_ret
  exact ⟨rfl, rfl⟩

set_option maxRecDepth 100000 in
set_option maxHeartbeats 2000000 in
theorem same_entry (r q : ER) (w : World) (hr : Bs w w.heap.size r.A r.x.data) (hq : Bs w w.heap.size q.A q.x.data) :
    Calls Try.prog 18 #[.agg r.cells.toArray, .agg q.cells.toArray] w fun e w' => e = .returned (.bool (sameE r.x q.x)) ∧ Only Nil w w' := by
  obtain ⟨A, c, ⟨kind, task, call, a0, a1, a2, result, data⟩⟩ := r
  obtain ⟨B, c', ⟨kind', task', call', b0, b1, b2, result', data'⟩⟩ := q
  have hq3 := eqArr3 a0 a1 a2 b0 b1 b2
  have hS : sameE ⟨kind, task, call, a0, a1, a2, result, data⟩ ⟨kind', task', call', b0, b1, b2, result', data'⟩ = (kind == kind' && (task == task' && (call == call' && ((a0 == b0 && (a1 == b1 && a2 == b2)) && (result == result' && data == data'))))) := rfl
  dsimp only at hr hq
  have HSA := Lib.hid (fun (u : World) (hO : Only Nil w u) => same_any A B c c' data data' u ((hr.onlyNil hO (Nat.le_refl _)).up hO.size) ((hq.onlyNil hO (Nat.le_refl _)).up hO.size))
  unfold ER.cells
  dsimp only
  rw [hS]
  obtain ⟨D, hD⟩ : ∃ D, data.length = D := ⟨_, rfl⟩
  obtain ⟨D', hD'⟩ : ∃ D, data'.length = D := ⟨_, rfl⟩
  rw [hD, hD'] at HSA ⊢
  obtain ⟨p0, h0⟩ : ∃ p, (kind == kind') = p := ⟨_, rfl⟩
  obtain ⟨p1, h1⟩ : ∃ p, (task == task') = p := ⟨_, rfl⟩
  obtain ⟨p2, h2⟩ : ∃ p, (call == call') = p := ⟨_, rfl⟩
  obtain ⟨p3, h3⟩ : ∃ p, (a0 == b0 && (a1 == b1 && a2 == b2)) = p := ⟨_, rfl⟩
  obtain ⟨p4, h4⟩ : ∃ p, (result == result') = p := ⟨_, rfl⟩
  obtain ⟨p5, h5⟩ : ∃ p, (data == data') = p := ⟨_, rfl⟩
  rw [h5] at HSA
  rw [h0, h1, h2, h3, h4, h5]
  rw [h3] at hq3
  clear hr hq hS hD hD' h3 h5
  cases p0
  · skip
    go_enter Try.func18, Try.ntmps18
    go_wp2_with fail
    go_ret
    exact ⟨by first | rfl | simp, by (repeat' (first | with_reducible exact Only.refl _ _ | with_reducible refine Only.setCell ?_ (Or.inl ?_) _ | with_reducible refine Only.drewN ?_ _ | with_reducible refine Only.drew ?_ | with_reducible refine Only.alloc ?_ _ | (fail)))⟩
  · skip
    cases p1
    · skip
      go_enter Try.func18, Try.ntmps18
      go_wp2_with fail
      go_ret
      exact ⟨by first | rfl | simp, by (repeat' (first | with_reducible exact Only.refl _ _ | with_reducible refine Only.setCell ?_ (Or.inl ?_) _ | with_reducible refine Only.drewN ?_ _ | with_reducible refine Only.drew ?_ | with_reducible refine Only.alloc ?_ _ | (fail)))⟩
    · skip
      cases p2
      · skip
        go_enter Try.func18, Try.ntmps18
        go_wp2_with fail
        go_ret
        exact ⟨by first | rfl | simp, by (repeat' (first | with_reducible exact Only.refl _ _ | with_reducible refine Only.setCell ?_ (Or.inl ?_) _ | with_reducible refine Only.drewN ?_ _ | with_reducible refine Only.drew ?_ | with_reducible refine Only.alloc ?_ _ | (fail)))⟩
      · skip
        cases p3
        · skip
          go_enter Try.func18, Try.ntmps18
          go_wp2_with fail
          go_ret
          exact ⟨by first | rfl | simp, by (repeat' (first | with_reducible exact Only.refl _ _ | with_reducible refine Only.setCell ?_ (Or.inl ?_) _ | with_reducible refine Only.drewN ?_ _ | with_reducible refine Only.drew ?_ | with_reducible refine Only.alloc ?_ _ | (fail)))⟩
        · skip
          cases p4
          · skip
            go_enter Try.func18, Try.ntmps18
            go_wp2_with fail
            go_ret
            exact ⟨by first | rfl | simp, by (repeat' (first | with_reducible exact Only.refl _ _ | with_reducible refine Only.setCell ?_ (Or.inl ?_) _ | with_reducible refine Only.drewN ?_ _ | with_reducible refine Only.drew ?_ | with_reducible refine Only.alloc ?_ _ | (fail)))⟩
          · skip
            go_enter Try.func18, Try.ntmps18
            go_wp2_with fail
            refine (HSA.out _ (((Only.refl _ _).alloc _).alloc _)).mono ?_
            rintro x w1 ⟨rfl, rfl⟩
            go_wp2_with fail
            go_ret
            exact ⟨by first | rfl | simp, by (repeat' (first | with_reducible exact Only.refl _ _ | with_reducible refine Only.setCell ?_ (Or.inl ?_) _ | with_reducible refine Only.drewN ?_ _ | with_reducible refine Only.drew ?_ | with_reducible refine Only.alloc ?_ _ | (fail)))⟩

set_option maxRecDepth 100000 in
set_option maxHeartbeats 2000000 in
theorem Ref.same_list (A B : Option Addr) (ca cb : Nat) (rs qs : List ER) (w : World) (ha : Ed w A rs) (hb : Ed w B qs) (hl : rs.length ≤ 1099511627776) :
    Calls Try.prog 12 #[.slice A rs.length ca, .slice B qs.length cb] w fun e w' => e = .returned (.bool (sameL (rs.map ER.x) (qs.map ER.x))) ∧ Only Nil w w' := by
  obtain ⟨N, hN⟩ : ∃ N, rs.length = N := ⟨_, rfl⟩
  obtain ⟨M, hM⟩ : ∃ M, qs.length = M := ⟨_, rfl⟩
  obtain ⟨R, hR⟩ : ∃ R, sameL (rs.map ER.x) (qs.map ER.x) = R := ⟨_, rfl⟩
  by_cases hne : rs.length = qs.length
  rotate_left
  · have hRf : R = false := by rw [← hR]; exact sameL_len (by simpa using hne)
    have hNM : N ≠ M := by omega
    have hb1 : ((N : Int) == (M : Int)) = false := beq_false_of_ne (by omega)
    have hb2 : ((N : Int) != (M : Int)) = true := by simp; omega
    have HRF := Lib.hid hRf
    rw [hN, hM, hR]
    clear hN hM hR ha hb hne hRf
    go_enter Try.func12, Try.ntmps12
    go_wp2_with fail
    go_ret
    exact ⟨by rw [HRF.out]; rfl, Only.refl _ _⟩
  have hMN : M = N := by omega
  subst hMN
  rw [hN, hM, hR]
  rw [hN] at hl
  have HN := Lib.hid hN
  have HM := Lib.hid hM
  have HR := Lib.hid hR
  have HA := Lib.hid ha
  have HB := Lib.hid hb
  clear hN hM hR ha hb hne
  go_enter Try.func12, Try.ntmps12
  go_wp2_with fail
  go_loopw [5] (fun i wr => ∃ k : Nat, k ≤ M ∧ i = .int .i64 k ∧ sameL ((rs.map ER.x).drop k) ((qs.map ER.x).drop k) = R ∧ Only Nil w wr) (fun i _ => M - (intOf i).toNat)
  case atStart => exact ⟨0, Nat.zero_le _, rfl, HR.out, Only.refl _ _⟩
  case round =>
    obtain ⟨k, hk, rfl, hrel2, hO⟩ := hrel
    have HK := Lib.hid hrel2
    have HO := Lib.hid hO
    clear hrel2 hO
    by_cases hlt : k < M
    · obtain ⟨r, hr⟩ : ∃ r, rs[k]? = some r := ⟨rs[k]'(by rw [HN.out]; exact hlt), List.getElem?_eq_getElem _⟩
      obtain ⟨q, hq⟩ : ∃ q, qs[k]? = some q := ⟨qs[k]'(by rw [HM.out]; exact hlt), List.getElem?_eq_getElem _⟩
      have hd1 : (rs.map ER.x).drop k = r.x :: (rs.map ER.x).drop (k + 1) := by
        obtain ⟨h1, h2⟩ := List.getElem?_eq_some_iff.1 hr
        rw [← List.map_drop, ← List.map_drop, List.drop_eq_getElem_cons h1, h2]; rfl
      have hd2 : (qs.map ER.x).drop k = q.x :: (qs.map ER.x).drop (k + 1) := by
        obtain ⟨h1, h2⟩ := List.getElem?_eq_some_iff.1 hq
        rw [← List.map_drop, ← List.map_drop, List.drop_eq_getElem_cons h1, h2]; rfl
      have hst := HK.out
      rw [hd1, hd2, sameL] at hst
      obtain ⟨b, off, rfl, _, hc⟩ := (HA.out.next HO.out).at_ hr
      obtain ⟨b', off', rfl, _, hc'⟩ := (HB.out.next HO.out).at_ hq
      have HSE := Lib.hid (fun (u : World) (hu : Only Nil wr u) => same_entry r q u (((HA.out.next HO.out).next hu).data r (List.mem_of_getElem? hr)) (((HB.out.next HO.out).next hu).data q (List.mem_of_getElem? hq)))
      obtain ⟨S, hS⟩ : ∃ S, sameE r.x q.x = S := ⟨_, rfl⟩
      rw [hS] at HSE hst
      have HST := Lib.hid hst
      have hc1 : ∀ u, Only Nil wr u → ∀ j v, r.cells[j]? = some v → u.cell? ⟨b, off + (k * 8 + j), none⟩ = some v := fun u hO j v hj => (hO.cell (lt_of_cell (hc j v hj)) (fun h => h)).trans (hc j v hj)
      have hc2 : ∀ u, Only Nil wr u → ∀ j v, q.cells[j]? = some v → u.cell? ⟨b', off' + (k * 8 + j), none⟩ = some v := fun u hO j v hj => (hO.cell (lt_of_cell (hc' j v hj)) (fun h => h)).trans (hc' j v hj)
      have HC1 := Lib.hid hc1
      have HC2 := Lib.hid hc2
      have hki : (k : Int) < M := by omega
      clear hr hq hd1 hd2 hc hc' hc1 hc2 hst hS
      obtain ⟨Ad, cd, ⟨kind, task, call, a0, a1, a2, result, data⟩⟩ := r
      obtain ⟨Bd, dd, ⟨kind', task', call', b0, b1, b2, result', data'⟩⟩ := q
      unfold ER.cells at HC1 HC2 HSE
      dsimp only at HC1 HC2 HSE
      obtain ⟨D, hD⟩ : ∃ D, data.length = D := ⟨_, rfl⟩
      obtain ⟨D', hD'⟩ : ∃ D, data'.length = D := ⟨_, rfl⟩
      rw [hD] at HC1 HSE
      rw [hD'] at HC2 HSE
      clear hD hD'
      go_wp2_with fail
      have HIN : Hid (∀ (L : Nat → Bool) (vs : Nat → Value) (u u' : World), Only Nil u u' → (fun _ _ u => Only Nil wr u) L vs u → (fun _ _ u => Only Nil wr u) L vs u') := Lib.hid (fun L vs u u' hO hI => by
        exact hI.thenNil hO)
      refine wp_region_any (by kernel_rfl) ?_
      change wpAny _ _ _ _ _ _ _ (World.drew _)
      refine take_first (i := 0) (v := ?v0_1) (some 17) rfl (by rfl) (by kernel_rfl) (by kernel_rfl) (by kernel_rfl) (fun _ _ _ h => h) (Or.inl ⟨by rfl, ?hy0_1⟩) ?rest0_1
      case hy0_1 => (intro w; go_simp <;> with_reducible rfl)
      refine take_first (i := 1) (v := ?v1_1) (some 18) rfl (by rfl) (by kernel_rfl) (by kernel_rfl) (by kernel_rfl) (fun _ _ _ h => h) (Or.inl ⟨by rfl, ?hy1_1⟩) ?rest1_1
      case hy1_1 => (intro w; go_simp <;> with_reducible rfl)
      refine take_first (i := 2) (v := ?v2_1) (some 19) rfl (by rfl) (by kernel_rfl) (by kernel_rfl) (by kernel_rfl) (fun _ _ _ h => h) (Or.inl ⟨by rfl, ?hy2_1⟩) ?rest2_1
      case hy2_1 => (intro w; go_simp <;> with_reducible rfl)
      refine take_first (i := 4) (v := ?v4_1) (some 21) rfl (by rfl) (by kernel_rfl) (by kernel_rfl) (by kernel_rfl) (fun _ _ _ h => h) (Or.inl ⟨by rfl, ?hy4_1⟩) ?rest4_1
      case hy4_1 => (intro w; go_simp <;> with_reducible rfl)
      refine take_first (i := 5) (v := ?v5_1) (some 22) rfl (by rfl) (by kernel_rfl) (by kernel_rfl) (by kernel_rfl) (fun _ _ _ h => h) (Or.inl ⟨by rfl, ?hy5_1⟩) ?rest5_1
      case hy5_1 => (intro w; go_simp <;> with_reducible rfl)
      refine take_first (i := 6) (v := ?v6_1) (some 23) rfl (by rfl) (by kernel_rfl) (by kernel_rfl) (by kernel_rfl) (fun _ _ _ h => h) (Or.inl ⟨by rfl, ?hy6_1⟩) ?rest6_1
      case hy6_1 => (intro w; go_simp <;> with_reducible rfl)
      refine wpAny_inv2 (X := [(3, some 20, []), (7, some 24, [])]) (n := 2) (g := 2) (m := 8) (l0 := [true, true, true, false, true, true, true, false, false, false]) (T := Nil) (Ps := [Any, Any, Any, Cst (.agg #[.int .i64 kind, .int .i64 task, .int .i64 call, .int .i64 a0, .int .i64 a1, .int .i64 a2, .int .i64 result, .slice Ad D cd]), Any, Any, Any, Cst (.agg #[.int .i64 kind', .int .i64 task', .int .i64 call', .int .i64 b0, .int .i64 b1, .int .i64 b2, .int .i64 result', .slice Bd D' dd])])
        (I := fun _ _ u => Only Nil wr u)
        (by kernel_rfl) rfl (by kernel_rfl) (by kernel_rfl) (by kernel_rfl) rfl ?h0_1 ?st_1 ?i0_1 ?step_1 ?fin_1
      case h0_1 =>
        intro j hj v u
        match j, hj with
        | 0, hj => trivial
        | 1, hj => trivial
        | 2, hj => trivial
        | 3, hj => exact absurd hj (by decide)
        | 4, hj => trivial
        | 5, hj => trivial
        | 6, hj => trivial
        | 7, hj => exact absurd hj (by decide)
        | 8, hj => exact absurd hj (by decide)
        | 9, hj => exact absurd hj (by decide)
        | n + 10, hj => exact absurd hj (by simp)
      case st_1 =>
        have hT : ∀ x, (Nil) x → x < 0 := fun x h => h.elim
        intro p hp
        simp only [List.mem_cons, List.not_mem_nil, or_false] at hp
        rcases hp with rfl | rfl | rfl | rfl | rfl | rfl | rfl | rfl <;> first | exact Stays.cst _ | exact Stays.own hT | exact Stays.emp hT | exact Stays.any
      case i0_1 =>
        intro vs
        exact (Only.refl _ _).drew
      case step_1 =>
        intro x hx L vs u hI hA h0 hd
        simp only [List.mem_cons, List.not_mem_nil, or_false] at hx
        rcases hx with rfl | rfl
        · refine inv_step _ (by rfl) (by rfl) (fun K' hK => ?_)
          simp only [putAll, Act.put, List.setIfInBounds_toArray, List.set_cons_succ, List.set_cons_zero] at hK ⊢
          have e := HC1.out _ hI
          have e0 : u.cell? ⟨b, off + k * 8, none⟩ = some (.int .i64 kind) := e 0 _ rfl
          have e1 : u.cell? ⟨b, off + k * 8 + 1, none⟩ = some (.int .i64 task) := e 1 _ rfl
          have e2 : u.cell? ⟨b, off + k * 8 + 2, none⟩ = some (.int .i64 call) := e 2 _ rfl
          have e3 : u.cell? ⟨b, off + k * 8 + 3, none⟩ = some (.int .i64 a0) := e 3 _ rfl
          have e4 : u.cell? ⟨b, off + k * 8 + 4, none⟩ = some (.int .i64 a1) := e 4 _ rfl
          have e5 : u.cell? ⟨b, off + k * 8 + 5, none⟩ = some (.int .i64 a2) := e 5 _ rfl
          have e6 : u.cell? ⟨b, off + k * 8 + 6, none⟩ = some (.int .i64 result) := e 6 _ rfl
          have e7 : u.cell? ⟨b, off + k * 8 + 7, none⟩ = some (.slice Ad D cd) := e 7 _ rfl
          go_simp
          exact hK _ _ ⟨Only.refl _ _, hI, rfl⟩
        · refine inv_step _ (by rfl) (by rfl) (fun K' hK => ?_)
          simp only [putAll, Act.put, List.setIfInBounds_toArray, List.set_cons_succ, List.set_cons_zero] at hK ⊢
          have e := HC2.out _ hI
          have e0 : u.cell? ⟨b', off' + k * 8, none⟩ = some (.int .i64 kind') := e 0 _ rfl
          have e1 : u.cell? ⟨b', off' + k * 8 + 1, none⟩ = some (.int .i64 task') := e 1 _ rfl
          have e2 : u.cell? ⟨b', off' + k * 8 + 2, none⟩ = some (.int .i64 call') := e 2 _ rfl
          have e3 : u.cell? ⟨b', off' + k * 8 + 3, none⟩ = some (.int .i64 b0) := e 3 _ rfl
          have e4 : u.cell? ⟨b', off' + k * 8 + 4, none⟩ = some (.int .i64 b1) := e 4 _ rfl
          have e5 : u.cell? ⟨b', off' + k * 8 + 5, none⟩ = some (.int .i64 b2) := e 5 _ rfl
          have e6 : u.cell? ⟨b', off' + k * 8 + 6, none⟩ = some (.int .i64 result') := e 6 _ rfl
          have e7 : u.cell? ⟨b', off' + k * 8 + 7, none⟩ = some (.slice Bd D' dd) := e 7 _ rfl
          go_simp
          exact hK _ _ ⟨Only.refl _ _, hI, rfl⟩
      case fin_1 =>
        intro L vs u hI hL hA
        simp only [putAll, Act.put, List.setIfInBounds_toArray, List.set_cons_succ, List.set_cons_zero, List.drop_succ_cons, List.drop_zero]
        have e3 := hA 3 (by omega)
        change vs 3 = .agg #[.int .i64 kind, .int .i64 task, .int .i64 call, .int .i64 a0, .int .i64 a1, .int .i64 a2, .int .i64 result, .slice Ad D cd] at e3
        have e7 := hA 7 (by omega)
        change vs 7 = .agg #[.int .i64 kind', .int .i64 task', .int .i64 call', .int .i64 b0, .int .i64 b1, .int .i64 b2, .int .i64 result', .slice Bd D' dd] at e7
        simp only [e3, e7]
        have HI := Lib.hid hI
        clear hA hL hI e3 e7
        go_wp2_with fail
        refine (HSE.out _ HI.out).mono ?_
        rintro x w2 ⟨rfl, hO2⟩
        have HO2 := Lib.hid (HO.out.thenNil (HI.out.thenNil hO2))
        clear hO2
        cases S
        · go_wp2_with fail
          go_ret
          exact ⟨by rw [← HST.out]; rfl, HO2.out⟩
        · go_wp2_with fail
          go_roundw
          case rel => exact ⟨k + 1, by omega, by go_num, HST.out, HO2.out⟩
          case measure => simp [intOf]; omega
    · have hkM : k = M := by omega
      subst hkM
      have h1 : (rs.map ER.x).drop k = [] := List.drop_eq_nil_of_le (by simp [HN.out])
      have h2 : (qs.map ER.x).drop k = [] := List.drop_eq_nil_of_le (by simp [HM.out])
      have hst := HK.out
      rw [h1, h2, sameL] at hst
      have HST := Lib.hid hst
      clear hst h1 h2
      go_wp2_with fail
      go_ret
      exact ⟨by rw [← HST.out]; rfl, HO.out⟩

end Go.Proofs.Ytkcmdibpndkfbaa
