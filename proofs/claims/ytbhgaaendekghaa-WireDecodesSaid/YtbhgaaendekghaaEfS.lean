/-
  The walk of ratoonref01.SameEffects.
  Conditions: the effects can be read.
-/
import Derived.Test.YtbhgaaendekghaaEfT
import Derived.Test.YtbhgaaendekghaaIn3
namespace Go.Proofs.Ytbhgaaendekghaa
open Go.RowKit

set_option maxRecDepth 100000 in
set_option maxHeartbeats 8000000 in
theorem Ref.same_effects (A B : Option Addr) (ca cb : Nat) (rs qs : List FR) (w : World) (ha : Fs w w.heap.size A rs) (hb : Fs w w.heap.size B qs) (hl : rs.length ≤ 1099511627776) :
    Calls Try.prog 18 #[.slice A rs.length ca, .slice B qs.length cb] w fun e w' => e = .returned (.bool (sameFs (rs.map FR.x) (qs.map FR.x))) ∧ Only Nil w w' := by
  obtain ⟨N, hN⟩ : ∃ N, rs.length = N := ⟨_, rfl⟩
  obtain ⟨M, hM⟩ : ∃ M, qs.length = M := ⟨_, rfl⟩
  obtain ⟨R, hR⟩ : ∃ R, sameFs (rs.map FR.x) (qs.map FR.x) = R := ⟨_, rfl⟩
  by_cases hne : rs.length = qs.length
  rotate_left
  · have hRf : R = false := by rw [← hR]; exact sameFs_len (by simpa using hne)
    have hNM : N ≠ M := by omega
    have hb1 : ((N : Int) == (M : Int)) = false := beq_false_of_ne (by omega)
    have hb2 : ((N : Int) != (M : Int)) = true := by simp; omega
    have HRF := Lib.hid hRf
    rw [hN, hM, hR]
    clear hN hM hR ha hb hne hRf
    go_enter Try.func18, Try.ntmps18
    go_wp2_with fail
    go_ret
    exact ⟨by rw [HRF.out]; rfl, Only.refl _ _⟩
  have hMN : M = N := by omega
  subst hMN
  rw [hN, hM, hR]
  rw [hN] at hl
  have HN := Lib.hid hN
  have HM := Lib.hid hM
  have HR := Lib.hid hR
  have HA := Lib.hid ha
  have HB := Lib.hid hb
  clear hN hM hR ha hb hne
  go_enter Try.func18, Try.ntmps18
  go_wp2_with fail
  go_loopw [5] (fun i wr => ∃ k : Nat, k ≤ M ∧ i = .int .i64 k ∧ sameFs ((rs.map FR.x).drop k) ((qs.map FR.x).drop k) = R ∧ Only Nil w wr) (fun i _ => M - (intOf i).toNat)
  case atStart => exact ⟨0, Nat.zero_le _, rfl, HR.out, Only.refl _ _⟩
  case round =>
    obtain ⟨k, hk, rfl, hrel2, hO⟩ := hrel
    have HK := Lib.hid hrel2
    have HO := Lib.hid hO
    clear hrel2 hO
    by_cases hlt : k < M
    rotate_left
    · have hkM : k = M := by omega
      subst hkM
      have h1 : (rs.map FR.x).drop k = [] := List.drop_eq_nil_of_le (by simp [HN.out])
      have h2 : (qs.map FR.x).drop k = [] := List.drop_eq_nil_of_le (by simp [HM.out])
      have hst := HK.out
      rw [h1, h2, sameFs] at hst
      have HST := Lib.hid hst
      clear hst h1 h2
      go_wp2_with fail
      go_ret
      exact ⟨by rw [← HST.out]; rfl, HO.out⟩
    obtain ⟨r, hr⟩ : ∃ r, rs[k]? = some r := ⟨rs[k]'(by rw [HN.out]; exact hlt), List.getElem?_eq_getElem _⟩
    obtain ⟨q, hq⟩ : ∃ q, qs[k]? = some q := ⟨qs[k]'(by rw [HM.out]; exact hlt), List.getElem?_eq_getElem _⟩
    have hd1 : (rs.map FR.x).drop k = r.x :: (rs.map FR.x).drop (k + 1) := by
      obtain ⟨h1, h2⟩ := List.getElem?_eq_some_iff.1 hr
      rw [← List.map_drop, ← List.map_drop, List.drop_eq_getElem_cons h1, h2]; rfl
    have hd2 : (qs.map FR.x).drop k = q.x :: (qs.map FR.x).drop (k + 1) := by
      obtain ⟨h1, h2⟩ := List.getElem?_eq_some_iff.1 hq
      rw [← List.map_drop, ← List.map_drop, List.drop_eq_getElem_cons h1, h2]; rfl
    have hst := HK.out
    rw [hd1, hd2, sameFs] at hst
    obtain ⟨b, off, rfl, _, hc⟩ := (HA.out.next HO.out).at_ hr
    obtain ⟨b', off', rfl, _, hc'⟩ := (HB.out.next HO.out).at_ hq
    have hrok := fun (u : World) (hu : Only Nil wr u) => ((HA.out.next HO.out).next hu).ok r (List.mem_of_getElem? hr)
    have hqok := fun (u : World) (hu : Only Nil wr u) => ((HB.out.next HO.out).next hu).ok q (List.mem_of_getElem? hq)
    have hsm := fun (u : World) (hu : Only Nil wr u) => same_msg r.Am r.cm r.x.msg q.Am q.cm q.x.msg u (hrok u hu).bm (hqok u hu).bm
    have hsd := fun (u : World) (hu : Only Nil wr u) => same_bytes r.Ad q.Ad r.cd q.cd r.x.data q.x.data u (hrok u hu).bd (hqok u hu).bd
    have hc1 : ∀ u, Only Nil wr u → ∀ j v, r.cells[j]? = some v → u.cell? ⟨b, off + (k * 15 + j), none⟩ = some v := fun u hO j v hj => (hO.cell (lt_of_cell (hc j v hj)) (fun h => h)).trans (hc j v hj)
    have hc2 : ∀ u, Only Nil wr u → ∀ j v, q.cells[j]? = some v → u.cell? ⟨b', off' + (k * 15 + j), none⟩ = some v := fun u hO j v hj => (hO.cell (lt_of_cell (hc' j v hj)) (fun h => h)).trans (hc' j v hj)
    have hki : (k : Int) < M := by omega
    clear hr hq hd1 hd2 hc hc' hrok hqok
    obtain ⟨Am, cm, Ad, cd, ⟨kind, a0, a1, a2, a3, mx, data⟩⟩ := r
    obtain ⟨Am', cm', Ad', cd', ⟨kind', a0', a1', a2', a3', mx', data'⟩⟩ := q
    dsimp only at hst hsm hsd
    unfold sameF at hst
    dsimp only at hst
    have hq4 := fun u => eqArr4 a0 a1 a2 a3 a0' a1' a2' a3' u
    obtain ⟨p1, h1⟩ : ∃ p, (kind == kind') = p := ⟨_, rfl⟩
    obtain ⟨p2, h2⟩ : ∃ p, (a0 == a0' && (a1 == a1' && (a2 == a2' && a3 == a3'))) = p := ⟨_, rfl⟩
    obtain ⟨p3, h3⟩ : ∃ p, sameM mx mx' = p := ⟨_, rfl⟩
    obtain ⟨p4, h4⟩ : ∃ p, (data == data') = p := ⟨_, rfl⟩
    rw [h1, h2, h3, h4] at hst
    rw [h2] at hq4
    rw [h3] at hsm
    rw [h4] at hsd
    have h1n : (kind != kind') = !p1 := by rw [bne, h1]
    clear h2 h3 h4
    obtain ⟨src, dst, mk, seq, b0, b1, b2, b3, md⟩ := mx
    obtain ⟨src', dst', mk', seq', b0', b1', b2', b3', md'⟩ := mx'
    unfold FR.cells mcells at hc1 hc2
    unfold mcells at hsm
    simp only [List.cons_append, List.nil_append] at hc1 hc2
    dsimp only at hsm hsd
    obtain ⟨X, hX⟩ : ∃ X, md.length = X := ⟨_, rfl⟩
    obtain ⟨Y, hY⟩ : ∃ Y, data.length = Y := ⟨_, rfl⟩
    obtain ⟨X', hX'⟩ : ∃ X, md'.length = X := ⟨_, rfl⟩
    obtain ⟨Y', hY'⟩ : ∃ Y, data'.length = Y := ⟨_, rfl⟩
    rw [hX, hY] at hc1
    rw [hX', hY'] at hc2
    rw [hX, hX'] at hsm
    rw [hY, hY'] at hsd
    have hS : ∀ u, Only Nil wr u → u.cell? ⟨b, off + k * 15, none⟩ = some (.int .i64 kind) ∧ u.cell? ⟨b, off + k * 15 + 1, none⟩ = some (.int .i64 a0) ∧ u.cell? ⟨b, off + k * 15 + 2, none⟩ = some (.int .i64 a1) ∧ u.cell? ⟨b, off + k * 15 + 3, none⟩ = some (.int .i64 a2) ∧ u.cell? ⟨b, off + k * 15 + 4, none⟩ = some (.int .i64 a3) ∧ u.cell? ⟨b, off + k * 15 + 5, none⟩ = some (.int .i64 src) ∧ u.cell? ⟨b, off + k * 15 + 6, none⟩ = some (.int .i64 dst) ∧ u.cell? ⟨b, off + k * 15 + 7, none⟩ = some (.int .i64 mk) ∧ u.cell? ⟨b, off + k * 15 + 8, none⟩ = some (.int .i64 seq) ∧ u.cell? ⟨b, off + k * 15 + 9, none⟩ = some (.int .i64 b0) ∧ u.cell? ⟨b, off + k * 15 + 10, none⟩ = some (.int .i64 b1) ∧ u.cell? ⟨b, off + k * 15 + 11, none⟩ = some (.int .i64 b2) ∧ u.cell? ⟨b, off + k * 15 + 12, none⟩ = some (.int .i64 b3) ∧ u.cell? ⟨b, off + k * 15 + 13, none⟩ = some (.slice Am X cm) ∧ u.cell? ⟨b, off + k * 15 + 14, none⟩ = some (.slice Ad Y cd) ∧ u.cell? ⟨b', off' + k * 15, none⟩ = some (.int .i64 kind') ∧ u.cell? ⟨b', off' + k * 15 + 1, none⟩ = some (.int .i64 a0') ∧ u.cell? ⟨b', off' + k * 15 + 2, none⟩ = some (.int .i64 a1') ∧ u.cell? ⟨b', off' + k * 15 + 3, none⟩ = some (.int .i64 a2') ∧ u.cell? ⟨b', off' + k * 15 + 4, none⟩ = some (.int .i64 a3') ∧ u.cell? ⟨b', off' + k * 15 + 5, none⟩ = some (.int .i64 src') ∧ u.cell? ⟨b', off' + k * 15 + 6, none⟩ = some (.int .i64 dst') ∧ u.cell? ⟨b', off' + k * 15 + 7, none⟩ = some (.int .i64 mk') ∧ u.cell? ⟨b', off' + k * 15 + 8, none⟩ = some (.int .i64 seq') ∧ u.cell? ⟨b', off' + k * 15 + 9, none⟩ = some (.int .i64 b0') ∧ u.cell? ⟨b', off' + k * 15 + 10, none⟩ = some (.int .i64 b1') ∧ u.cell? ⟨b', off' + k * 15 + 11, none⟩ = some (.int .i64 b2') ∧ u.cell? ⟨b', off' + k * 15 + 12, none⟩ = some (.int .i64 b3') ∧ u.cell? ⟨b', off' + k * 15 + 13, none⟩ = some (.slice Am' X' cm') ∧ u.cell? ⟨b', off' + k * 15 + 14, none⟩ = some (.slice Ad' Y' cd') := fun u hu => by
      have e := hc1 u hu
      have e' := hc2 u hu
      refine ⟨e 0 _ rfl, (by have := e 1 _ rfl; rwa [← Nat.add_assoc] at this), (by have := e 2 _ rfl; rwa [← Nat.add_assoc] at this), (by have := e 3 _ rfl; rwa [← Nat.add_assoc] at this), (by have := e 4 _ rfl; rwa [← Nat.add_assoc] at this), (by have := e 5 _ rfl; rwa [← Nat.add_assoc] at this), (by have := e 6 _ rfl; rwa [← Nat.add_assoc] at this), (by have := e 7 _ rfl; rwa [← Nat.add_assoc] at this), (by have := e 8 _ rfl; rwa [← Nat.add_assoc] at this), (by have := e 9 _ rfl; rwa [← Nat.add_assoc] at this), (by have := e 10 _ rfl; rwa [← Nat.add_assoc] at this), (by have := e 11 _ rfl; rwa [← Nat.add_assoc] at this), (by have := e 12 _ rfl; rwa [← Nat.add_assoc] at this), (by have := e 13 _ rfl; rwa [← Nat.add_assoc] at this), (by have := e 14 _ rfl; rwa [← Nat.add_assoc] at this), e' 0 _ rfl, (by have := e' 1 _ rfl; rwa [← Nat.add_assoc] at this), (by have := e' 2 _ rfl; rwa [← Nat.add_assoc] at this), (by have := e' 3 _ rfl; rwa [← Nat.add_assoc] at this), (by have := e' 4 _ rfl; rwa [← Nat.add_assoc] at this), (by have := e' 5 _ rfl; rwa [← Nat.add_assoc] at this), (by have := e' 6 _ rfl; rwa [← Nat.add_assoc] at this), (by have := e' 7 _ rfl; rwa [← Nat.add_assoc] at this), (by have := e' 8 _ rfl; rwa [← Nat.add_assoc] at this), (by have := e' 9 _ rfl; rwa [← Nat.add_assoc] at this), (by have := e' 10 _ rfl; rwa [← Nat.add_assoc] at this), (by have := e' 11 _ rfl; rwa [← Nat.add_assoc] at this), (by have := e' 12 _ rfl; rwa [← Nat.add_assoc] at this), (by have := e' 13 _ rfl; rwa [← Nat.add_assoc] at this), (by have := e' 14 _ rfl; rwa [← Nat.add_assoc] at this)⟩
    have HS := Lib.hid hS
    have HSM := Lib.hid hsm
    have HSD := Lib.hid hsd
    have HST := Lib.hid hst
    clear hc1 hc2 hX hY hX' hY' hS hsm hsd hst hlt
    cases p1
    · have h1m : (kind != kind') = true := h1n
      clear h1n
      go_wp2_with fail
      have HIN : Hid (∀ (L : Nat → Bool) (vs : Nat → Value) (u u' : World), Only Nil u u' → (fun _ _ u => Only Nil wr u) L vs u → (fun _ _ u => Only Nil wr u) L vs u') := Lib.hid (fun L vs u u' hO hI => by
        exact hI.thenNil hO)
      refine wp_region_any (by kernel_rfl) ?_
      change wpAny _ _ _ _ _ _ _ (World.drew _)
      refine take_first (i := 0) (v := ?v0_7) (some 17) rfl (by rfl) (by kernel_rfl) (by kernel_rfl) (by kernel_rfl) (fun _ _ _ h => h) (Or.inl ⟨by rfl, ?hy0_7⟩) ?rest0_7
      case hy0_7 => (intro w; go_simp <;> with_reducible rfl)
      refine take_first (i := 1) (v := ?v1_7) (some 18) rfl (by rfl) (by kernel_rfl) (by kernel_rfl) (by kernel_rfl) (fun _ _ _ h => h) (Or.inl ⟨by rfl, ?hy1_7⟩) ?rest1_7
      case hy1_7 => (intro w; go_simp <;> with_reducible rfl)
      refine take_first (i := 2) (v := ?v2_7) (some 19) rfl (by rfl) (by kernel_rfl) (by kernel_rfl) (by kernel_rfl) (fun _ _ _ h => h) (Or.inl ⟨by rfl, ?hy2_7⟩) ?rest2_7
      case hy2_7 => (intro w; go_simp <;> with_reducible rfl)
      refine take_first (i := 3) (v := ?v3_7) (some 20) rfl (by rfl) (by kernel_rfl) (by kernel_rfl) (by kernel_rfl) (fun _ _ _ h => h) (Or.inl ⟨by rfl, ?hy3_7⟩) ?rest3_7
      case hy3_7 => (intro w; go_simp <;> with_reducible rfl)
      refine take_first (i := 5) (v := ?v5_7) (some 22) rfl (by rfl) (by kernel_rfl) (by kernel_rfl) (by kernel_rfl) (fun _ _ _ h => h) (Or.inl ⟨by rfl, ?hy5_7⟩) ?rest5_7
      case hy5_7 => (intro w; go_simp <;> with_reducible rfl)
      refine take_first (i := 6) (v := ?v6_7) (some 23) rfl (by rfl) (by kernel_rfl) (by kernel_rfl) (by kernel_rfl) (fun _ _ _ h => h) (Or.inl ⟨by rfl, ?hy6_7⟩) ?rest6_7
      case hy6_7 => (intro w; go_simp <;> with_reducible rfl)
      refine take_first (i := 7) (v := ?v7_7) (some 24) rfl (by rfl) (by kernel_rfl) (by kernel_rfl) (by kernel_rfl) (fun _ _ _ h => h) (Or.inl ⟨by rfl, ?hy7_7⟩) ?rest7_7
      case hy7_7 => (intro w; go_simp <;> with_reducible rfl)
      refine take_first (i := 8) (v := ?v8_7) (some 25) rfl (by rfl) (by kernel_rfl) (by kernel_rfl) (by kernel_rfl) (fun _ _ _ h => h) (Or.inl ⟨by rfl, ?hy8_7⟩) ?rest8_7
      case hy8_7 => (intro w; go_simp <;> with_reducible rfl)
      refine wpAny_inv3 (X := [(4, some 21, []), (9, some 26, []), (10, some 27, [4, 9]), (11, some 28, [10]), (12, some 29, [11]), (13, some 30, [11]), (14, some 31, [11, 12, 13]), (15, some 32, [11, 14]), (16, some 33, [11, 15]), (17, some 34, [11]), (18, some 35, [11]), (19, some 36, [11, 17, 18]), (20, some 37, [11, 19]), (21, some 38, [11, 20]), (22, some 39, [11, 16, 21]), (23, some 40, [11, 22]), (24, some 41, [23]), (25, some 42, [24]), (26, some 43, [24]), (27, some 44, [24, 25, 26]), (28, some 45, [24, 27]), (29, some 46, [24, 28]), (30, some 47, [24]), (31, some 48, [24]), (32, some 49, [24, 30, 31]), (33, some 50, [24, 32]), (34, some 51, [24, 33]), (35, some 52, [24, 29, 34]), (36, some 53, [24, 35]), (37, some 54, [24, 36]), (38, some 55, [37]), (39, some 56, [38]), (40, some 57, [38]), (41, some 58, [38, 39, 40]), (42, some 59, [38, 41]), (43, some 60, [38, 42]), (44, some 61, [38]), (45, some 62, [38]), (46, some 63, [38, 44, 45]), (47, some 64, [38, 46]), (48, some 65, [38, 47]), (49, some 66, [38, 43, 48]), (50, some 67, [38, 49])]) (n := 43) (g := 1) (m := 51) (l0 := [true, true, true, true, false, true, true, true, true, false, false, false, false, false, false, false, false, false, false, false, false, false, false, false, false, false, false, false, false, false, false, false, false, false, false, false, false, false, false, false, false, false, false, false, false, false, false, false, false, false, false, false]) (T := Nil) (Ps := [Any, Any, Any, Any, Cst (.int .i64 kind), Any, Any, Any, Any, Cst (.int .i64 kind'), Cst (.bool true), Cst (.bool true), Cst undef, Cst undef, Cst undef, Cst undef, Cst undef, Cst undef, Cst undef, Cst undef, Cst undef, Cst undef, Cst undef, Cst (.bool true), Cst (.bool true), Cst undef, Cst undef, Cst undef, Cst undef, Cst undef, Cst undef, Cst undef, Cst undef, Cst undef, Cst undef, Cst undef, Cst undef, Cst (.bool true), Cst (.bool true), Cst undef, Cst undef, Cst undef, Cst undef, Cst undef, Cst undef, Cst undef, Cst undef, Cst undef, Cst undef, Cst undef, Cst undef])
        (I := fun _ _ u => Only Nil wr u)
        (by kernel_rfl) rfl (by kernel_rfl) (chk_split [true, true, true, true, true, true, true, true, true, true, true, true, false, false, false, false, false, false, false, false, false, false, false, false, false, false, false, false, false, false, false, false, false, false, false, false, false, false, false, false, false, false, false, false, false, false, false, false, false, false, false, false] 4 39 rfl (by as_aux_lemma => kernel_rfl) (chk_split [true, true, true, true, true, true, true, true, true, true, true, true, true, true, true, true, true, true, true, true, true, true, true, true, true, false, false, false, false, false, false, false, false, false, false, false, false, false, false, false, false, false, false, false, false, false, false, false, false, false, false, false] 13 26 rfl (by as_aux_lemma => kernel_rfl) (chk_split [true, true, true, true, true, true, true, true, true, true, true, true, true, true, true, true, true, true, true, true, true, true, true, true, true, true, true, true, true, true, true, true, true, true, true, true, true, true, true, false, false, false, false, false, false, false, false, false, false, false, false, false] 14 12 rfl (by as_aux_lemma => kernel_rfl) (by as_aux_lemma => kernel_rfl)))) (by kernel_rfl) rfl ?h0_7 ?st_7 ?i0_7 ?step_7 ?fin_7
      case h0_7 =>
        intro j hj v u
        match j, hj with
        | 0, hj => trivial
        | 1, hj => trivial
        | 2, hj => trivial
        | 3, hj => trivial
        | 4, hj => exact absurd hj (by decide)
        | 5, hj => trivial
        | 6, hj => trivial
        | 7, hj => trivial
        | 8, hj => trivial
        | 9, hj => exact absurd hj (by decide)
        | 10, hj => exact absurd hj (by decide)
        | 11, hj => exact absurd hj (by decide)
        | 12, hj => exact absurd hj (by decide)
        | 13, hj => exact absurd hj (by decide)
        | 14, hj => exact absurd hj (by decide)
        | 15, hj => exact absurd hj (by decide)
        | 16, hj => exact absurd hj (by decide)
        | 17, hj => exact absurd hj (by decide)
        | 18, hj => exact absurd hj (by decide)
        | 19, hj => exact absurd hj (by decide)
        | 20, hj => exact absurd hj (by decide)
        | 21, hj => exact absurd hj (by decide)
        | 22, hj => exact absurd hj (by decide)
        | 23, hj => exact absurd hj (by decide)
        | 24, hj => exact absurd hj (by decide)
        | 25, hj => exact absurd hj (by decide)
        | 26, hj => exact absurd hj (by decide)
        | 27, hj => exact absurd hj (by decide)
        | 28, hj => exact absurd hj (by decide)
        | 29, hj => exact absurd hj (by decide)
        | 30, hj => exact absurd hj (by decide)
        | 31, hj => exact absurd hj (by decide)
        | 32, hj => exact absurd hj (by decide)
        | 33, hj => exact absurd hj (by decide)
        | 34, hj => exact absurd hj (by decide)
        | 35, hj => exact absurd hj (by decide)
        | 36, hj => exact absurd hj (by decide)
        | 37, hj => exact absurd hj (by decide)
        | 38, hj => exact absurd hj (by decide)
        | 39, hj => exact absurd hj (by decide)
        | 40, hj => exact absurd hj (by decide)
        | 41, hj => exact absurd hj (by decide)
        | 42, hj => exact absurd hj (by decide)
        | 43, hj => exact absurd hj (by decide)
        | 44, hj => exact absurd hj (by decide)
        | 45, hj => exact absurd hj (by decide)
        | 46, hj => exact absurd hj (by decide)
        | 47, hj => exact absurd hj (by decide)
        | 48, hj => exact absurd hj (by decide)
        | 49, hj => exact absurd hj (by decide)
        | 50, hj => exact absurd hj (by decide)
        | 51, hj => exact absurd hj (by decide)
        | n + 52, hj => exact absurd hj (by simp)
      case st_7 =>
        have hT : ∀ x, (Nil) x → x < 0 := fun x h => h.elim
        intro p hp
        simp only [List.mem_cons, List.not_mem_nil, or_false] at hp
        rcases hp with rfl | rfl | rfl | rfl | rfl | rfl | rfl | rfl | rfl | rfl | rfl | rfl | rfl | rfl | rfl | rfl | rfl | rfl | rfl | rfl | rfl | rfl | rfl | rfl | rfl | rfl | rfl | rfl | rfl | rfl | rfl | rfl | rfl | rfl | rfl | rfl | rfl | rfl | rfl | rfl | rfl | rfl | rfl | rfl | rfl | rfl | rfl | rfl | rfl | rfl | rfl <;> first | exact Stays.cst _ | exact Stays.own hT | exact Stays.emp hT | exact Stays.any
      case i0_7 =>
        intro vs
        exact (Only.refl _ _).drew
      case step_7 =>
        refine List.forall_mem_cons.2 ⟨fun L vs u hI hA h0 hd => ?_, ?_⟩
        · as_aux_lemma =>
          refine inv_step3 _ (by rfl) (by rfl) (fun K' hK => ?_)
          simp only [putAll, Act.put, List.setIfInBounds_toArray, List.set_cons_succ, List.set_cons_zero] at hK ⊢
          have hs := HS.out u hI
          obtain ⟨q0, q1, q2, q3, q4, q5, q6, q7, q8, q9, q10, q11, q12, q13, q14, q15, q16, q17, q18, q19, q20, q21, q22, q23, q24, q25, q26, q27, q28, q29⟩ := hs
          go_simp
          exact hK _ _ ⟨Only.refl _ _, hI, rfl⟩
        refine List.forall_mem_cons.2 ⟨fun L vs u hI hA h0 hd => ?_, ?_⟩
        · as_aux_lemma =>
          refine inv_step3 _ (by rfl) (by rfl) (fun K' hK => ?_)
          simp only [putAll, Act.put, List.setIfInBounds_toArray, List.set_cons_succ, List.set_cons_zero] at hK ⊢
          have hs := HS.out u hI
          obtain ⟨q0, q1, q2, q3, q4, q5, q6, q7, q8, q9, q10, q11, q12, q13, q14, q15, q16, q17, q18, q19, q20, q21, q22, q23, q24, q25, q26, q27, q28, q29⟩ := hs
          go_simp
          exact hK _ _ ⟨Only.refl _ _, hI, rfl⟩
        refine List.forall_mem_cons.2 ⟨fun L vs u hI hA h0 hd => ?_, ?_⟩
        · as_aux_lemma =>
          refine inv_step3 _ (by rfl) (by rfl) (fun K' hK => ?_)
          simp only [putAll, Act.put, List.setIfInBounds_toArray, List.set_cons_succ, List.set_cons_zero] at hK ⊢
          have e4 := hA 4 (hd 4 (by simp))
          change vs 4 = (.int .i64 kind) at e4
          have e9 := hA 9 (hd 9 (by simp))
          change vs 9 = (.int .i64 kind') at e9
          simp only [e4, e9] at hK
          go_simp
          exact hK _ _ ⟨Only.refl _ _, hI, rfl⟩
        refine List.forall_mem_cons.2 ⟨fun L vs u hI hA h0 hd => ?_, ?_⟩
        · as_aux_lemma =>
          refine inv_step3 _ (by rfl) (by rfl) (fun K' hK => ?_)
          simp only [putAll, Act.put, List.setIfInBounds_toArray, List.set_cons_succ, List.set_cons_zero] at hK ⊢
          have e10 := hA 10 (hd 10 (by simp))
          change vs 10 = (.bool true) at e10
          simp only [e10] at hK
          go_simp
          exact hK _ _ ⟨Only.refl _ _, hI, rfl⟩
        refine List.forall_mem_cons.2 ⟨fun L vs u hI hA h0 hd => ?_, ?_⟩
        · as_aux_lemma =>
          refine inv_step3 _ (by rfl) (by rfl) (fun K' hK => ?_)
          simp only [putAll, Act.put, List.setIfInBounds_toArray, List.set_cons_succ, List.set_cons_zero] at hK ⊢
          have e11 := hA 11 (hd 11 (by simp))
          change vs 11 = (.bool true) at e11
          simp only [e11] at hK
          go_simp
          exact hK _ _ ⟨Only.refl _ _, hI, rfl⟩
        refine List.forall_mem_cons.2 ⟨fun L vs u hI hA h0 hd => ?_, ?_⟩
        · as_aux_lemma =>
          refine inv_step3 _ (by rfl) (by rfl) (fun K' hK => ?_)
          simp only [putAll, Act.put, List.setIfInBounds_toArray, List.set_cons_succ, List.set_cons_zero] at hK ⊢
          have e11 := hA 11 (hd 11 (by simp))
          change vs 11 = (.bool true) at e11
          simp only [e11] at hK
          go_simp
          exact hK _ _ ⟨Only.refl _ _, hI, rfl⟩
        refine List.forall_mem_cons.2 ⟨fun L vs u hI hA h0 hd => ?_, ?_⟩
        · as_aux_lemma =>
          refine inv_step3 _ (by rfl) (by rfl) (fun K' hK => ?_)
          simp only [putAll, Act.put, List.setIfInBounds_toArray, List.set_cons_succ, List.set_cons_zero] at hK ⊢
          have e11 := hA 11 (hd 11 (by simp))
          change vs 11 = (.bool true) at e11
          have e12 := hA 12 (hd 12 (by simp))
          change vs 12 = undef at e12
          have e13 := hA 13 (hd 13 (by simp))
          change vs 13 = undef at e13
          simp only [e11, e12, e13] at hK
          go_simp
          exact hK _ _ ⟨Only.refl _ _, hI, rfl⟩
        refine List.forall_mem_cons.2 ⟨fun L vs u hI hA h0 hd => ?_, ?_⟩
        · as_aux_lemma =>
          refine inv_step3 _ (by rfl) (by rfl) (fun K' hK => ?_)
          simp only [putAll, Act.put, List.setIfInBounds_toArray, List.set_cons_succ, List.set_cons_zero] at hK ⊢
          have e11 := hA 11 (hd 11 (by simp))
          change vs 11 = (.bool true) at e11
          have e14 := hA 14 (hd 14 (by simp))
          change vs 14 = undef at e14
          simp only [e11, e14] at hK
          go_simp
          exact hK _ _ ⟨Only.refl _ _, hI, rfl⟩
        refine List.forall_mem_cons.2 ⟨fun L vs u hI hA h0 hd => ?_, ?_⟩
        · as_aux_lemma =>
          refine inv_step3 _ (by rfl) (by rfl) (fun K' hK => ?_)
          simp only [putAll, Act.put, List.setIfInBounds_toArray, List.set_cons_succ, List.set_cons_zero] at hK ⊢
          have e11 := hA 11 (hd 11 (by simp))
          change vs 11 = (.bool true) at e11
          have e15 := hA 15 (hd 15 (by simp))
          change vs 15 = undef at e15
          simp only [e11, e15] at hK
          go_simp
          exact hK _ _ ⟨Only.refl _ _, hI, rfl⟩
        refine List.forall_mem_cons.2 ⟨fun L vs u hI hA h0 hd => ?_, ?_⟩
        · as_aux_lemma =>
          refine inv_step3 _ (by rfl) (by rfl) (fun K' hK => ?_)
          simp only [putAll, Act.put, List.setIfInBounds_toArray, List.set_cons_succ, List.set_cons_zero] at hK ⊢
          have e11 := hA 11 (hd 11 (by simp))
          change vs 11 = (.bool true) at e11
          simp only [e11] at hK
          go_simp
          exact hK _ _ ⟨Only.refl _ _, hI, rfl⟩
        refine List.forall_mem_cons.2 ⟨fun L vs u hI hA h0 hd => ?_, ?_⟩
        · as_aux_lemma =>
          refine inv_step3 _ (by rfl) (by rfl) (fun K' hK => ?_)
          simp only [putAll, Act.put, List.setIfInBounds_toArray, List.set_cons_succ, List.set_cons_zero] at hK ⊢
          have e11 := hA 11 (hd 11 (by simp))
          change vs 11 = (.bool true) at e11
          simp only [e11] at hK
          go_simp
          exact hK _ _ ⟨Only.refl _ _, hI, rfl⟩
        refine List.forall_mem_cons.2 ⟨fun L vs u hI hA h0 hd => ?_, ?_⟩
        · as_aux_lemma =>
          refine inv_step3 _ (by rfl) (by rfl) (fun K' hK => ?_)
          simp only [putAll, Act.put, List.setIfInBounds_toArray, List.set_cons_succ, List.set_cons_zero] at hK ⊢
          have e11 := hA 11 (hd 11 (by simp))
          change vs 11 = (.bool true) at e11
          have e17 := hA 17 (hd 17 (by simp))
          change vs 17 = undef at e17
          have e18 := hA 18 (hd 18 (by simp))
          change vs 18 = undef at e18
          simp only [e11, e17, e18] at hK
          go_simp
          exact hK _ _ ⟨Only.refl _ _, hI, rfl⟩
        refine List.forall_mem_cons.2 ⟨fun L vs u hI hA h0 hd => ?_, ?_⟩
        · as_aux_lemma =>
          refine inv_step3 _ (by rfl) (by rfl) (fun K' hK => ?_)
          simp only [putAll, Act.put, List.setIfInBounds_toArray, List.set_cons_succ, List.set_cons_zero] at hK ⊢
          have e11 := hA 11 (hd 11 (by simp))
          change vs 11 = (.bool true) at e11
          have e19 := hA 19 (hd 19 (by simp))
          change vs 19 = undef at e19
          simp only [e11, e19] at hK
          go_simp
          exact hK _ _ ⟨Only.refl _ _, hI, rfl⟩
        refine List.forall_mem_cons.2 ⟨fun L vs u hI hA h0 hd => ?_, ?_⟩
        · as_aux_lemma =>
          refine inv_step3 _ (by rfl) (by rfl) (fun K' hK => ?_)
          simp only [putAll, Act.put, List.setIfInBounds_toArray, List.set_cons_succ, List.set_cons_zero] at hK ⊢
          have e11 := hA 11 (hd 11 (by simp))
          change vs 11 = (.bool true) at e11
          have e20 := hA 20 (hd 20 (by simp))
          change vs 20 = undef at e20
          simp only [e11, e20] at hK
          go_simp
          exact hK _ _ ⟨Only.refl _ _, hI, rfl⟩
        refine List.forall_mem_cons.2 ⟨fun L vs u hI hA h0 hd => ?_, ?_⟩
        · as_aux_lemma =>
          refine inv_step3 _ (by rfl) (by rfl) (fun K' hK => ?_)
          simp only [putAll, Act.put, List.setIfInBounds_toArray, List.set_cons_succ, List.set_cons_zero] at hK ⊢
          have e11 := hA 11 (hd 11 (by simp))
          change vs 11 = (.bool true) at e11
          have e16 := hA 16 (hd 16 (by simp))
          change vs 16 = undef at e16
          have e21 := hA 21 (hd 21 (by simp))
          change vs 21 = undef at e21
          simp only [e11, e16, e21] at hK
          go_simp
          exact hK _ _ ⟨Only.refl _ _, hI, rfl⟩
        refine List.forall_mem_cons.2 ⟨fun L vs u hI hA h0 hd => ?_, ?_⟩
        · as_aux_lemma =>
          refine inv_step3 _ (by rfl) (by rfl) (fun K' hK => ?_)
          simp only [putAll, Act.put, List.setIfInBounds_toArray, List.set_cons_succ, List.set_cons_zero] at hK ⊢
          have e11 := hA 11 (hd 11 (by simp))
          change vs 11 = (.bool true) at e11
          have e22 := hA 22 (hd 22 (by simp))
          change vs 22 = undef at e22
          simp only [e11, e22] at hK
          go_simp
          exact hK _ _ ⟨Only.refl _ _, hI, rfl⟩
        refine List.forall_mem_cons.2 ⟨fun L vs u hI hA h0 hd => ?_, ?_⟩
        · as_aux_lemma =>
          refine inv_step3 _ (by rfl) (by rfl) (fun K' hK => ?_)
          simp only [putAll, Act.put, List.setIfInBounds_toArray, List.set_cons_succ, List.set_cons_zero] at hK ⊢
          have e23 := hA 23 (hd 23 (by simp))
          change vs 23 = (.bool true) at e23
          simp only [e23] at hK
          go_simp
          exact hK _ _ ⟨Only.refl _ _, hI, rfl⟩
        refine List.forall_mem_cons.2 ⟨fun L vs u hI hA h0 hd => ?_, ?_⟩
        · as_aux_lemma =>
          refine inv_step3 _ (by rfl) (by rfl) (fun K' hK => ?_)
          simp only [putAll, Act.put, List.setIfInBounds_toArray, List.set_cons_succ, List.set_cons_zero] at hK ⊢
          have e24 := hA 24 (hd 24 (by simp))
          change vs 24 = (.bool true) at e24
          simp only [e24] at hK
          go_simp
          exact hK _ _ ⟨Only.refl _ _, hI, rfl⟩
        refine List.forall_mem_cons.2 ⟨fun L vs u hI hA h0 hd => ?_, ?_⟩
        · as_aux_lemma =>
          refine inv_step3 _ (by rfl) (by rfl) (fun K' hK => ?_)
          simp only [putAll, Act.put, List.setIfInBounds_toArray, List.set_cons_succ, List.set_cons_zero] at hK ⊢
          have e24 := hA 24 (hd 24 (by simp))
          change vs 24 = (.bool true) at e24
          simp only [e24] at hK
          go_simp
          exact hK _ _ ⟨Only.refl _ _, hI, rfl⟩
        refine List.forall_mem_cons.2 ⟨fun L vs u hI hA h0 hd => ?_, ?_⟩
        · as_aux_lemma =>
          refine inv_step3 _ (by rfl) (by rfl) (fun K' hK => ?_)
          simp only [putAll, Act.put, List.setIfInBounds_toArray, List.set_cons_succ, List.set_cons_zero] at hK ⊢
          have e24 := hA 24 (hd 24 (by simp))
          change vs 24 = (.bool true) at e24
          have e25 := hA 25 (hd 25 (by simp))
          change vs 25 = undef at e25
          have e26 := hA 26 (hd 26 (by simp))
          change vs 26 = undef at e26
          simp only [e24, e25, e26] at hK
          go_simp
          exact hK _ _ ⟨Only.refl _ _, hI, rfl⟩
        refine List.forall_mem_cons.2 ⟨fun L vs u hI hA h0 hd => ?_, ?_⟩
        · as_aux_lemma =>
          refine inv_step3 _ (by rfl) (by rfl) (fun K' hK => ?_)
          simp only [putAll, Act.put, List.setIfInBounds_toArray, List.set_cons_succ, List.set_cons_zero] at hK ⊢
          have e24 := hA 24 (hd 24 (by simp))
          change vs 24 = (.bool true) at e24
          have e27 := hA 27 (hd 27 (by simp))
          change vs 27 = undef at e27
          simp only [e24, e27] at hK
          go_simp
          exact hK _ _ ⟨Only.refl _ _, hI, rfl⟩
        refine List.forall_mem_cons.2 ⟨fun L vs u hI hA h0 hd => ?_, ?_⟩
        · as_aux_lemma =>
          refine inv_step3 _ (by rfl) (by rfl) (fun K' hK => ?_)
          simp only [putAll, Act.put, List.setIfInBounds_toArray, List.set_cons_succ, List.set_cons_zero] at hK ⊢
          have e24 := hA 24 (hd 24 (by simp))
          change vs 24 = (.bool true) at e24
          have e28 := hA 28 (hd 28 (by simp))
          change vs 28 = undef at e28
          simp only [e24, e28] at hK
          go_simp
          exact hK _ _ ⟨Only.refl _ _, hI, rfl⟩
        refine List.forall_mem_cons.2 ⟨fun L vs u hI hA h0 hd => ?_, ?_⟩
        · as_aux_lemma =>
          refine inv_step3 _ (by rfl) (by rfl) (fun K' hK => ?_)
          simp only [putAll, Act.put, List.setIfInBounds_toArray, List.set_cons_succ, List.set_cons_zero] at hK ⊢
          have e24 := hA 24 (hd 24 (by simp))
          change vs 24 = (.bool true) at e24
          simp only [e24] at hK
          go_simp
          exact hK _ _ ⟨Only.refl _ _, hI, rfl⟩
        refine List.forall_mem_cons.2 ⟨fun L vs u hI hA h0 hd => ?_, ?_⟩
        · as_aux_lemma =>
          refine inv_step3 _ (by rfl) (by rfl) (fun K' hK => ?_)
          simp only [putAll, Act.put, List.setIfInBounds_toArray, List.set_cons_succ, List.set_cons_zero] at hK ⊢
          have e24 := hA 24 (hd 24 (by simp))
          change vs 24 = (.bool true) at e24
          simp only [e24] at hK
          go_simp
          exact hK _ _ ⟨Only.refl _ _, hI, rfl⟩
        refine List.forall_mem_cons.2 ⟨fun L vs u hI hA h0 hd => ?_, ?_⟩
        · as_aux_lemma =>
          refine inv_step3 _ (by rfl) (by rfl) (fun K' hK => ?_)
          simp only [putAll, Act.put, List.setIfInBounds_toArray, List.set_cons_succ, List.set_cons_zero] at hK ⊢
          have e24 := hA 24 (hd 24 (by simp))
          change vs 24 = (.bool true) at e24
          have e30 := hA 30 (hd 30 (by simp))
          change vs 30 = undef at e30
          have e31 := hA 31 (hd 31 (by simp))
          change vs 31 = undef at e31
          simp only [e24, e30, e31] at hK
          go_simp
          exact hK _ _ ⟨Only.refl _ _, hI, rfl⟩
        refine List.forall_mem_cons.2 ⟨fun L vs u hI hA h0 hd => ?_, ?_⟩
        · as_aux_lemma =>
          refine inv_step3 _ (by rfl) (by rfl) (fun K' hK => ?_)
          simp only [putAll, Act.put, List.setIfInBounds_toArray, List.set_cons_succ, List.set_cons_zero] at hK ⊢
          have e24 := hA 24 (hd 24 (by simp))
          change vs 24 = (.bool true) at e24
          have e32 := hA 32 (hd 32 (by simp))
          change vs 32 = undef at e32
          simp only [e24, e32] at hK
          go_simp
          exact hK _ _ ⟨Only.refl _ _, hI, rfl⟩
        refine List.forall_mem_cons.2 ⟨fun L vs u hI hA h0 hd => ?_, ?_⟩
        · as_aux_lemma =>
          refine inv_step3 _ (by rfl) (by rfl) (fun K' hK => ?_)
          simp only [putAll, Act.put, List.setIfInBounds_toArray, List.set_cons_succ, List.set_cons_zero] at hK ⊢
          have e24 := hA 24 (hd 24 (by simp))
          change vs 24 = (.bool true) at e24
          have e33 := hA 33 (hd 33 (by simp))
          change vs 33 = undef at e33
          simp only [e24, e33] at hK
          go_simp
          exact hK _ _ ⟨Only.refl _ _, hI, rfl⟩
        refine List.forall_mem_cons.2 ⟨fun L vs u hI hA h0 hd => ?_, ?_⟩
        · as_aux_lemma =>
          refine inv_step3 _ (by rfl) (by rfl) (fun K' hK => ?_)
          simp only [putAll, Act.put, List.setIfInBounds_toArray, List.set_cons_succ, List.set_cons_zero] at hK ⊢
          have e24 := hA 24 (hd 24 (by simp))
          change vs 24 = (.bool true) at e24
          have e29 := hA 29 (hd 29 (by simp))
          change vs 29 = undef at e29
          have e34 := hA 34 (hd 34 (by simp))
          change vs 34 = undef at e34
          simp only [e24, e29, e34] at hK
          go_simp
          exact hK _ _ ⟨Only.refl _ _, hI, rfl⟩
        refine List.forall_mem_cons.2 ⟨fun L vs u hI hA h0 hd => ?_, ?_⟩
        · as_aux_lemma =>
          refine inv_step3 _ (by rfl) (by rfl) (fun K' hK => ?_)
          simp only [putAll, Act.put, List.setIfInBounds_toArray, List.set_cons_succ, List.set_cons_zero] at hK ⊢
          have e24 := hA 24 (hd 24 (by simp))
          change vs 24 = (.bool true) at e24
          have e35 := hA 35 (hd 35 (by simp))
          change vs 35 = undef at e35
          simp only [e24, e35] at hK
          go_simp
          exact hK _ _ ⟨Only.refl _ _, hI, rfl⟩
        refine List.forall_mem_cons.2 ⟨fun L vs u hI hA h0 hd => ?_, ?_⟩
        · as_aux_lemma =>
          refine inv_step3 _ (by rfl) (by rfl) (fun K' hK => ?_)
          simp only [putAll, Act.put, List.setIfInBounds_toArray, List.set_cons_succ, List.set_cons_zero] at hK ⊢
          have e24 := hA 24 (hd 24 (by simp))
          change vs 24 = (.bool true) at e24
          have e36 := hA 36 (hd 36 (by simp))
          change vs 36 = undef at e36
          simp only [e24, e36] at hK
          go_simp
          exact hK _ _ ⟨Only.refl _ _, hI, rfl⟩
        refine List.forall_mem_cons.2 ⟨fun L vs u hI hA h0 hd => ?_, ?_⟩
        · as_aux_lemma =>
          refine inv_step3 _ (by rfl) (by rfl) (fun K' hK => ?_)
          simp only [putAll, Act.put, List.setIfInBounds_toArray, List.set_cons_succ, List.set_cons_zero] at hK ⊢
          have e37 := hA 37 (hd 37 (by simp))
          change vs 37 = (.bool true) at e37
          simp only [e37] at hK
          go_simp
          exact hK _ _ ⟨Only.refl _ _, hI, rfl⟩
        refine List.forall_mem_cons.2 ⟨fun L vs u hI hA h0 hd => ?_, ?_⟩
        · as_aux_lemma =>
          refine inv_step3 _ (by rfl) (by rfl) (fun K' hK => ?_)
          simp only [putAll, Act.put, List.setIfInBounds_toArray, List.set_cons_succ, List.set_cons_zero] at hK ⊢
          have e38 := hA 38 (hd 38 (by simp))
          change vs 38 = (.bool true) at e38
          simp only [e38] at hK
          go_simp
          exact hK _ _ ⟨Only.refl _ _, hI, rfl⟩
        refine List.forall_mem_cons.2 ⟨fun L vs u hI hA h0 hd => ?_, ?_⟩
        · as_aux_lemma =>
          refine inv_step3 _ (by rfl) (by rfl) (fun K' hK => ?_)
          simp only [putAll, Act.put, List.setIfInBounds_toArray, List.set_cons_succ, List.set_cons_zero] at hK ⊢
          have e38 := hA 38 (hd 38 (by simp))
          change vs 38 = (.bool true) at e38
          simp only [e38] at hK
          go_simp
          exact hK _ _ ⟨Only.refl _ _, hI, rfl⟩
        refine List.forall_mem_cons.2 ⟨fun L vs u hI hA h0 hd => ?_, ?_⟩
        · as_aux_lemma =>
          refine inv_step3 _ (by rfl) (by rfl) (fun K' hK => ?_)
          simp only [putAll, Act.put, List.setIfInBounds_toArray, List.set_cons_succ, List.set_cons_zero] at hK ⊢
          have e38 := hA 38 (hd 38 (by simp))
          change vs 38 = (.bool true) at e38
          have e39 := hA 39 (hd 39 (by simp))
          change vs 39 = undef at e39
          have e40 := hA 40 (hd 40 (by simp))
          change vs 40 = undef at e40
          simp only [e38, e39, e40] at hK
          go_simp
          exact hK _ _ ⟨Only.refl _ _, hI, rfl⟩
        refine List.forall_mem_cons.2 ⟨fun L vs u hI hA h0 hd => ?_, ?_⟩
        · as_aux_lemma =>
          refine inv_step3 _ (by rfl) (by rfl) (fun K' hK => ?_)
          simp only [putAll, Act.put, List.setIfInBounds_toArray, List.set_cons_succ, List.set_cons_zero] at hK ⊢
          have e38 := hA 38 (hd 38 (by simp))
          change vs 38 = (.bool true) at e38
          have e41 := hA 41 (hd 41 (by simp))
          change vs 41 = undef at e41
          simp only [e38, e41] at hK
          go_simp
          exact hK _ _ ⟨Only.refl _ _, hI, rfl⟩
        refine List.forall_mem_cons.2 ⟨fun L vs u hI hA h0 hd => ?_, ?_⟩
        · as_aux_lemma =>
          refine inv_step3 _ (by rfl) (by rfl) (fun K' hK => ?_)
          simp only [putAll, Act.put, List.setIfInBounds_toArray, List.set_cons_succ, List.set_cons_zero] at hK ⊢
          have e38 := hA 38 (hd 38 (by simp))
          change vs 38 = (.bool true) at e38
          have e42 := hA 42 (hd 42 (by simp))
          change vs 42 = undef at e42
          simp only [e38, e42] at hK
          go_simp
          exact hK _ _ ⟨Only.refl _ _, hI, rfl⟩
        refine List.forall_mem_cons.2 ⟨fun L vs u hI hA h0 hd => ?_, ?_⟩
        · as_aux_lemma =>
          refine inv_step3 _ (by rfl) (by rfl) (fun K' hK => ?_)
          simp only [putAll, Act.put, List.setIfInBounds_toArray, List.set_cons_succ, List.set_cons_zero] at hK ⊢
          have e38 := hA 38 (hd 38 (by simp))
          change vs 38 = (.bool true) at e38
          simp only [e38] at hK
          go_simp
          exact hK _ _ ⟨Only.refl _ _, hI, rfl⟩
        refine List.forall_mem_cons.2 ⟨fun L vs u hI hA h0 hd => ?_, ?_⟩
        · as_aux_lemma =>
          refine inv_step3 _ (by rfl) (by rfl) (fun K' hK => ?_)
          simp only [putAll, Act.put, List.setIfInBounds_toArray, List.set_cons_succ, List.set_cons_zero] at hK ⊢
          have e38 := hA 38 (hd 38 (by simp))
          change vs 38 = (.bool true) at e38
          simp only [e38] at hK
          go_simp
          exact hK _ _ ⟨Only.refl _ _, hI, rfl⟩
        refine List.forall_mem_cons.2 ⟨fun L vs u hI hA h0 hd => ?_, ?_⟩
        · as_aux_lemma =>
          refine inv_step3 _ (by rfl) (by rfl) (fun K' hK => ?_)
          simp only [putAll, Act.put, List.setIfInBounds_toArray, List.set_cons_succ, List.set_cons_zero] at hK ⊢
          have e38 := hA 38 (hd 38 (by simp))
          change vs 38 = (.bool true) at e38
          have e44 := hA 44 (hd 44 (by simp))
          change vs 44 = undef at e44
          have e45 := hA 45 (hd 45 (by simp))
          change vs 45 = undef at e45
          simp only [e38, e44, e45] at hK
          go_simp
          exact hK _ _ ⟨Only.refl _ _, hI, rfl⟩
        refine List.forall_mem_cons.2 ⟨fun L vs u hI hA h0 hd => ?_, ?_⟩
        · as_aux_lemma =>
          refine inv_step3 _ (by rfl) (by rfl) (fun K' hK => ?_)
          simp only [putAll, Act.put, List.setIfInBounds_toArray, List.set_cons_succ, List.set_cons_zero] at hK ⊢
          have e38 := hA 38 (hd 38 (by simp))
          change vs 38 = (.bool true) at e38
          have e46 := hA 46 (hd 46 (by simp))
          change vs 46 = undef at e46
          simp only [e38, e46] at hK
          go_simp
          exact hK _ _ ⟨Only.refl _ _, hI, rfl⟩
        refine List.forall_mem_cons.2 ⟨fun L vs u hI hA h0 hd => ?_, ?_⟩
        · as_aux_lemma =>
          refine inv_step3 _ (by rfl) (by rfl) (fun K' hK => ?_)
          simp only [putAll, Act.put, List.setIfInBounds_toArray, List.set_cons_succ, List.set_cons_zero] at hK ⊢
          have e38 := hA 38 (hd 38 (by simp))
          change vs 38 = (.bool true) at e38
          have e47 := hA 47 (hd 47 (by simp))
          change vs 47 = undef at e47
          simp only [e38, e47] at hK
          go_simp
          exact hK _ _ ⟨Only.refl _ _, hI, rfl⟩
        refine List.forall_mem_cons.2 ⟨fun L vs u hI hA h0 hd => ?_, ?_⟩
        · as_aux_lemma =>
          refine inv_step3 _ (by rfl) (by rfl) (fun K' hK => ?_)
          simp only [putAll, Act.put, List.setIfInBounds_toArray, List.set_cons_succ, List.set_cons_zero] at hK ⊢
          have e38 := hA 38 (hd 38 (by simp))
          change vs 38 = (.bool true) at e38
          have e43 := hA 43 (hd 43 (by simp))
          change vs 43 = undef at e43
          have e48 := hA 48 (hd 48 (by simp))
          change vs 48 = undef at e48
          simp only [e38, e43, e48] at hK
          go_simp
          exact hK _ _ ⟨Only.refl _ _, hI, rfl⟩
        refine List.forall_mem_cons.2 ⟨fun L vs u hI hA h0 hd => ?_, ?_⟩
        rotate_left
        · exact fun x hx => absurd hx (List.not_mem_nil)
        · as_aux_lemma =>
          refine inv_step3 _ (by rfl) (by rfl) (fun K' hK => ?_)
          simp only [putAll, Act.put, List.setIfInBounds_toArray, List.set_cons_succ, List.set_cons_zero] at hK ⊢
          have e38 := hA 38 (hd 38 (by simp))
          change vs 38 = (.bool true) at e38
          have e49 := hA 49 (hd 49 (by simp))
          change vs 49 = undef at e49
          simp only [e38, e49] at hK
          go_simp
          exact hK _ _ ⟨Only.refl _ _, hI, rfl⟩
      case fin_7 =>
        intro L vs u hI hL hA
        simp only [putAll, Act.put, List.setIfInBounds_toArray, List.set_cons_succ, List.set_cons_zero, List.drop_succ_cons, List.drop_zero]
        have e38 := hA 38 (by omega)
        change vs 38 = .bool true at e38
        have e50 := hA 50 (by omega)
        change vs 50 = undef at e50
        simp only [e38, e50]
        have HI := Lib.hid hI
        clear hA hL hI e38 e50
        go_wp2_with fail
        go_ret
        exact ⟨by rw [← HST.out]; rfl, HO.out.thenNil HI.out⟩
    have h1m : (kind != kind') = false := h1n
    clear h1n
    cases p2
    · skip
      go_wp2_with fail
      have HIN : Hid (∀ (L : Nat → Bool) (vs : Nat → Value) (u u' : World), Only Nil u u' → (fun _ _ u => Only Nil wr u) L vs u → (fun _ _ u => Only Nil wr u) L vs u') := Lib.hid (fun L vs u u' hO hI => by
        exact hI.thenNil hO)
      refine wp_region_any (by kernel_rfl) ?_
      change wpAny _ _ _ _ _ _ _ (World.drew _)
      refine take_first (i := 0) (v := ?v0_8) (some 17) rfl (by rfl) (by kernel_rfl) (by kernel_rfl) (by kernel_rfl) (fun _ _ _ h => h) (Or.inl ⟨by rfl, ?hy0_8⟩) ?rest0_8
      case hy0_8 => (intro w; go_simp <;> with_reducible rfl)
      refine take_first (i := 1) (v := ?v1_8) (some 18) rfl (by rfl) (by kernel_rfl) (by kernel_rfl) (by kernel_rfl) (fun _ _ _ h => h) (Or.inl ⟨by rfl, ?hy1_8⟩) ?rest1_8
      case hy1_8 => (intro w; go_simp <;> with_reducible rfl)
      refine take_first (i := 2) (v := ?v2_8) (some 19) rfl (by rfl) (by kernel_rfl) (by kernel_rfl) (by kernel_rfl) (fun _ _ _ h => h) (Or.inl ⟨by rfl, ?hy2_8⟩) ?rest2_8
      case hy2_8 => (intro w; go_simp <;> with_reducible rfl)
      refine take_first (i := 3) (v := ?v3_8) (some 20) rfl (by rfl) (by kernel_rfl) (by kernel_rfl) (by kernel_rfl) (fun _ _ _ h => h) (Or.inl ⟨by rfl, ?hy3_8⟩) ?rest3_8
      case hy3_8 => (intro w; go_simp <;> with_reducible rfl)
      refine take_first (i := 5) (v := ?v5_8) (some 22) rfl (by rfl) (by kernel_rfl) (by kernel_rfl) (by kernel_rfl) (fun _ _ _ h => h) (Or.inl ⟨by rfl, ?hy5_8⟩) ?rest5_8
      case hy5_8 => (intro w; go_simp <;> with_reducible rfl)
      refine take_first (i := 6) (v := ?v6_8) (some 23) rfl (by rfl) (by kernel_rfl) (by kernel_rfl) (by kernel_rfl) (fun _ _ _ h => h) (Or.inl ⟨by rfl, ?hy6_8⟩) ?rest6_8
      case hy6_8 => (intro w; go_simp <;> with_reducible rfl)
      refine take_first (i := 7) (v := ?v7_8) (some 24) rfl (by rfl) (by kernel_rfl) (by kernel_rfl) (by kernel_rfl) (fun _ _ _ h => h) (Or.inl ⟨by rfl, ?hy7_8⟩) ?rest7_8
      case hy7_8 => (intro w; go_simp <;> with_reducible rfl)
      refine take_first (i := 8) (v := ?v8_8) (some 25) rfl (by rfl) (by kernel_rfl) (by kernel_rfl) (by kernel_rfl) (fun _ _ _ h => h) (Or.inl ⟨by rfl, ?hy8_8⟩) ?rest8_8
      case hy8_8 => (intro w; go_simp <;> with_reducible rfl)
      refine wpAny_inv3 (X := [(4, some 21, []), (9, some 26, []), (10, some 27, [4, 9]), (11, some 28, [10]), (12, some 29, [11]), (13, some 30, [11]), (14, some 31, [11, 12, 13]), (15, some 32, [11, 14]), (16, some 33, [11, 15]), (17, some 34, [11]), (18, some 35, [11]), (19, some 36, [11, 17, 18]), (20, some 37, [11, 19]), (21, some 38, [11, 20]), (22, some 39, [11, 16, 21]), (23, some 40, [11, 22]), (24, some 41, [23]), (25, some 42, [24]), (26, some 43, [24]), (27, some 44, [24, 25, 26]), (28, some 45, [24, 27]), (29, some 46, [24, 28]), (30, some 47, [24]), (31, some 48, [24]), (32, some 49, [24, 30, 31]), (33, some 50, [24, 32]), (34, some 51, [24, 33]), (35, some 52, [24, 29, 34]), (36, some 53, [24, 35]), (37, some 54, [24, 36]), (38, some 55, [37]), (39, some 56, [38]), (40, some 57, [38]), (41, some 58, [38, 39, 40]), (42, some 59, [38, 41]), (43, some 60, [38, 42]), (44, some 61, [38]), (45, some 62, [38]), (46, some 63, [38, 44, 45]), (47, some 64, [38, 46]), (48, some 65, [38, 47]), (49, some 66, [38, 43, 48]), (50, some 67, [38, 49])]) (n := 43) (g := 1) (m := 51) (l0 := [true, true, true, true, false, true, true, true, true, false, false, false, false, false, false, false, false, false, false, false, false, false, false, false, false, false, false, false, false, false, false, false, false, false, false, false, false, false, false, false, false, false, false, false, false, false, false, false, false, false, false, false]) (T := Nil) (Ps := [Any, Any, Any, Any, Cst (.int .i64 kind), Any, Any, Any, Any, Cst (.int .i64 kind'), Cst (.bool false), Cst (.bool false), Cst (.slice (some ⟨b, off, none⟩) M ca), Cst (.int .i64 k), Cst (.pointer (some ⟨b, off + k * 15, none⟩)), Cst (.pointer (some ⟨b, off + k * 15 + 1, none⟩)), Cst (.agg #[.int .i64 a0, .int .i64 a1, .int .i64 a2, .int .i64 a3]), Cst (.slice (some ⟨b', off', none⟩) M cb), Cst (.int .i64 k), Cst (.pointer (some ⟨b', off' + k * 15, none⟩)), Cst (.pointer (some ⟨b', off' + k * 15 + 1, none⟩)), Cst (.agg #[.int .i64 a0', .int .i64 a1', .int .i64 a2', .int .i64 a3']), Cst (.bool true), Cst (.bool true), Cst (.bool true), Cst undef, Cst undef, Cst undef, Cst undef, Cst undef, Cst undef, Cst undef, Cst undef, Cst undef, Cst undef, Cst undef, Cst undef, Cst (.bool true), Cst (.bool true), Cst undef, Cst undef, Cst undef, Cst undef, Cst undef, Cst undef, Cst undef, Cst undef, Cst undef, Cst undef, Cst undef, Cst undef])
        (I := fun _ _ u => Only Nil wr u)
        (by kernel_rfl) rfl (by kernel_rfl) (chk_split [true, true, true, true, true, true, true, true, true, true, true, true, false, false, false, false, false, false, false, false, false, false, false, false, false, false, false, false, false, false, false, false, false, false, false, false, false, false, false, false, false, false, false, false, false, false, false, false, false, false, false, false] 4 39 rfl (by as_aux_lemma => kernel_rfl) (chk_split [true, true, true, true, true, true, true, true, true, true, true, true, true, true, true, true, true, true, true, true, true, true, true, true, true, false, false, false, false, false, false, false, false, false, false, false, false, false, false, false, false, false, false, false, false, false, false, false, false, false, false, false] 13 26 rfl (by as_aux_lemma => kernel_rfl) (chk_split [true, true, true, true, true, true, true, true, true, true, true, true, true, true, true, true, true, true, true, true, true, true, true, true, true, true, true, true, true, true, true, true, true, true, true, true, true, true, true, false, false, false, false, false, false, false, false, false, false, false, false, false] 14 12 rfl (by as_aux_lemma => kernel_rfl) (by as_aux_lemma => kernel_rfl)))) (by kernel_rfl) rfl ?h0_8 ?st_8 ?i0_8 ?step_8 ?fin_8
      case h0_8 =>
        intro j hj v u
        match j, hj with
        | 0, hj => trivial
        | 1, hj => trivial
        | 2, hj => trivial
        | 3, hj => trivial
        | 4, hj => exact absurd hj (by decide)
        | 5, hj => trivial
        | 6, hj => trivial
        | 7, hj => trivial
        | 8, hj => trivial
        | 9, hj => exact absurd hj (by decide)
        | 10, hj => exact absurd hj (by decide)
        | 11, hj => exact absurd hj (by decide)
        | 12, hj => exact absurd hj (by decide)
        | 13, hj => exact absurd hj (by decide)
        | 14, hj => exact absurd hj (by decide)
        | 15, hj => exact absurd hj (by decide)
        | 16, hj => exact absurd hj (by decide)
        | 17, hj => exact absurd hj (by decide)
        | 18, hj => exact absurd hj (by decide)
        | 19, hj => exact absurd hj (by decide)
        | 20, hj => exact absurd hj (by decide)
        | 21, hj => exact absurd hj (by decide)
        | 22, hj => exact absurd hj (by decide)
        | 23, hj => exact absurd hj (by decide)
        | 24, hj => exact absurd hj (by decide)
        | 25, hj => exact absurd hj (by decide)
        | 26, hj => exact absurd hj (by decide)
        | 27, hj => exact absurd hj (by decide)
        | 28, hj => exact absurd hj (by decide)
        | 29, hj => exact absurd hj (by decide)
        | 30, hj => exact absurd hj (by decide)
        | 31, hj => exact absurd hj (by decide)
        | 32, hj => exact absurd hj (by decide)
        | 33, hj => exact absurd hj (by decide)
        | 34, hj => exact absurd hj (by decide)
        | 35, hj => exact absurd hj (by decide)
        | 36, hj => exact absurd hj (by decide)
        | 37, hj => exact absurd hj (by decide)
        | 38, hj => exact absurd hj (by decide)
        | 39, hj => exact absurd hj (by decide)
        | 40, hj => exact absurd hj (by decide)
        | 41, hj => exact absurd hj (by decide)
        | 42, hj => exact absurd hj (by decide)
        | 43, hj => exact absurd hj (by decide)
        | 44, hj => exact absurd hj (by decide)
        | 45, hj => exact absurd hj (by decide)
        | 46, hj => exact absurd hj (by decide)
        | 47, hj => exact absurd hj (by decide)
        | 48, hj => exact absurd hj (by decide)
        | 49, hj => exact absurd hj (by decide)
        | 50, hj => exact absurd hj (by decide)
        | 51, hj => exact absurd hj (by decide)
        | n + 52, hj => exact absurd hj (by simp)
      case st_8 =>
        have hT : ∀ x, (Nil) x → x < 0 := fun x h => h.elim
        intro p hp
        simp only [List.mem_cons, List.not_mem_nil, or_false] at hp
        rcases hp with rfl | rfl | rfl | rfl | rfl | rfl | rfl | rfl | rfl | rfl | rfl | rfl | rfl | rfl | rfl | rfl | rfl | rfl | rfl | rfl | rfl | rfl | rfl | rfl | rfl | rfl | rfl | rfl | rfl | rfl | rfl | rfl | rfl | rfl | rfl | rfl | rfl | rfl | rfl | rfl | rfl | rfl | rfl | rfl | rfl | rfl | rfl | rfl | rfl | rfl | rfl <;> first | exact Stays.cst _ | exact Stays.own hT | exact Stays.emp hT | exact Stays.any
      case i0_8 =>
        intro vs
        exact (Only.refl _ _).drew
      case step_8 =>
        refine List.forall_mem_cons.2 ⟨fun L vs u hI hA h0 hd => ?_, ?_⟩
        · as_aux_lemma =>
          refine inv_step3 _ (by rfl) (by rfl) (fun K' hK => ?_)
          simp only [putAll, Act.put, List.setIfInBounds_toArray, List.set_cons_succ, List.set_cons_zero] at hK ⊢
          have hs := HS.out u hI
          obtain ⟨q0, q1, q2, q3, q4, q5, q6, q7, q8, q9, q10, q11, q12, q13, q14, q15, q16, q17, q18, q19, q20, q21, q22, q23, q24, q25, q26, q27, q28, q29⟩ := hs
          go_simp
          exact hK _ _ ⟨Only.refl _ _, hI, rfl⟩
        refine List.forall_mem_cons.2 ⟨fun L vs u hI hA h0 hd => ?_, ?_⟩
        · as_aux_lemma =>
          refine inv_step3 _ (by rfl) (by rfl) (fun K' hK => ?_)
          simp only [putAll, Act.put, List.setIfInBounds_toArray, List.set_cons_succ, List.set_cons_zero] at hK ⊢
          have hs := HS.out u hI
          obtain ⟨q0, q1, q2, q3, q4, q5, q6, q7, q8, q9, q10, q11, q12, q13, q14, q15, q16, q17, q18, q19, q20, q21, q22, q23, q24, q25, q26, q27, q28, q29⟩ := hs
          go_simp
          exact hK _ _ ⟨Only.refl _ _, hI, rfl⟩
        refine List.forall_mem_cons.2 ⟨fun L vs u hI hA h0 hd => ?_, ?_⟩
        · as_aux_lemma =>
          refine inv_step3 _ (by rfl) (by rfl) (fun K' hK => ?_)
          simp only [putAll, Act.put, List.setIfInBounds_toArray, List.set_cons_succ, List.set_cons_zero] at hK ⊢
          have e4 := hA 4 (hd 4 (by simp))
          change vs 4 = (.int .i64 kind) at e4
          have e9 := hA 9 (hd 9 (by simp))
          change vs 9 = (.int .i64 kind') at e9
          simp only [e4, e9] at hK
          go_simp
          exact hK _ _ ⟨Only.refl _ _, hI, rfl⟩
        refine List.forall_mem_cons.2 ⟨fun L vs u hI hA h0 hd => ?_, ?_⟩
        · as_aux_lemma =>
          refine inv_step3 _ (by rfl) (by rfl) (fun K' hK => ?_)
          simp only [putAll, Act.put, List.setIfInBounds_toArray, List.set_cons_succ, List.set_cons_zero] at hK ⊢
          have e10 := hA 10 (hd 10 (by simp))
          change vs 10 = (.bool false) at e10
          simp only [e10] at hK
          go_simp
          exact hK _ _ ⟨Only.refl _ _, hI, rfl⟩
        refine List.forall_mem_cons.2 ⟨fun L vs u hI hA h0 hd => ?_, ?_⟩
        · as_aux_lemma =>
          refine inv_step3 _ (by rfl) (by rfl) (fun K' hK => ?_)
          simp only [putAll, Act.put, List.setIfInBounds_toArray, List.set_cons_succ, List.set_cons_zero] at hK ⊢
          have e11 := hA 11 (hd 11 (by simp))
          change vs 11 = (.bool false) at e11
          simp only [e11] at hK
          go_simp
          exact hK _ _ ⟨Only.refl _ _, hI, rfl⟩
        refine List.forall_mem_cons.2 ⟨fun L vs u hI hA h0 hd => ?_, ?_⟩
        · as_aux_lemma =>
          refine inv_step3 _ (by rfl) (by rfl) (fun K' hK => ?_)
          simp only [putAll, Act.put, List.setIfInBounds_toArray, List.set_cons_succ, List.set_cons_zero] at hK ⊢
          have e11 := hA 11 (hd 11 (by simp))
          change vs 11 = (.bool false) at e11
          simp only [e11] at hK
          go_simp
          exact hK _ _ ⟨Only.refl _ _, hI, rfl⟩
        refine List.forall_mem_cons.2 ⟨fun L vs u hI hA h0 hd => ?_, ?_⟩
        · as_aux_lemma =>
          refine inv_step3 _ (by rfl) (by rfl) (fun K' hK => ?_)
          simp only [putAll, Act.put, List.setIfInBounds_toArray, List.set_cons_succ, List.set_cons_zero] at hK ⊢
          have e11 := hA 11 (hd 11 (by simp))
          change vs 11 = (.bool false) at e11
          have e12 := hA 12 (hd 12 (by simp))
          change vs 12 = (.slice (some ⟨b, off, none⟩) M ca) at e12
          have e13 := hA 13 (hd 13 (by simp))
          change vs 13 = (.int .i64 k) at e13
          simp only [e11, e12, e13] at hK
          go_simp
          exact hK _ _ ⟨Only.refl _ _, hI, rfl⟩
        refine List.forall_mem_cons.2 ⟨fun L vs u hI hA h0 hd => ?_, ?_⟩
        · as_aux_lemma =>
          refine inv_step3 _ (by rfl) (by rfl) (fun K' hK => ?_)
          simp only [putAll, Act.put, List.setIfInBounds_toArray, List.set_cons_succ, List.set_cons_zero] at hK ⊢
          have e11 := hA 11 (hd 11 (by simp))
          change vs 11 = (.bool false) at e11
          have e14 := hA 14 (hd 14 (by simp))
          change vs 14 = (.pointer (some ⟨b, off + k * 15, none⟩)) at e14
          simp only [e11, e14] at hK
          go_simp
          exact hK _ _ ⟨Only.refl _ _, hI, rfl⟩
        refine List.forall_mem_cons.2 ⟨fun L vs u hI hA h0 hd => ?_, ?_⟩
        · as_aux_lemma =>
          refine inv_step3 _ (by rfl) (by rfl) (fun K' hK => ?_)
          simp only [putAll, Act.put, List.setIfInBounds_toArray, List.set_cons_succ, List.set_cons_zero] at hK ⊢
          have e11 := hA 11 (hd 11 (by simp))
          change vs 11 = (.bool false) at e11
          have e15 := hA 15 (hd 15 (by simp))
          change vs 15 = (.pointer (some ⟨b, off + k * 15 + 1, none⟩)) at e15
          simp only [e11, e15] at hK
          have hs := HS.out u hI
          obtain ⟨q0, q1, q2, q3, q4, q5, q6, q7, q8, q9, q10, q11, q12, q13, q14, q15, q16, q17, q18, q19, q20, q21, q22, q23, q24, q25, q26, q27, q28, q29⟩ := hs
          go_simp
          exact hK _ _ ⟨Only.refl _ _, hI, rfl⟩
        refine List.forall_mem_cons.2 ⟨fun L vs u hI hA h0 hd => ?_, ?_⟩
        · as_aux_lemma =>
          refine inv_step3 _ (by rfl) (by rfl) (fun K' hK => ?_)
          simp only [putAll, Act.put, List.setIfInBounds_toArray, List.set_cons_succ, List.set_cons_zero] at hK ⊢
          have e11 := hA 11 (hd 11 (by simp))
          change vs 11 = (.bool false) at e11
          simp only [e11] at hK
          go_simp
          exact hK _ _ ⟨Only.refl _ _, hI, rfl⟩
        refine List.forall_mem_cons.2 ⟨fun L vs u hI hA h0 hd => ?_, ?_⟩
        · as_aux_lemma =>
          refine inv_step3 _ (by rfl) (by rfl) (fun K' hK => ?_)
          simp only [putAll, Act.put, List.setIfInBounds_toArray, List.set_cons_succ, List.set_cons_zero] at hK ⊢
          have e11 := hA 11 (hd 11 (by simp))
          change vs 11 = (.bool false) at e11
          simp only [e11] at hK
          go_simp
          exact hK _ _ ⟨Only.refl _ _, hI, rfl⟩
        refine List.forall_mem_cons.2 ⟨fun L vs u hI hA h0 hd => ?_, ?_⟩
        · as_aux_lemma =>
          refine inv_step3 _ (by rfl) (by rfl) (fun K' hK => ?_)
          simp only [putAll, Act.put, List.setIfInBounds_toArray, List.set_cons_succ, List.set_cons_zero] at hK ⊢
          have e11 := hA 11 (hd 11 (by simp))
          change vs 11 = (.bool false) at e11
          have e17 := hA 17 (hd 17 (by simp))
          change vs 17 = (.slice (some ⟨b', off', none⟩) M cb) at e17
          have e18 := hA 18 (hd 18 (by simp))
          change vs 18 = (.int .i64 k) at e18
          simp only [e11, e17, e18] at hK
          go_simp
          exact hK _ _ ⟨Only.refl _ _, hI, rfl⟩
        refine List.forall_mem_cons.2 ⟨fun L vs u hI hA h0 hd => ?_, ?_⟩
        · as_aux_lemma =>
          refine inv_step3 _ (by rfl) (by rfl) (fun K' hK => ?_)
          simp only [putAll, Act.put, List.setIfInBounds_toArray, List.set_cons_succ, List.set_cons_zero] at hK ⊢
          have e11 := hA 11 (hd 11 (by simp))
          change vs 11 = (.bool false) at e11
          have e19 := hA 19 (hd 19 (by simp))
          change vs 19 = (.pointer (some ⟨b', off' + k * 15, none⟩)) at e19
          simp only [e11, e19] at hK
          go_simp
          exact hK _ _ ⟨Only.refl _ _, hI, rfl⟩
        refine List.forall_mem_cons.2 ⟨fun L vs u hI hA h0 hd => ?_, ?_⟩
        · as_aux_lemma =>
          refine inv_step3 _ (by rfl) (by rfl) (fun K' hK => ?_)
          simp only [putAll, Act.put, List.setIfInBounds_toArray, List.set_cons_succ, List.set_cons_zero] at hK ⊢
          have e11 := hA 11 (hd 11 (by simp))
          change vs 11 = (.bool false) at e11
          have e20 := hA 20 (hd 20 (by simp))
          change vs 20 = (.pointer (some ⟨b', off' + k * 15 + 1, none⟩)) at e20
          simp only [e11, e20] at hK
          have hs := HS.out u hI
          obtain ⟨q0, q1, q2, q3, q4, q5, q6, q7, q8, q9, q10, q11, q12, q13, q14, q15, q16, q17, q18, q19, q20, q21, q22, q23, q24, q25, q26, q27, q28, q29⟩ := hs
          go_simp
          exact hK _ _ ⟨Only.refl _ _, hI, rfl⟩
        refine List.forall_mem_cons.2 ⟨fun L vs u hI hA h0 hd => ?_, ?_⟩
        · as_aux_lemma =>
          refine inv_step3 _ (by rfl) (by rfl) (fun K' hK => ?_)
          simp only [putAll, Act.put, List.setIfInBounds_toArray, List.set_cons_succ, List.set_cons_zero] at hK ⊢
          have e11 := hA 11 (hd 11 (by simp))
          change vs 11 = (.bool false) at e11
          have e16 := hA 16 (hd 16 (by simp))
          change vs 16 = (.agg #[.int .i64 a0, .int .i64 a1, .int .i64 a2, .int .i64 a3]) at e16
          have e21 := hA 21 (hd 21 (by simp))
          change vs 21 = (.agg #[.int .i64 a0', .int .i64 a1', .int .i64 a2', .int .i64 a3']) at e21
          simp only [e11, e16, e21] at hK
          have hq := hq4 u
          go_simp
          exact hK _ _ ⟨Only.refl _ _, hI, rfl⟩
        refine List.forall_mem_cons.2 ⟨fun L vs u hI hA h0 hd => ?_, ?_⟩
        · as_aux_lemma =>
          refine inv_step3 _ (by rfl) (by rfl) (fun K' hK => ?_)
          simp only [putAll, Act.put, List.setIfInBounds_toArray, List.set_cons_succ, List.set_cons_zero] at hK ⊢
          have e11 := hA 11 (hd 11 (by simp))
          change vs 11 = (.bool false) at e11
          have e22 := hA 22 (hd 22 (by simp))
          change vs 22 = (.bool true) at e22
          simp only [e11, e22] at hK
          go_simp
          exact hK _ _ ⟨Only.refl _ _, hI, rfl⟩
        refine List.forall_mem_cons.2 ⟨fun L vs u hI hA h0 hd => ?_, ?_⟩
        · as_aux_lemma =>
          refine inv_step3 _ (by rfl) (by rfl) (fun K' hK => ?_)
          simp only [putAll, Act.put, List.setIfInBounds_toArray, List.set_cons_succ, List.set_cons_zero] at hK ⊢
          have e23 := hA 23 (hd 23 (by simp))
          change vs 23 = (.bool true) at e23
          simp only [e23] at hK
          go_simp
          exact hK _ _ ⟨Only.refl _ _, hI, rfl⟩
        refine List.forall_mem_cons.2 ⟨fun L vs u hI hA h0 hd => ?_, ?_⟩
        · as_aux_lemma =>
          refine inv_step3 _ (by rfl) (by rfl) (fun K' hK => ?_)
          simp only [putAll, Act.put, List.setIfInBounds_toArray, List.set_cons_succ, List.set_cons_zero] at hK ⊢
          have e24 := hA 24 (hd 24 (by simp))
          change vs 24 = (.bool true) at e24
          simp only [e24] at hK
          go_simp
          exact hK _ _ ⟨Only.refl _ _, hI, rfl⟩
        refine List.forall_mem_cons.2 ⟨fun L vs u hI hA h0 hd => ?_, ?_⟩
        · as_aux_lemma =>
          refine inv_step3 _ (by rfl) (by rfl) (fun K' hK => ?_)
          simp only [putAll, Act.put, List.setIfInBounds_toArray, List.set_cons_succ, List.set_cons_zero] at hK ⊢
          have e24 := hA 24 (hd 24 (by simp))
          change vs 24 = (.bool true) at e24
          simp only [e24] at hK
          go_simp
          exact hK _ _ ⟨Only.refl _ _, hI, rfl⟩
        refine List.forall_mem_cons.2 ⟨fun L vs u hI hA h0 hd => ?_, ?_⟩
        · as_aux_lemma =>
          refine inv_step3 _ (by rfl) (by rfl) (fun K' hK => ?_)
          simp only [putAll, Act.put, List.setIfInBounds_toArray, List.set_cons_succ, List.set_cons_zero] at hK ⊢
          have e24 := hA 24 (hd 24 (by simp))
          change vs 24 = (.bool true) at e24
          have e25 := hA 25 (hd 25 (by simp))
          change vs 25 = undef at e25
          have e26 := hA 26 (hd 26 (by simp))
          change vs 26 = undef at e26
          simp only [e24, e25, e26] at hK
          go_simp
          exact hK _ _ ⟨Only.refl _ _, hI, rfl⟩
        refine List.forall_mem_cons.2 ⟨fun L vs u hI hA h0 hd => ?_, ?_⟩
        · as_aux_lemma =>
          refine inv_step3 _ (by rfl) (by rfl) (fun K' hK => ?_)
          simp only [putAll, Act.put, List.setIfInBounds_toArray, List.set_cons_succ, List.set_cons_zero] at hK ⊢
          have e24 := hA 24 (hd 24 (by simp))
          change vs 24 = (.bool true) at e24
          have e27 := hA 27 (hd 27 (by simp))
          change vs 27 = undef at e27
          simp only [e24, e27] at hK
          go_simp
          exact hK _ _ ⟨Only.refl _ _, hI, rfl⟩
        refine List.forall_mem_cons.2 ⟨fun L vs u hI hA h0 hd => ?_, ?_⟩
        · as_aux_lemma =>
          refine inv_step3 _ (by rfl) (by rfl) (fun K' hK => ?_)
          simp only [putAll, Act.put, List.setIfInBounds_toArray, List.set_cons_succ, List.set_cons_zero] at hK ⊢
          have e24 := hA 24 (hd 24 (by simp))
          change vs 24 = (.bool true) at e24
          have e28 := hA 28 (hd 28 (by simp))
          change vs 28 = undef at e28
          simp only [e24, e28] at hK
          go_simp
          exact hK _ _ ⟨Only.refl _ _, hI, rfl⟩
        refine List.forall_mem_cons.2 ⟨fun L vs u hI hA h0 hd => ?_, ?_⟩
        · as_aux_lemma =>
          refine inv_step3 _ (by rfl) (by rfl) (fun K' hK => ?_)
          simp only [putAll, Act.put, List.setIfInBounds_toArray, List.set_cons_succ, List.set_cons_zero] at hK ⊢
          have e24 := hA 24 (hd 24 (by simp))
          change vs 24 = (.bool true) at e24
          simp only [e24] at hK
          go_simp
          exact hK _ _ ⟨Only.refl _ _, hI, rfl⟩
        refine List.forall_mem_cons.2 ⟨fun L vs u hI hA h0 hd => ?_, ?_⟩
        · as_aux_lemma =>
          refine inv_step3 _ (by rfl) (by rfl) (fun K' hK => ?_)
          simp only [putAll, Act.put, List.setIfInBounds_toArray, List.set_cons_succ, List.set_cons_zero] at hK ⊢
          have e24 := hA 24 (hd 24 (by simp))
          change vs 24 = (.bool true) at e24
          simp only [e24] at hK
          go_simp
          exact hK _ _ ⟨Only.refl _ _, hI, rfl⟩
        refine List.forall_mem_cons.2 ⟨fun L vs u hI hA h0 hd => ?_, ?_⟩
        · as_aux_lemma =>
          refine inv_step3 _ (by rfl) (by rfl) (fun K' hK => ?_)
          simp only [putAll, Act.put, List.setIfInBounds_toArray, List.set_cons_succ, List.set_cons_zero] at hK ⊢
          have e24 := hA 24 (hd 24 (by simp))
          change vs 24 = (.bool true) at e24
          have e30 := hA 30 (hd 30 (by simp))
          change vs 30 = undef at e30
          have e31 := hA 31 (hd 31 (by simp))
          change vs 31 = undef at e31
          simp only [e24, e30, e31] at hK
          go_simp
          exact hK _ _ ⟨Only.refl _ _, hI, rfl⟩
        refine List.forall_mem_cons.2 ⟨fun L vs u hI hA h0 hd => ?_, ?_⟩
        · as_aux_lemma =>
          refine inv_step3 _ (by rfl) (by rfl) (fun K' hK => ?_)
          simp only [putAll, Act.put, List.setIfInBounds_toArray, List.set_cons_succ, List.set_cons_zero] at hK ⊢
          have e24 := hA 24 (hd 24 (by simp))
          change vs 24 = (.bool true) at e24
          have e32 := hA 32 (hd 32 (by simp))
          change vs 32 = undef at e32
          simp only [e24, e32] at hK
          go_simp
          exact hK _ _ ⟨Only.refl _ _, hI, rfl⟩
        refine List.forall_mem_cons.2 ⟨fun L vs u hI hA h0 hd => ?_, ?_⟩
        · as_aux_lemma =>
          refine inv_step3 _ (by rfl) (by rfl) (fun K' hK => ?_)
          simp only [putAll, Act.put, List.setIfInBounds_toArray, List.set_cons_succ, List.set_cons_zero] at hK ⊢
          have e24 := hA 24 (hd 24 (by simp))
          change vs 24 = (.bool true) at e24
          have e33 := hA 33 (hd 33 (by simp))
          change vs 33 = undef at e33
          simp only [e24, e33] at hK
          go_simp
          exact hK _ _ ⟨Only.refl _ _, hI, rfl⟩
        refine List.forall_mem_cons.2 ⟨fun L vs u hI hA h0 hd => ?_, ?_⟩
        · as_aux_lemma =>
          refine inv_step3 _ (by rfl) (by rfl) (fun K' hK => ?_)
          simp only [putAll, Act.put, List.setIfInBounds_toArray, List.set_cons_succ, List.set_cons_zero] at hK ⊢
          have e24 := hA 24 (hd 24 (by simp))
          change vs 24 = (.bool true) at e24
          have e29 := hA 29 (hd 29 (by simp))
          change vs 29 = undef at e29
          have e34 := hA 34 (hd 34 (by simp))
          change vs 34 = undef at e34
          simp only [e24, e29, e34] at hK
          go_simp
          exact hK _ _ ⟨Only.refl _ _, hI, rfl⟩
        refine List.forall_mem_cons.2 ⟨fun L vs u hI hA h0 hd => ?_, ?_⟩
        · as_aux_lemma =>
          refine inv_step3 _ (by rfl) (by rfl) (fun K' hK => ?_)
          simp only [putAll, Act.put, List.setIfInBounds_toArray, List.set_cons_succ, List.set_cons_zero] at hK ⊢
          have e24 := hA 24 (hd 24 (by simp))
          change vs 24 = (.bool true) at e24
          have e35 := hA 35 (hd 35 (by simp))
          change vs 35 = undef at e35
          simp only [e24, e35] at hK
          go_simp
          exact hK _ _ ⟨Only.refl _ _, hI, rfl⟩
        refine List.forall_mem_cons.2 ⟨fun L vs u hI hA h0 hd => ?_, ?_⟩
        · as_aux_lemma =>
          refine inv_step3 _ (by rfl) (by rfl) (fun K' hK => ?_)
          simp only [putAll, Act.put, List.setIfInBounds_toArray, List.set_cons_succ, List.set_cons_zero] at hK ⊢
          have e24 := hA 24 (hd 24 (by simp))
          change vs 24 = (.bool true) at e24
          have e36 := hA 36 (hd 36 (by simp))
          change vs 36 = undef at e36
          simp only [e24, e36] at hK
          go_simp
          exact hK _ _ ⟨Only.refl _ _, hI, rfl⟩
        refine List.forall_mem_cons.2 ⟨fun L vs u hI hA h0 hd => ?_, ?_⟩
        · as_aux_lemma =>
          refine inv_step3 _ (by rfl) (by rfl) (fun K' hK => ?_)
          simp only [putAll, Act.put, List.setIfInBounds_toArray, List.set_cons_succ, List.set_cons_zero] at hK ⊢
          have e37 := hA 37 (hd 37 (by simp))
          change vs 37 = (.bool true) at e37
          simp only [e37] at hK
          go_simp
          exact hK _ _ ⟨Only.refl _ _, hI, rfl⟩
        refine List.forall_mem_cons.2 ⟨fun L vs u hI hA h0 hd => ?_, ?_⟩
        · as_aux_lemma =>
          refine inv_step3 _ (by rfl) (by rfl) (fun K' hK => ?_)
          simp only [putAll, Act.put, List.setIfInBounds_toArray, List.set_cons_succ, List.set_cons_zero] at hK ⊢
          have e38 := hA 38 (hd 38 (by simp))
          change vs 38 = (.bool true) at e38
          simp only [e38] at hK
          go_simp
          exact hK _ _ ⟨Only.refl _ _, hI, rfl⟩
        refine List.forall_mem_cons.2 ⟨fun L vs u hI hA h0 hd => ?_, ?_⟩
        · as_aux_lemma =>
          refine inv_step3 _ (by rfl) (by rfl) (fun K' hK => ?_)
          simp only [putAll, Act.put, List.setIfInBounds_toArray, List.set_cons_succ, List.set_cons_zero] at hK ⊢
          have e38 := hA 38 (hd 38 (by simp))
          change vs 38 = (.bool true) at e38
          simp only [e38] at hK
          go_simp
          exact hK _ _ ⟨Only.refl _ _, hI, rfl⟩
        refine List.forall_mem_cons.2 ⟨fun L vs u hI hA h0 hd => ?_, ?_⟩
        · as_aux_lemma =>
          refine inv_step3 _ (by rfl) (by rfl) (fun K' hK => ?_)
          simp only [putAll, Act.put, List.setIfInBounds_toArray, List.set_cons_succ, List.set_cons_zero] at hK ⊢
          have e38 := hA 38 (hd 38 (by simp))
          change vs 38 = (.bool true) at e38
          have e39 := hA 39 (hd 39 (by simp))
          change vs 39 = undef at e39
          have e40 := hA 40 (hd 40 (by simp))
          change vs 40 = undef at e40
          simp only [e38, e39, e40] at hK
          go_simp
          exact hK _ _ ⟨Only.refl _ _, hI, rfl⟩
        refine List.forall_mem_cons.2 ⟨fun L vs u hI hA h0 hd => ?_, ?_⟩
        · as_aux_lemma =>
          refine inv_step3 _ (by rfl) (by rfl) (fun K' hK => ?_)
          simp only [putAll, Act.put, List.setIfInBounds_toArray, List.set_cons_succ, List.set_cons_zero] at hK ⊢
          have e38 := hA 38 (hd 38 (by simp))
          change vs 38 = (.bool true) at e38
          have e41 := hA 41 (hd 41 (by simp))
          change vs 41 = undef at e41
          simp only [e38, e41] at hK
          go_simp
          exact hK _ _ ⟨Only.refl _ _, hI, rfl⟩
        refine List.forall_mem_cons.2 ⟨fun L vs u hI hA h0 hd => ?_, ?_⟩
        · as_aux_lemma =>
          refine inv_step3 _ (by rfl) (by rfl) (fun K' hK => ?_)
          simp only [putAll, Act.put, List.setIfInBounds_toArray, List.set_cons_succ, List.set_cons_zero] at hK ⊢
          have e38 := hA 38 (hd 38 (by simp))
          change vs 38 = (.bool true) at e38
          have e42 := hA 42 (hd 42 (by simp))
          change vs 42 = undef at e42
          simp only [e38, e42] at hK
          go_simp
          exact hK _ _ ⟨Only.refl _ _, hI, rfl⟩
        refine List.forall_mem_cons.2 ⟨fun L vs u hI hA h0 hd => ?_, ?_⟩
        · as_aux_lemma =>
          refine inv_step3 _ (by rfl) (by rfl) (fun K' hK => ?_)
          simp only [putAll, Act.put, List.setIfInBounds_toArray, List.set_cons_succ, List.set_cons_zero] at hK ⊢
          have e38 := hA 38 (hd 38 (by simp))
          change vs 38 = (.bool true) at e38
          simp only [e38] at hK
          go_simp
          exact hK _ _ ⟨Only.refl _ _, hI, rfl⟩
        refine List.forall_mem_cons.2 ⟨fun L vs u hI hA h0 hd => ?_, ?_⟩
        · as_aux_lemma =>
          refine inv_step3 _ (by rfl) (by rfl) (fun K' hK => ?_)
          simp only [putAll, Act.put, List.setIfInBounds_toArray, List.set_cons_succ, List.set_cons_zero] at hK ⊢
          have e38 := hA 38 (hd 38 (by simp))
          change vs 38 = (.bool true) at e38
          simp only [e38] at hK
          go_simp
          exact hK _ _ ⟨Only.refl _ _, hI, rfl⟩
        refine List.forall_mem_cons.2 ⟨fun L vs u hI hA h0 hd => ?_, ?_⟩
        · as_aux_lemma =>
          refine inv_step3 _ (by rfl) (by rfl) (fun K' hK => ?_)
          simp only [putAll, Act.put, List.setIfInBounds_toArray, List.set_cons_succ, List.set_cons_zero] at hK ⊢
          have e38 := hA 38 (hd 38 (by simp))
          change vs 38 = (.bool true) at e38
          have e44 := hA 44 (hd 44 (by simp))
          change vs 44 = undef at e44
          have e45 := hA 45 (hd 45 (by simp))
          change vs 45 = undef at e45
          simp only [e38, e44, e45] at hK
          go_simp
          exact hK _ _ ⟨Only.refl _ _, hI, rfl⟩
        refine List.forall_mem_cons.2 ⟨fun L vs u hI hA h0 hd => ?_, ?_⟩
        · as_aux_lemma =>
          refine inv_step3 _ (by rfl) (by rfl) (fun K' hK => ?_)
          simp only [putAll, Act.put, List.setIfInBounds_toArray, List.set_cons_succ, List.set_cons_zero] at hK ⊢
          have e38 := hA 38 (hd 38 (by simp))
          change vs 38 = (.bool true) at e38
          have e46 := hA 46 (hd 46 (by simp))
          change vs 46 = undef at e46
          simp only [e38, e46] at hK
          go_simp
          exact hK _ _ ⟨Only.refl _ _, hI, rfl⟩
        refine List.forall_mem_cons.2 ⟨fun L vs u hI hA h0 hd => ?_, ?_⟩
        · as_aux_lemma =>
          refine inv_step3 _ (by rfl) (by rfl) (fun K' hK => ?_)
          simp only [putAll, Act.put, List.setIfInBounds_toArray, List.set_cons_succ, List.set_cons_zero] at hK ⊢
          have e38 := hA 38 (hd 38 (by simp))
          change vs 38 = (.bool true) at e38
          have e47 := hA 47 (hd 47 (by simp))
          change vs 47 = undef at e47
          simp only [e38, e47] at hK
          go_simp
          exact hK _ _ ⟨Only.refl _ _, hI, rfl⟩
        refine List.forall_mem_cons.2 ⟨fun L vs u hI hA h0 hd => ?_, ?_⟩
        · as_aux_lemma =>
          refine inv_step3 _ (by rfl) (by rfl) (fun K' hK => ?_)
          simp only [putAll, Act.put, List.setIfInBounds_toArray, List.set_cons_succ, List.set_cons_zero] at hK ⊢
          have e38 := hA 38 (hd 38 (by simp))
          change vs 38 = (.bool true) at e38
          have e43 := hA 43 (hd 43 (by simp))
          change vs 43 = undef at e43
          have e48 := hA 48 (hd 48 (by simp))
          change vs 48 = undef at e48
          simp only [e38, e43, e48] at hK
          go_simp
          exact hK _ _ ⟨Only.refl _ _, hI, rfl⟩
        refine List.forall_mem_cons.2 ⟨fun L vs u hI hA h0 hd => ?_, ?_⟩
        rotate_left
        · exact fun x hx => absurd hx (List.not_mem_nil)
        · as_aux_lemma =>
          refine inv_step3 _ (by rfl) (by rfl) (fun K' hK => ?_)
          simp only [putAll, Act.put, List.setIfInBounds_toArray, List.set_cons_succ, List.set_cons_zero] at hK ⊢
          have e38 := hA 38 (hd 38 (by simp))
          change vs 38 = (.bool true) at e38
          have e49 := hA 49 (hd 49 (by simp))
          change vs 49 = undef at e49
          simp only [e38, e49] at hK
          go_simp
          exact hK _ _ ⟨Only.refl _ _, hI, rfl⟩
      case fin_8 =>
        intro L vs u hI hL hA
        simp only [putAll, Act.put, List.setIfInBounds_toArray, List.set_cons_succ, List.set_cons_zero, List.drop_succ_cons, List.drop_zero]
        have e38 := hA 38 (by omega)
        change vs 38 = .bool true at e38
        have e50 := hA 50 (by omega)
        change vs 50 = undef at e50
        simp only [e38, e50]
        have HI := Lib.hid hI
        clear hA hL hI e38 e50
        go_wp2_with fail
        go_ret
        exact ⟨by rw [← HST.out]; rfl, HO.out.thenNil HI.out⟩
    cases p3
    · skip
      go_wp2_with fail
      have HIN : Hid (∀ (L : Nat → Bool) (vs : Nat → Value) (u u' : World), Only Nil u u' → (fun _ _ u => Only Nil wr u) L vs u → (fun _ _ u => Only Nil wr u) L vs u') := Lib.hid (fun L vs u u' hO hI => by
        exact hI.thenNil hO)
      refine wp_region_any (by kernel_rfl) ?_
      change wpAny _ _ _ _ _ _ _ (World.drew _)
      refine take_first (i := 0) (v := ?v0_9) (some 17) rfl (by rfl) (by kernel_rfl) (by kernel_rfl) (by kernel_rfl) (fun _ _ _ h => h) (Or.inl ⟨by rfl, ?hy0_9⟩) ?rest0_9
      case hy0_9 => (intro w; go_simp <;> with_reducible rfl)
      refine take_first (i := 1) (v := ?v1_9) (some 18) rfl (by rfl) (by kernel_rfl) (by kernel_rfl) (by kernel_rfl) (fun _ _ _ h => h) (Or.inl ⟨by rfl, ?hy1_9⟩) ?rest1_9
      case hy1_9 => (intro w; go_simp <;> with_reducible rfl)
      refine take_first (i := 2) (v := ?v2_9) (some 19) rfl (by rfl) (by kernel_rfl) (by kernel_rfl) (by kernel_rfl) (fun _ _ _ h => h) (Or.inl ⟨by rfl, ?hy2_9⟩) ?rest2_9
      case hy2_9 => (intro w; go_simp <;> with_reducible rfl)
      refine take_first (i := 3) (v := ?v3_9) (some 20) rfl (by rfl) (by kernel_rfl) (by kernel_rfl) (by kernel_rfl) (fun _ _ _ h => h) (Or.inl ⟨by rfl, ?hy3_9⟩) ?rest3_9
      case hy3_9 => (intro w; go_simp <;> with_reducible rfl)
      refine take_first (i := 5) (v := ?v5_9) (some 22) rfl (by rfl) (by kernel_rfl) (by kernel_rfl) (by kernel_rfl) (fun _ _ _ h => h) (Or.inl ⟨by rfl, ?hy5_9⟩) ?rest5_9
      case hy5_9 => (intro w; go_simp <;> with_reducible rfl)
      refine take_first (i := 6) (v := ?v6_9) (some 23) rfl (by rfl) (by kernel_rfl) (by kernel_rfl) (by kernel_rfl) (fun _ _ _ h => h) (Or.inl ⟨by rfl, ?hy6_9⟩) ?rest6_9
      case hy6_9 => (intro w; go_simp <;> with_reducible rfl)
      refine take_first (i := 7) (v := ?v7_9) (some 24) rfl (by rfl) (by kernel_rfl) (by kernel_rfl) (by kernel_rfl) (fun _ _ _ h => h) (Or.inl ⟨by rfl, ?hy7_9⟩) ?rest7_9
      case hy7_9 => (intro w; go_simp <;> with_reducible rfl)
      refine take_first (i := 8) (v := ?v8_9) (some 25) rfl (by rfl) (by kernel_rfl) (by kernel_rfl) (by kernel_rfl) (fun _ _ _ h => h) (Or.inl ⟨by rfl, ?hy8_9⟩) ?rest8_9
      case hy8_9 => (intro w; go_simp <;> with_reducible rfl)
      refine wpAny_inv3 (X := [(4, some 21, []), (9, some 26, []), (10, some 27, [4, 9]), (11, some 28, [10]), (12, some 29, [11]), (13, some 30, [11]), (14, some 31, [11, 12, 13]), (15, some 32, [11, 14]), (16, some 33, [11, 15]), (17, some 34, [11]), (18, some 35, [11]), (19, some 36, [11, 17, 18]), (20, some 37, [11, 19]), (21, some 38, [11, 20]), (22, some 39, [11, 16, 21]), (23, some 40, [11, 22]), (24, some 41, [23]), (25, some 42, [24]), (26, some 43, [24]), (27, some 44, [24, 25, 26]), (28, some 45, [24, 27]), (29, some 46, [24, 28]), (30, some 47, [24]), (31, some 48, [24]), (32, some 49, [24, 30, 31]), (33, some 50, [24, 32]), (34, some 51, [24, 33]), (35, some 52, [24, 29, 34]), (36, some 53, [24, 35]), (37, some 54, [24, 36]), (38, some 55, [37]), (39, some 56, [38]), (40, some 57, [38]), (41, some 58, [38, 39, 40]), (42, some 59, [38, 41]), (43, some 60, [38, 42]), (44, some 61, [38]), (45, some 62, [38]), (46, some 63, [38, 44, 45]), (47, some 64, [38, 46]), (48, some 65, [38, 47]), (49, some 66, [38, 43, 48]), (50, some 67, [38, 49])]) (n := 43) (g := 1) (m := 51) (l0 := [true, true, true, true, false, true, true, true, true, false, false, false, false, false, false, false, false, false, false, false, false, false, false, false, false, false, false, false, false, false, false, false, false, false, false, false, false, false, false, false, false, false, false, false, false, false, false, false, false, false, false, false]) (T := Nil) (Ps := [Any, Any, Any, Any, Cst (.int .i64 kind), Any, Any, Any, Any, Cst (.int .i64 kind'), Cst (.bool false), Cst (.bool false), Cst (.slice (some ⟨b, off, none⟩) M ca), Cst (.int .i64 k), Cst (.pointer (some ⟨b, off + k * 15, none⟩)), Cst (.pointer (some ⟨b, off + k * 15 + 1, none⟩)), Cst (.agg #[.int .i64 a0, .int .i64 a1, .int .i64 a2, .int .i64 a3]), Cst (.slice (some ⟨b', off', none⟩) M cb), Cst (.int .i64 k), Cst (.pointer (some ⟨b', off' + k * 15, none⟩)), Cst (.pointer (some ⟨b', off' + k * 15 + 1, none⟩)), Cst (.agg #[.int .i64 a0', .int .i64 a1', .int .i64 a2', .int .i64 a3']), Cst (.bool false), Cst (.bool false), Cst (.bool false), Cst (.slice (some ⟨b, off, none⟩) M ca), Cst (.int .i64 k), Cst (.pointer (some ⟨b, off + k * 15, none⟩)), Cst (.pointer (some ⟨b, off + k * 15 + 5, none⟩)), Cst (.agg #[.int .i64 src, .int .i64 dst, .int .i64 mk, .int .i64 seq, .int .i64 b0, .int .i64 b1, .int .i64 b2, .int .i64 b3, .slice Am X cm]), Cst (.slice (some ⟨b', off', none⟩) M cb), Cst (.int .i64 k), Cst (.pointer (some ⟨b', off' + k * 15, none⟩)), Cst (.pointer (some ⟨b', off' + k * 15 + 5, none⟩)), Cst (.agg #[.int .i64 src', .int .i64 dst', .int .i64 mk', .int .i64 seq', .int .i64 b0', .int .i64 b1', .int .i64 b2', .int .i64 b3', .slice Am' X' cm']), Cst (.bool false), Cst (.bool true), Cst (.bool true), Cst (.bool true), Cst undef, Cst undef, Cst undef, Cst undef, Cst undef, Cst undef, Cst undef, Cst undef, Cst undef, Cst undef, Cst undef, Cst undef])
        (I := fun _ _ u => Only Nil wr u)
        (by kernel_rfl) rfl (by kernel_rfl) (chk_split [true, true, true, true, true, true, true, true, true, true, true, true, false, false, false, false, false, false, false, false, false, false, false, false, false, false, false, false, false, false, false, false, false, false, false, false, false, false, false, false, false, false, false, false, false, false, false, false, false, false, false, false] 4 39 rfl (by as_aux_lemma => kernel_rfl) (chk_split [true, true, true, true, true, true, true, true, true, true, true, true, true, true, true, true, true, true, true, true, true, true, true, true, true, false, false, false, false, false, false, false, false, false, false, false, false, false, false, false, false, false, false, false, false, false, false, false, false, false, false, false] 13 26 rfl (by as_aux_lemma => kernel_rfl) (chk_split [true, true, true, true, true, true, true, true, true, true, true, true, true, true, true, true, true, true, true, true, true, true, true, true, true, true, true, true, true, true, true, true, true, true, true, true, true, true, true, false, false, false, false, false, false, false, false, false, false, false, false, false] 14 12 rfl (by as_aux_lemma => kernel_rfl) (by as_aux_lemma => kernel_rfl)))) (by kernel_rfl) rfl ?h0_9 ?st_9 ?i0_9 ?step_9 ?fin_9
      case h0_9 =>
        intro j hj v u
        match j, hj with
        | 0, hj => trivial
        | 1, hj => trivial
        | 2, hj => trivial
        | 3, hj => trivial
        | 4, hj => exact absurd hj (by decide)
        | 5, hj => trivial
        | 6, hj => trivial
        | 7, hj => trivial
        | 8, hj => trivial
        | 9, hj => exact absurd hj (by decide)
        | 10, hj => exact absurd hj (by decide)
        | 11, hj => exact absurd hj (by decide)
        | 12, hj => exact absurd hj (by decide)
        | 13, hj => exact absurd hj (by decide)
        | 14, hj => exact absurd hj (by decide)
        | 15, hj => exact absurd hj (by decide)
        | 16, hj => exact absurd hj (by decide)
        | 17, hj => exact absurd hj (by decide)
        | 18, hj => exact absurd hj (by decide)
        | 19, hj => exact absurd hj (by decide)
        | 20, hj => exact absurd hj (by decide)
        | 21, hj => exact absurd hj (by decide)
        | 22, hj => exact absurd hj (by decide)
        | 23, hj => exact absurd hj (by decide)
        | 24, hj => exact absurd hj (by decide)
        | 25, hj => exact absurd hj (by decide)
        | 26, hj => exact absurd hj (by decide)
        | 27, hj => exact absurd hj (by decide)
        | 28, hj => exact absurd hj (by decide)
        | 29, hj => exact absurd hj (by decide)
        | 30, hj => exact absurd hj (by decide)
        | 31, hj => exact absurd hj (by decide)
        | 32, hj => exact absurd hj (by decide)
        | 33, hj => exact absurd hj (by decide)
        | 34, hj => exact absurd hj (by decide)
        | 35, hj => exact absurd hj (by decide)
        | 36, hj => exact absurd hj (by decide)
        | 37, hj => exact absurd hj (by decide)
        | 38, hj => exact absurd hj (by decide)
        | 39, hj => exact absurd hj (by decide)
        | 40, hj => exact absurd hj (by decide)
        | 41, hj => exact absurd hj (by decide)
        | 42, hj => exact absurd hj (by decide)
        | 43, hj => exact absurd hj (by decide)
        | 44, hj => exact absurd hj (by decide)
        | 45, hj => exact absurd hj (by decide)
        | 46, hj => exact absurd hj (by decide)
        | 47, hj => exact absurd hj (by decide)
        | 48, hj => exact absurd hj (by decide)
        | 49, hj => exact absurd hj (by decide)
        | 50, hj => exact absurd hj (by decide)
        | 51, hj => exact absurd hj (by decide)
        | n + 52, hj => exact absurd hj (by simp)
      case st_9 =>
        have hT : ∀ x, (Nil) x → x < 0 := fun x h => h.elim
        intro p hp
        simp only [List.mem_cons, List.not_mem_nil, or_false] at hp
        rcases hp with rfl | rfl | rfl | rfl | rfl | rfl | rfl | rfl | rfl | rfl | rfl | rfl | rfl | rfl | rfl | rfl | rfl | rfl | rfl | rfl | rfl | rfl | rfl | rfl | rfl | rfl | rfl | rfl | rfl | rfl | rfl | rfl | rfl | rfl | rfl | rfl | rfl | rfl | rfl | rfl | rfl | rfl | rfl | rfl | rfl | rfl | rfl | rfl | rfl | rfl | rfl <;> first | exact Stays.cst _ | exact Stays.own hT | exact Stays.emp hT | exact Stays.any
      case i0_9 =>
        intro vs
        exact (Only.refl _ _).drew
      case step_9 =>
        refine List.forall_mem_cons.2 ⟨fun L vs u hI hA h0 hd => ?_, ?_⟩
        · as_aux_lemma =>
          refine inv_step3 _ (by rfl) (by rfl) (fun K' hK => ?_)
          simp only [putAll, Act.put, List.setIfInBounds_toArray, List.set_cons_succ, List.set_cons_zero] at hK ⊢
          have hs := HS.out u hI
          obtain ⟨q0, q1, q2, q3, q4, q5, q6, q7, q8, q9, q10, q11, q12, q13, q14, q15, q16, q17, q18, q19, q20, q21, q22, q23, q24, q25, q26, q27, q28, q29⟩ := hs
          go_simp
          exact hK _ _ ⟨Only.refl _ _, hI, rfl⟩
        refine List.forall_mem_cons.2 ⟨fun L vs u hI hA h0 hd => ?_, ?_⟩
        · as_aux_lemma =>
          refine inv_step3 _ (by rfl) (by rfl) (fun K' hK => ?_)
          simp only [putAll, Act.put, List.setIfInBounds_toArray, List.set_cons_succ, List.set_cons_zero] at hK ⊢
          have hs := HS.out u hI
          obtain ⟨q0, q1, q2, q3, q4, q5, q6, q7, q8, q9, q10, q11, q12, q13, q14, q15, q16, q17, q18, q19, q20, q21, q22, q23, q24, q25, q26, q27, q28, q29⟩ := hs
          go_simp
          exact hK _ _ ⟨Only.refl _ _, hI, rfl⟩
        refine List.forall_mem_cons.2 ⟨fun L vs u hI hA h0 hd => ?_, ?_⟩
        · as_aux_lemma =>
          refine inv_step3 _ (by rfl) (by rfl) (fun K' hK => ?_)
          simp only [putAll, Act.put, List.setIfInBounds_toArray, List.set_cons_succ, List.set_cons_zero] at hK ⊢
          have e4 := hA 4 (hd 4 (by simp))
          change vs 4 = (.int .i64 kind) at e4
          have e9 := hA 9 (hd 9 (by simp))
          change vs 9 = (.int .i64 kind') at e9
          simp only [e4, e9] at hK
          go_simp
          exact hK _ _ ⟨Only.refl _ _, hI, rfl⟩
        refine List.forall_mem_cons.2 ⟨fun L vs u hI hA h0 hd => ?_, ?_⟩
        · as_aux_lemma =>
          refine inv_step3 _ (by rfl) (by rfl) (fun K' hK => ?_)
          simp only [putAll, Act.put, List.setIfInBounds_toArray, List.set_cons_succ, List.set_cons_zero] at hK ⊢
          have e10 := hA 10 (hd 10 (by simp))
          change vs 10 = (.bool false) at e10
          simp only [e10] at hK
          go_simp
          exact hK _ _ ⟨Only.refl _ _, hI, rfl⟩
        refine List.forall_mem_cons.2 ⟨fun L vs u hI hA h0 hd => ?_, ?_⟩
        · as_aux_lemma =>
          refine inv_step3 _ (by rfl) (by rfl) (fun K' hK => ?_)
          simp only [putAll, Act.put, List.setIfInBounds_toArray, List.set_cons_succ, List.set_cons_zero] at hK ⊢
          have e11 := hA 11 (hd 11 (by simp))
          change vs 11 = (.bool false) at e11
          simp only [e11] at hK
          go_simp
          exact hK _ _ ⟨Only.refl _ _, hI, rfl⟩
        refine List.forall_mem_cons.2 ⟨fun L vs u hI hA h0 hd => ?_, ?_⟩
        · as_aux_lemma =>
          refine inv_step3 _ (by rfl) (by rfl) (fun K' hK => ?_)
          simp only [putAll, Act.put, List.setIfInBounds_toArray, List.set_cons_succ, List.set_cons_zero] at hK ⊢
          have e11 := hA 11 (hd 11 (by simp))
          change vs 11 = (.bool false) at e11
          simp only [e11] at hK
          go_simp
          exact hK _ _ ⟨Only.refl _ _, hI, rfl⟩
        refine List.forall_mem_cons.2 ⟨fun L vs u hI hA h0 hd => ?_, ?_⟩
        · as_aux_lemma =>
          refine inv_step3 _ (by rfl) (by rfl) (fun K' hK => ?_)
          simp only [putAll, Act.put, List.setIfInBounds_toArray, List.set_cons_succ, List.set_cons_zero] at hK ⊢
          have e11 := hA 11 (hd 11 (by simp))
          change vs 11 = (.bool false) at e11
          have e12 := hA 12 (hd 12 (by simp))
          change vs 12 = (.slice (some ⟨b, off, none⟩) M ca) at e12
          have e13 := hA 13 (hd 13 (by simp))
          change vs 13 = (.int .i64 k) at e13
          simp only [e11, e12, e13] at hK
          go_simp
          exact hK _ _ ⟨Only.refl _ _, hI, rfl⟩
        refine List.forall_mem_cons.2 ⟨fun L vs u hI hA h0 hd => ?_, ?_⟩
        · as_aux_lemma =>
          refine inv_step3 _ (by rfl) (by rfl) (fun K' hK => ?_)
          simp only [putAll, Act.put, List.setIfInBounds_toArray, List.set_cons_succ, List.set_cons_zero] at hK ⊢
          have e11 := hA 11 (hd 11 (by simp))
          change vs 11 = (.bool false) at e11
          have e14 := hA 14 (hd 14 (by simp))
          change vs 14 = (.pointer (some ⟨b, off + k * 15, none⟩)) at e14
          simp only [e11, e14] at hK
          go_simp
          exact hK _ _ ⟨Only.refl _ _, hI, rfl⟩
        refine List.forall_mem_cons.2 ⟨fun L vs u hI hA h0 hd => ?_, ?_⟩
        · as_aux_lemma =>
          refine inv_step3 _ (by rfl) (by rfl) (fun K' hK => ?_)
          simp only [putAll, Act.put, List.setIfInBounds_toArray, List.set_cons_succ, List.set_cons_zero] at hK ⊢
          have e11 := hA 11 (hd 11 (by simp))
          change vs 11 = (.bool false) at e11
          have e15 := hA 15 (hd 15 (by simp))
          change vs 15 = (.pointer (some ⟨b, off + k * 15 + 1, none⟩)) at e15
          simp only [e11, e15] at hK
          have hs := HS.out u hI
          obtain ⟨q0, q1, q2, q3, q4, q5, q6, q7, q8, q9, q10, q11, q12, q13, q14, q15, q16, q17, q18, q19, q20, q21, q22, q23, q24, q25, q26, q27, q28, q29⟩ := hs
          go_simp
          exact hK _ _ ⟨Only.refl _ _, hI, rfl⟩
        refine List.forall_mem_cons.2 ⟨fun L vs u hI hA h0 hd => ?_, ?_⟩
        · as_aux_lemma =>
          refine inv_step3 _ (by rfl) (by rfl) (fun K' hK => ?_)
          simp only [putAll, Act.put, List.setIfInBounds_toArray, List.set_cons_succ, List.set_cons_zero] at hK ⊢
          have e11 := hA 11 (hd 11 (by simp))
          change vs 11 = (.bool false) at e11
          simp only [e11] at hK
          go_simp
          exact hK _ _ ⟨Only.refl _ _, hI, rfl⟩
        refine List.forall_mem_cons.2 ⟨fun L vs u hI hA h0 hd => ?_, ?_⟩
        · as_aux_lemma =>
          refine inv_step3 _ (by rfl) (by rfl) (fun K' hK => ?_)
          simp only [putAll, Act.put, List.setIfInBounds_toArray, List.set_cons_succ, List.set_cons_zero] at hK ⊢
          have e11 := hA 11 (hd 11 (by simp))
          change vs 11 = (.bool false) at e11
          simp only [e11] at hK
          go_simp
          exact hK _ _ ⟨Only.refl _ _, hI, rfl⟩
        refine List.forall_mem_cons.2 ⟨fun L vs u hI hA h0 hd => ?_, ?_⟩
        · as_aux_lemma =>
          refine inv_step3 _ (by rfl) (by rfl) (fun K' hK => ?_)
          simp only [putAll, Act.put, List.setIfInBounds_toArray, List.set_cons_succ, List.set_cons_zero] at hK ⊢
          have e11 := hA 11 (hd 11 (by simp))
          change vs 11 = (.bool false) at e11
          have e17 := hA 17 (hd 17 (by simp))
          change vs 17 = (.slice (some ⟨b', off', none⟩) M cb) at e17
          have e18 := hA 18 (hd 18 (by simp))
          change vs 18 = (.int .i64 k) at e18
          simp only [e11, e17, e18] at hK
          go_simp
          exact hK _ _ ⟨Only.refl _ _, hI, rfl⟩
        refine List.forall_mem_cons.2 ⟨fun L vs u hI hA h0 hd => ?_, ?_⟩
        · as_aux_lemma =>
          refine inv_step3 _ (by rfl) (by rfl) (fun K' hK => ?_)
          simp only [putAll, Act.put, List.setIfInBounds_toArray, List.set_cons_succ, List.set_cons_zero] at hK ⊢
          have e11 := hA 11 (hd 11 (by simp))
          change vs 11 = (.bool false) at e11
          have e19 := hA 19 (hd 19 (by simp))
          change vs 19 = (.pointer (some ⟨b', off' + k * 15, none⟩)) at e19
          simp only [e11, e19] at hK
          go_simp
          exact hK _ _ ⟨Only.refl _ _, hI, rfl⟩
        refine List.forall_mem_cons.2 ⟨fun L vs u hI hA h0 hd => ?_, ?_⟩
        · as_aux_lemma =>
          refine inv_step3 _ (by rfl) (by rfl) (fun K' hK => ?_)
          simp only [putAll, Act.put, List.setIfInBounds_toArray, List.set_cons_succ, List.set_cons_zero] at hK ⊢
          have e11 := hA 11 (hd 11 (by simp))
          change vs 11 = (.bool false) at e11
          have e20 := hA 20 (hd 20 (by simp))
          change vs 20 = (.pointer (some ⟨b', off' + k * 15 + 1, none⟩)) at e20
          simp only [e11, e20] at hK
          have hs := HS.out u hI
          obtain ⟨q0, q1, q2, q3, q4, q5, q6, q7, q8, q9, q10, q11, q12, q13, q14, q15, q16, q17, q18, q19, q20, q21, q22, q23, q24, q25, q26, q27, q28, q29⟩ := hs
          go_simp
          exact hK _ _ ⟨Only.refl _ _, hI, rfl⟩
        refine List.forall_mem_cons.2 ⟨fun L vs u hI hA h0 hd => ?_, ?_⟩
        · as_aux_lemma =>
          refine inv_step3 _ (by rfl) (by rfl) (fun K' hK => ?_)
          simp only [putAll, Act.put, List.setIfInBounds_toArray, List.set_cons_succ, List.set_cons_zero] at hK ⊢
          have e11 := hA 11 (hd 11 (by simp))
          change vs 11 = (.bool false) at e11
          have e16 := hA 16 (hd 16 (by simp))
          change vs 16 = (.agg #[.int .i64 a0, .int .i64 a1, .int .i64 a2, .int .i64 a3]) at e16
          have e21 := hA 21 (hd 21 (by simp))
          change vs 21 = (.agg #[.int .i64 a0', .int .i64 a1', .int .i64 a2', .int .i64 a3']) at e21
          simp only [e11, e16, e21] at hK
          have hq := hq4 u
          go_simp
          exact hK _ _ ⟨Only.refl _ _, hI, rfl⟩
        refine List.forall_mem_cons.2 ⟨fun L vs u hI hA h0 hd => ?_, ?_⟩
        · as_aux_lemma =>
          refine inv_step3 _ (by rfl) (by rfl) (fun K' hK => ?_)
          simp only [putAll, Act.put, List.setIfInBounds_toArray, List.set_cons_succ, List.set_cons_zero] at hK ⊢
          have e11 := hA 11 (hd 11 (by simp))
          change vs 11 = (.bool false) at e11
          have e22 := hA 22 (hd 22 (by simp))
          change vs 22 = (.bool false) at e22
          simp only [e11, e22] at hK
          go_simp
          exact hK _ _ ⟨Only.refl _ _, hI, rfl⟩
        refine List.forall_mem_cons.2 ⟨fun L vs u hI hA h0 hd => ?_, ?_⟩
        · as_aux_lemma =>
          refine inv_step3 _ (by rfl) (by rfl) (fun K' hK => ?_)
          simp only [putAll, Act.put, List.setIfInBounds_toArray, List.set_cons_succ, List.set_cons_zero] at hK ⊢
          have e23 := hA 23 (hd 23 (by simp))
          change vs 23 = (.bool false) at e23
          simp only [e23] at hK
          go_simp
          exact hK _ _ ⟨Only.refl _ _, hI, rfl⟩
        refine List.forall_mem_cons.2 ⟨fun L vs u hI hA h0 hd => ?_, ?_⟩
        · as_aux_lemma =>
          refine inv_step3 _ (by rfl) (by rfl) (fun K' hK => ?_)
          simp only [putAll, Act.put, List.setIfInBounds_toArray, List.set_cons_succ, List.set_cons_zero] at hK ⊢
          have e24 := hA 24 (hd 24 (by simp))
          change vs 24 = (.bool false) at e24
          simp only [e24] at hK
          go_simp
          exact hK _ _ ⟨Only.refl _ _, hI, rfl⟩
        refine List.forall_mem_cons.2 ⟨fun L vs u hI hA h0 hd => ?_, ?_⟩
        · as_aux_lemma =>
          refine inv_step3 _ (by rfl) (by rfl) (fun K' hK => ?_)
          simp only [putAll, Act.put, List.setIfInBounds_toArray, List.set_cons_succ, List.set_cons_zero] at hK ⊢
          have e24 := hA 24 (hd 24 (by simp))
          change vs 24 = (.bool false) at e24
          simp only [e24] at hK
          go_simp
          exact hK _ _ ⟨Only.refl _ _, hI, rfl⟩
        refine List.forall_mem_cons.2 ⟨fun L vs u hI hA h0 hd => ?_, ?_⟩
        · as_aux_lemma =>
          refine inv_step3 _ (by rfl) (by rfl) (fun K' hK => ?_)
          simp only [putAll, Act.put, List.setIfInBounds_toArray, List.set_cons_succ, List.set_cons_zero] at hK ⊢
          have e24 := hA 24 (hd 24 (by simp))
          change vs 24 = (.bool false) at e24
          have e25 := hA 25 (hd 25 (by simp))
          change vs 25 = (.slice (some ⟨b, off, none⟩) M ca) at e25
          have e26 := hA 26 (hd 26 (by simp))
          change vs 26 = (.int .i64 k) at e26
          simp only [e24, e25, e26] at hK
          go_simp
          exact hK _ _ ⟨Only.refl _ _, hI, rfl⟩
        refine List.forall_mem_cons.2 ⟨fun L vs u hI hA h0 hd => ?_, ?_⟩
        · as_aux_lemma =>
          refine inv_step3 _ (by rfl) (by rfl) (fun K' hK => ?_)
          simp only [putAll, Act.put, List.setIfInBounds_toArray, List.set_cons_succ, List.set_cons_zero] at hK ⊢
          have e24 := hA 24 (hd 24 (by simp))
          change vs 24 = (.bool false) at e24
          have e27 := hA 27 (hd 27 (by simp))
          change vs 27 = (.pointer (some ⟨b, off + k * 15, none⟩)) at e27
          simp only [e24, e27] at hK
          go_simp
          exact hK _ _ ⟨Only.refl _ _, hI, rfl⟩
        refine List.forall_mem_cons.2 ⟨fun L vs u hI hA h0 hd => ?_, ?_⟩
        · as_aux_lemma =>
          refine inv_step3 _ (by rfl) (by rfl) (fun K' hK => ?_)
          simp only [putAll, Act.put, List.setIfInBounds_toArray, List.set_cons_succ, List.set_cons_zero] at hK ⊢
          have e24 := hA 24 (hd 24 (by simp))
          change vs 24 = (.bool false) at e24
          have e28 := hA 28 (hd 28 (by simp))
          change vs 28 = (.pointer (some ⟨b, off + k * 15 + 5, none⟩)) at e28
          simp only [e24, e28] at hK
          have hs := HS.out u hI
          obtain ⟨q0, q1, q2, q3, q4, q5, q6, q7, q8, q9, q10, q11, q12, q13, q14, q15, q16, q17, q18, q19, q20, q21, q22, q23, q24, q25, q26, q27, q28, q29⟩ := hs
          go_simp
          exact hK _ _ ⟨Only.refl _ _, hI, rfl⟩
        refine List.forall_mem_cons.2 ⟨fun L vs u hI hA h0 hd => ?_, ?_⟩
        · as_aux_lemma =>
          refine inv_step3 _ (by rfl) (by rfl) (fun K' hK => ?_)
          simp only [putAll, Act.put, List.setIfInBounds_toArray, List.set_cons_succ, List.set_cons_zero] at hK ⊢
          have e24 := hA 24 (hd 24 (by simp))
          change vs 24 = (.bool false) at e24
          simp only [e24] at hK
          go_simp
          exact hK _ _ ⟨Only.refl _ _, hI, rfl⟩
        refine List.forall_mem_cons.2 ⟨fun L vs u hI hA h0 hd => ?_, ?_⟩
        · as_aux_lemma =>
          refine inv_step3 _ (by rfl) (by rfl) (fun K' hK => ?_)
          simp only [putAll, Act.put, List.setIfInBounds_toArray, List.set_cons_succ, List.set_cons_zero] at hK ⊢
          have e24 := hA 24 (hd 24 (by simp))
          change vs 24 = (.bool false) at e24
          simp only [e24] at hK
          go_simp
          exact hK _ _ ⟨Only.refl _ _, hI, rfl⟩
        refine List.forall_mem_cons.2 ⟨fun L vs u hI hA h0 hd => ?_, ?_⟩
        · as_aux_lemma =>
          refine inv_step3 _ (by rfl) (by rfl) (fun K' hK => ?_)
          simp only [putAll, Act.put, List.setIfInBounds_toArray, List.set_cons_succ, List.set_cons_zero] at hK ⊢
          have e24 := hA 24 (hd 24 (by simp))
          change vs 24 = (.bool false) at e24
          have e30 := hA 30 (hd 30 (by simp))
          change vs 30 = (.slice (some ⟨b', off', none⟩) M cb) at e30
          have e31 := hA 31 (hd 31 (by simp))
          change vs 31 = (.int .i64 k) at e31
          simp only [e24, e30, e31] at hK
          go_simp
          exact hK _ _ ⟨Only.refl _ _, hI, rfl⟩
        refine List.forall_mem_cons.2 ⟨fun L vs u hI hA h0 hd => ?_, ?_⟩
        · as_aux_lemma =>
          refine inv_step3 _ (by rfl) (by rfl) (fun K' hK => ?_)
          simp only [putAll, Act.put, List.setIfInBounds_toArray, List.set_cons_succ, List.set_cons_zero] at hK ⊢
          have e24 := hA 24 (hd 24 (by simp))
          change vs 24 = (.bool false) at e24
          have e32 := hA 32 (hd 32 (by simp))
          change vs 32 = (.pointer (some ⟨b', off' + k * 15, none⟩)) at e32
          simp only [e24, e32] at hK
          go_simp
          exact hK _ _ ⟨Only.refl _ _, hI, rfl⟩
        refine List.forall_mem_cons.2 ⟨fun L vs u hI hA h0 hd => ?_, ?_⟩
        · as_aux_lemma =>
          refine inv_step3 _ (by rfl) (by rfl) (fun K' hK => ?_)
          simp only [putAll, Act.put, List.setIfInBounds_toArray, List.set_cons_succ, List.set_cons_zero] at hK ⊢
          have e24 := hA 24 (hd 24 (by simp))
          change vs 24 = (.bool false) at e24
          have e33 := hA 33 (hd 33 (by simp))
          change vs 33 = (.pointer (some ⟨b', off' + k * 15 + 5, none⟩)) at e33
          simp only [e24, e33] at hK
          have hs := HS.out u hI
          obtain ⟨q0, q1, q2, q3, q4, q5, q6, q7, q8, q9, q10, q11, q12, q13, q14, q15, q16, q17, q18, q19, q20, q21, q22, q23, q24, q25, q26, q27, q28, q29⟩ := hs
          go_simp
          exact hK _ _ ⟨Only.refl _ _, hI, rfl⟩
        refine List.forall_mem_cons.2 ⟨fun L vs u hI hA h0 hd => ?_, ?_⟩
        · as_aux_lemma =>
          refine inv_step3 _ (by rfl) (by rfl) (fun K' hK => ?_)
          simp only [putAll, Act.put, List.setIfInBounds_toArray, List.set_cons_succ, List.set_cons_zero] at hK ⊢
          have e24 := hA 24 (hd 24 (by simp))
          change vs 24 = (.bool false) at e24
          have e29 := hA 29 (hd 29 (by simp))
          change vs 29 = (.agg #[.int .i64 src, .int .i64 dst, .int .i64 mk, .int .i64 seq, .int .i64 b0, .int .i64 b1, .int .i64 b2, .int .i64 b3, .slice Am X cm]) at e29
          have e34 := hA 34 (hd 34 (by simp))
          change vs 34 = (.agg #[.int .i64 src', .int .i64 dst', .int .i64 mk', .int .i64 seq', .int .i64 b0', .int .i64 b1', .int .i64 b2', .int .i64 b3', .slice Am' X' cm']) at e34
          simp only [e24, e29, e34] at hK
          simp only [e29, e34] at hK ⊢
          go_simp
          go_at_call 17
          refine (HSM.out u hI).mono ?_
          rintro z u2 ⟨rfl, hO2⟩
          go_simp
          exact hK _ _ ⟨hO2, HIN.out L vs _ _ hO2 hI, rfl⟩
        refine List.forall_mem_cons.2 ⟨fun L vs u hI hA h0 hd => ?_, ?_⟩
        · as_aux_lemma =>
          refine inv_step3 _ (by rfl) (by rfl) (fun K' hK => ?_)
          simp only [putAll, Act.put, List.setIfInBounds_toArray, List.set_cons_succ, List.set_cons_zero] at hK ⊢
          have e24 := hA 24 (hd 24 (by simp))
          change vs 24 = (.bool false) at e24
          have e35 := hA 35 (hd 35 (by simp))
          change vs 35 = (.bool false) at e35
          simp only [e24, e35] at hK
          go_simp
          exact hK _ _ ⟨Only.refl _ _, hI, rfl⟩
        refine List.forall_mem_cons.2 ⟨fun L vs u hI hA h0 hd => ?_, ?_⟩
        · as_aux_lemma =>
          refine inv_step3 _ (by rfl) (by rfl) (fun K' hK => ?_)
          simp only [putAll, Act.put, List.setIfInBounds_toArray, List.set_cons_succ, List.set_cons_zero] at hK ⊢
          have e24 := hA 24 (hd 24 (by simp))
          change vs 24 = (.bool false) at e24
          have e36 := hA 36 (hd 36 (by simp))
          change vs 36 = (.bool true) at e36
          simp only [e24, e36] at hK
          go_simp
          exact hK _ _ ⟨Only.refl _ _, hI, rfl⟩
        refine List.forall_mem_cons.2 ⟨fun L vs u hI hA h0 hd => ?_, ?_⟩
        · as_aux_lemma =>
          refine inv_step3 _ (by rfl) (by rfl) (fun K' hK => ?_)
          simp only [putAll, Act.put, List.setIfInBounds_toArray, List.set_cons_succ, List.set_cons_zero] at hK ⊢
          have e37 := hA 37 (hd 37 (by simp))
          change vs 37 = (.bool true) at e37
          simp only [e37] at hK
          go_simp
          exact hK _ _ ⟨Only.refl _ _, hI, rfl⟩
        refine List.forall_mem_cons.2 ⟨fun L vs u hI hA h0 hd => ?_, ?_⟩
        · as_aux_lemma =>
          refine inv_step3 _ (by rfl) (by rfl) (fun K' hK => ?_)
          simp only [putAll, Act.put, List.setIfInBounds_toArray, List.set_cons_succ, List.set_cons_zero] at hK ⊢
          have e38 := hA 38 (hd 38 (by simp))
          change vs 38 = (.bool true) at e38
          simp only [e38] at hK
          go_simp
          exact hK _ _ ⟨Only.refl _ _, hI, rfl⟩
        refine List.forall_mem_cons.2 ⟨fun L vs u hI hA h0 hd => ?_, ?_⟩
        · as_aux_lemma =>
          refine inv_step3 _ (by rfl) (by rfl) (fun K' hK => ?_)
          simp only [putAll, Act.put, List.setIfInBounds_toArray, List.set_cons_succ, List.set_cons_zero] at hK ⊢
          have e38 := hA 38 (hd 38 (by simp))
          change vs 38 = (.bool true) at e38
          simp only [e38] at hK
          go_simp
          exact hK _ _ ⟨Only.refl _ _, hI, rfl⟩
        refine List.forall_mem_cons.2 ⟨fun L vs u hI hA h0 hd => ?_, ?_⟩
        · as_aux_lemma =>
          refine inv_step3 _ (by rfl) (by rfl) (fun K' hK => ?_)
          simp only [putAll, Act.put, List.setIfInBounds_toArray, List.set_cons_succ, List.set_cons_zero] at hK ⊢
          have e38 := hA 38 (hd 38 (by simp))
          change vs 38 = (.bool true) at e38
          have e39 := hA 39 (hd 39 (by simp))
          change vs 39 = undef at e39
          have e40 := hA 40 (hd 40 (by simp))
          change vs 40 = undef at e40
          simp only [e38, e39, e40] at hK
          go_simp
          exact hK _ _ ⟨Only.refl _ _, hI, rfl⟩
        refine List.forall_mem_cons.2 ⟨fun L vs u hI hA h0 hd => ?_, ?_⟩
        · as_aux_lemma =>
          refine inv_step3 _ (by rfl) (by rfl) (fun K' hK => ?_)
          simp only [putAll, Act.put, List.setIfInBounds_toArray, List.set_cons_succ, List.set_cons_zero] at hK ⊢
          have e38 := hA 38 (hd 38 (by simp))
          change vs 38 = (.bool true) at e38
          have e41 := hA 41 (hd 41 (by simp))
          change vs 41 = undef at e41
          simp only [e38, e41] at hK
          go_simp
          exact hK _ _ ⟨Only.refl _ _, hI, rfl⟩
        refine List.forall_mem_cons.2 ⟨fun L vs u hI hA h0 hd => ?_, ?_⟩
        · as_aux_lemma =>
          refine inv_step3 _ (by rfl) (by rfl) (fun K' hK => ?_)
          simp only [putAll, Act.put, List.setIfInBounds_toArray, List.set_cons_succ, List.set_cons_zero] at hK ⊢
          have e38 := hA 38 (hd 38 (by simp))
          change vs 38 = (.bool true) at e38
          have e42 := hA 42 (hd 42 (by simp))
          change vs 42 = undef at e42
          simp only [e38, e42] at hK
          go_simp
          exact hK _ _ ⟨Only.refl _ _, hI, rfl⟩
        refine List.forall_mem_cons.2 ⟨fun L vs u hI hA h0 hd => ?_, ?_⟩
        · as_aux_lemma =>
          refine inv_step3 _ (by rfl) (by rfl) (fun K' hK => ?_)
          simp only [putAll, Act.put, List.setIfInBounds_toArray, List.set_cons_succ, List.set_cons_zero] at hK ⊢
          have e38 := hA 38 (hd 38 (by simp))
          change vs 38 = (.bool true) at e38
          simp only [e38] at hK
          go_simp
          exact hK _ _ ⟨Only.refl _ _, hI, rfl⟩
        refine List.forall_mem_cons.2 ⟨fun L vs u hI hA h0 hd => ?_, ?_⟩
        · as_aux_lemma =>
          refine inv_step3 _ (by rfl) (by rfl) (fun K' hK => ?_)
          simp only [putAll, Act.put, List.setIfInBounds_toArray, List.set_cons_succ, List.set_cons_zero] at hK ⊢
          have e38 := hA 38 (hd 38 (by simp))
          change vs 38 = (.bool true) at e38
          simp only [e38] at hK
          go_simp
          exact hK _ _ ⟨Only.refl _ _, hI, rfl⟩
        refine List.forall_mem_cons.2 ⟨fun L vs u hI hA h0 hd => ?_, ?_⟩
        · as_aux_lemma =>
          refine inv_step3 _ (by rfl) (by rfl) (fun K' hK => ?_)
          simp only [putAll, Act.put, List.setIfInBounds_toArray, List.set_cons_succ, List.set_cons_zero] at hK ⊢
          have e38 := hA 38 (hd 38 (by simp))
          change vs 38 = (.bool true) at e38
          have e44 := hA 44 (hd 44 (by simp))
          change vs 44 = undef at e44
          have e45 := hA 45 (hd 45 (by simp))
          change vs 45 = undef at e45
          simp only [e38, e44, e45] at hK
          go_simp
          exact hK _ _ ⟨Only.refl _ _, hI, rfl⟩
        refine List.forall_mem_cons.2 ⟨fun L vs u hI hA h0 hd => ?_, ?_⟩
        · as_aux_lemma =>
          refine inv_step3 _ (by rfl) (by rfl) (fun K' hK => ?_)
          simp only [putAll, Act.put, List.setIfInBounds_toArray, List.set_cons_succ, List.set_cons_zero] at hK ⊢
          have e38 := hA 38 (hd 38 (by simp))
          change vs 38 = (.bool true) at e38
          have e46 := hA 46 (hd 46 (by simp))
          change vs 46 = undef at e46
          simp only [e38, e46] at hK
          go_simp
          exact hK _ _ ⟨Only.refl _ _, hI, rfl⟩
        refine List.forall_mem_cons.2 ⟨fun L vs u hI hA h0 hd => ?_, ?_⟩
        · as_aux_lemma =>
          refine inv_step3 _ (by rfl) (by rfl) (fun K' hK => ?_)
          simp only [putAll, Act.put, List.setIfInBounds_toArray, List.set_cons_succ, List.set_cons_zero] at hK ⊢
          have e38 := hA 38 (hd 38 (by simp))
          change vs 38 = (.bool true) at e38
          have e47 := hA 47 (hd 47 (by simp))
          change vs 47 = undef at e47
          simp only [e38, e47] at hK
          go_simp
          exact hK _ _ ⟨Only.refl _ _, hI, rfl⟩
        refine List.forall_mem_cons.2 ⟨fun L vs u hI hA h0 hd => ?_, ?_⟩
        · as_aux_lemma =>
          refine inv_step3 _ (by rfl) (by rfl) (fun K' hK => ?_)
          simp only [putAll, Act.put, List.setIfInBounds_toArray, List.set_cons_succ, List.set_cons_zero] at hK ⊢
          have e38 := hA 38 (hd 38 (by simp))
          change vs 38 = (.bool true) at e38
          have e43 := hA 43 (hd 43 (by simp))
          change vs 43 = undef at e43
          have e48 := hA 48 (hd 48 (by simp))
          change vs 48 = undef at e48
          simp only [e38, e43, e48] at hK
          go_simp
          exact hK _ _ ⟨Only.refl _ _, hI, rfl⟩
        refine List.forall_mem_cons.2 ⟨fun L vs u hI hA h0 hd => ?_, ?_⟩
        rotate_left
        · exact fun x hx => absurd hx (List.not_mem_nil)
        · as_aux_lemma =>
          refine inv_step3 _ (by rfl) (by rfl) (fun K' hK => ?_)
          simp only [putAll, Act.put, List.setIfInBounds_toArray, List.set_cons_succ, List.set_cons_zero] at hK ⊢
          have e38 := hA 38 (hd 38 (by simp))
          change vs 38 = (.bool true) at e38
          have e49 := hA 49 (hd 49 (by simp))
          change vs 49 = undef at e49
          simp only [e38, e49] at hK
          go_simp
          exact hK _ _ ⟨Only.refl _ _, hI, rfl⟩
      case fin_9 =>
        intro L vs u hI hL hA
        simp only [putAll, Act.put, List.setIfInBounds_toArray, List.set_cons_succ, List.set_cons_zero, List.drop_succ_cons, List.drop_zero]
        have e38 := hA 38 (by omega)
        change vs 38 = .bool true at e38
        have e50 := hA 50 (by omega)
        change vs 50 = undef at e50
        simp only [e38, e50]
        have HI := Lib.hid hI
        clear hA hL hI e38 e50
        go_wp2_with fail
        go_ret
        exact ⟨by rw [← HST.out]; rfl, HO.out.thenNil HI.out⟩
    skip
    go_wp2_with fail
    have HIN : Hid (∀ (L : Nat → Bool) (vs : Nat → Value) (u u' : World), Only Nil u u' → (fun _ _ u => Only Nil wr u) L vs u → (fun _ _ u => Only Nil wr u) L vs u') := Lib.hid (fun L vs u u' hO hI => by
      exact hI.thenNil hO)
    refine wp_region_any (by kernel_rfl) ?_
    change wpAny _ _ _ _ _ _ _ (World.drew _)
    refine take_first (i := 0) (v := ?v0_10) (some 17) rfl (by rfl) (by kernel_rfl) (by kernel_rfl) (by kernel_rfl) (fun _ _ _ h => h) (Or.inl ⟨by rfl, ?hy0_10⟩) ?rest0_10
    case hy0_10 => (intro w; go_simp <;> with_reducible rfl)
    refine take_first (i := 1) (v := ?v1_10) (some 18) rfl (by rfl) (by kernel_rfl) (by kernel_rfl) (by kernel_rfl) (fun _ _ _ h => h) (Or.inl ⟨by rfl, ?hy1_10⟩) ?rest1_10
    case hy1_10 => (intro w; go_simp <;> with_reducible rfl)
    refine take_first (i := 2) (v := ?v2_10) (some 19) rfl (by rfl) (by kernel_rfl) (by kernel_rfl) (by kernel_rfl) (fun _ _ _ h => h) (Or.inl ⟨by rfl, ?hy2_10⟩) ?rest2_10
    case hy2_10 => (intro w; go_simp <;> with_reducible rfl)
    refine take_first (i := 3) (v := ?v3_10) (some 20) rfl (by rfl) (by kernel_rfl) (by kernel_rfl) (by kernel_rfl) (fun _ _ _ h => h) (Or.inl ⟨by rfl, ?hy3_10⟩) ?rest3_10
    case hy3_10 => (intro w; go_simp <;> with_reducible rfl)
    refine take_first (i := 5) (v := ?v5_10) (some 22) rfl (by rfl) (by kernel_rfl) (by kernel_rfl) (by kernel_rfl) (fun _ _ _ h => h) (Or.inl ⟨by rfl, ?hy5_10⟩) ?rest5_10
    case hy5_10 => (intro w; go_simp <;> with_reducible rfl)
    refine take_first (i := 6) (v := ?v6_10) (some 23) rfl (by rfl) (by kernel_rfl) (by kernel_rfl) (by kernel_rfl) (fun _ _ _ h => h) (Or.inl ⟨by rfl, ?hy6_10⟩) ?rest6_10
    case hy6_10 => (intro w; go_simp <;> with_reducible rfl)
    refine take_first (i := 7) (v := ?v7_10) (some 24) rfl (by rfl) (by kernel_rfl) (by kernel_rfl) (by kernel_rfl) (fun _ _ _ h => h) (Or.inl ⟨by rfl, ?hy7_10⟩) ?rest7_10
    case hy7_10 => (intro w; go_simp <;> with_reducible rfl)
    refine take_first (i := 8) (v := ?v8_10) (some 25) rfl (by rfl) (by kernel_rfl) (by kernel_rfl) (by kernel_rfl) (fun _ _ _ h => h) (Or.inl ⟨by rfl, ?hy8_10⟩) ?rest8_10
    case hy8_10 => (intro w; go_simp <;> with_reducible rfl)
    refine wpAny_inv3 (X := [(4, some 21, []), (9, some 26, []), (10, some 27, [4, 9]), (11, some 28, [10]), (12, some 29, [11]), (13, some 30, [11]), (14, some 31, [11, 12, 13]), (15, some 32, [11, 14]), (16, some 33, [11, 15]), (17, some 34, [11]), (18, some 35, [11]), (19, some 36, [11, 17, 18]), (20, some 37, [11, 19]), (21, some 38, [11, 20]), (22, some 39, [11, 16, 21]), (23, some 40, [11, 22]), (24, some 41, [23]), (25, some 42, [24]), (26, some 43, [24]), (27, some 44, [24, 25, 26]), (28, some 45, [24, 27]), (29, some 46, [24, 28]), (30, some 47, [24]), (31, some 48, [24]), (32, some 49, [24, 30, 31]), (33, some 50, [24, 32]), (34, some 51, [24, 33]), (35, some 52, [24, 29, 34]), (36, some 53, [24, 35]), (37, some 54, [24, 36]), (38, some 55, [37]), (39, some 56, [38]), (40, some 57, [38]), (41, some 58, [38, 39, 40]), (42, some 59, [38, 41]), (43, some 60, [38, 42]), (44, some 61, [38]), (45, some 62, [38]), (46, some 63, [38, 44, 45]), (47, some 64, [38, 46]), (48, some 65, [38, 47]), (49, some 66, [38, 43, 48]), (50, some 67, [38, 49])]) (n := 43) (g := 1) (m := 51) (l0 := [true, true, true, true, false, true, true, true, true, false, false, false, false, false, false, false, false, false, false, false, false, false, false, false, false, false, false, false, false, false, false, false, false, false, false, false, false, false, false, false, false, false, false, false, false, false, false, false, false, false, false, false]) (T := Nil) (Ps := [Any, Any, Any, Any, Cst (.int .i64 kind), Any, Any, Any, Any, Cst (.int .i64 kind'), Cst (.bool false), Cst (.bool false), Cst (.slice (some ⟨b, off, none⟩) M ca), Cst (.int .i64 k), Cst (.pointer (some ⟨b, off + k * 15, none⟩)), Cst (.pointer (some ⟨b, off + k * 15 + 1, none⟩)), Cst (.agg #[.int .i64 a0, .int .i64 a1, .int .i64 a2, .int .i64 a3]), Cst (.slice (some ⟨b', off', none⟩) M cb), Cst (.int .i64 k), Cst (.pointer (some ⟨b', off' + k * 15, none⟩)), Cst (.pointer (some ⟨b', off' + k * 15 + 1, none⟩)), Cst (.agg #[.int .i64 a0', .int .i64 a1', .int .i64 a2', .int .i64 a3']), Cst (.bool false), Cst (.bool false), Cst (.bool false), Cst (.slice (some ⟨b, off, none⟩) M ca), Cst (.int .i64 k), Cst (.pointer (some ⟨b, off + k * 15, none⟩)), Cst (.pointer (some ⟨b, off + k * 15 + 5, none⟩)), Cst (.agg #[.int .i64 src, .int .i64 dst, .int .i64 mk, .int .i64 seq, .int .i64 b0, .int .i64 b1, .int .i64 b2, .int .i64 b3, .slice Am X cm]), Cst (.slice (some ⟨b', off', none⟩) M cb), Cst (.int .i64 k), Cst (.pointer (some ⟨b', off' + k * 15, none⟩)), Cst (.pointer (some ⟨b', off' + k * 15 + 5, none⟩)), Cst (.agg #[.int .i64 src', .int .i64 dst', .int .i64 mk', .int .i64 seq', .int .i64 b0', .int .i64 b1', .int .i64 b2', .int .i64 b3', .slice Am' X' cm']), Cst (.bool true), Cst (.bool false), Cst (.bool false), Cst (.bool false), Cst (.slice (some ⟨b, off, none⟩) M ca), Cst (.int .i64 k), Cst (.pointer (some ⟨b, off + k * 15, none⟩)), Cst (.pointer (some ⟨b, off + k * 15 + 14, none⟩)), Cst (.slice Ad Y cd), Cst (.slice (some ⟨b', off', none⟩) M cb), Cst (.int .i64 k), Cst (.pointer (some ⟨b', off' + k * 15, none⟩)), Cst (.pointer (some ⟨b', off' + k * 15 + 14, none⟩)), Cst (.slice Ad' Y' cd'), Cst (.bool p4), Cst (.bool !p4)])
      (I := fun _ _ u => Only Nil wr u)
      (by kernel_rfl) rfl (by kernel_rfl) (chk_split [true, true, true, true, true, true, true, true, true, true, true, true, false, false, false, false, false, false, false, false, false, false, false, false, false, false, false, false, false, false, false, false, false, false, false, false, false, false, false, false, false, false, false, false, false, false, false, false, false, false, false, false] 4 39 rfl (by as_aux_lemma => kernel_rfl) (chk_split [true, true, true, true, true, true, true, true, true, true, true, true, true, true, true, true, true, true, true, true, true, true, true, true, true, false, false, false, false, false, false, false, false, false, false, false, false, false, false, false, false, false, false, false, false, false, false, false, false, false, false, false] 13 26 rfl (by as_aux_lemma => kernel_rfl) (chk_split [true, true, true, true, true, true, true, true, true, true, true, true, true, true, true, true, true, true, true, true, true, true, true, true, true, true, true, true, true, true, true, true, true, true, true, true, true, true, true, false, false, false, false, false, false, false, false, false, false, false, false, false] 14 12 rfl (by as_aux_lemma => kernel_rfl) (by as_aux_lemma => kernel_rfl)))) (by kernel_rfl) rfl ?h0_10 ?st_10 ?i0_10 ?step_10 ?fin_10
    case h0_10 =>
      intro j hj v u
      match j, hj with
      | 0, hj => trivial
      | 1, hj => trivial
      | 2, hj => trivial
      | 3, hj => trivial
      | 4, hj => exact absurd hj (by decide)
      | 5, hj => trivial
      | 6, hj => trivial
      | 7, hj => trivial
      | 8, hj => trivial
      | 9, hj => exact absurd hj (by decide)
      | 10, hj => exact absurd hj (by decide)
      | 11, hj => exact absurd hj (by decide)
      | 12, hj => exact absurd hj (by decide)
      | 13, hj => exact absurd hj (by decide)
      | 14, hj => exact absurd hj (by decide)
      | 15, hj => exact absurd hj (by decide)
      | 16, hj => exact absurd hj (by decide)
      | 17, hj => exact absurd hj (by decide)
      | 18, hj => exact absurd hj (by decide)
      | 19, hj => exact absurd hj (by decide)
      | 20, hj => exact absurd hj (by decide)
      | 21, hj => exact absurd hj (by decide)
      | 22, hj => exact absurd hj (by decide)
      | 23, hj => exact absurd hj (by decide)
      | 24, hj => exact absurd hj (by decide)
      | 25, hj => exact absurd hj (by decide)
      | 26, hj => exact absurd hj (by decide)
      | 27, hj => exact absurd hj (by decide)
      | 28, hj => exact absurd hj (by decide)
      | 29, hj => exact absurd hj (by decide)
      | 30, hj => exact absurd hj (by decide)
      | 31, hj => exact absurd hj (by decide)
      | 32, hj => exact absurd hj (by decide)
      | 33, hj => exact absurd hj (by decide)
      | 34, hj => exact absurd hj (by decide)
      | 35, hj => exact absurd hj (by decide)
      | 36, hj => exact absurd hj (by decide)
      | 37, hj => exact absurd hj (by decide)
      | 38, hj => exact absurd hj (by decide)
      | 39, hj => exact absurd hj (by decide)
      | 40, hj => exact absurd hj (by decide)
      | 41, hj => exact absurd hj (by decide)
      | 42, hj => exact absurd hj (by decide)
      | 43, hj => exact absurd hj (by decide)
      | 44, hj => exact absurd hj (by decide)
      | 45, hj => exact absurd hj (by decide)
      | 46, hj => exact absurd hj (by decide)
      | 47, hj => exact absurd hj (by decide)
      | 48, hj => exact absurd hj (by decide)
      | 49, hj => exact absurd hj (by decide)
      | 50, hj => exact absurd hj (by decide)
      | 51, hj => exact absurd hj (by decide)
      | n + 52, hj => exact absurd hj (by simp)
    case st_10 =>
      have hT : ∀ x, (Nil) x → x < 0 := fun x h => h.elim
      intro p hp
      simp only [List.mem_cons, List.not_mem_nil, or_false] at hp
      rcases hp with rfl | rfl | rfl | rfl | rfl | rfl | rfl | rfl | rfl | rfl | rfl | rfl | rfl | rfl | rfl | rfl | rfl | rfl | rfl | rfl | rfl | rfl | rfl | rfl | rfl | rfl | rfl | rfl | rfl | rfl | rfl | rfl | rfl | rfl | rfl | rfl | rfl | rfl | rfl | rfl | rfl | rfl | rfl | rfl | rfl | rfl | rfl | rfl | rfl | rfl | rfl <;> first | exact Stays.cst _ | exact Stays.own hT | exact Stays.emp hT | exact Stays.any
    case i0_10 =>
      intro vs
      exact (Only.refl _ _).drew
    case step_10 =>
      refine List.forall_mem_cons.2 ⟨fun L vs u hI hA h0 hd => ?_, ?_⟩
      · as_aux_lemma =>
        refine inv_step3 _ (by rfl) (by rfl) (fun K' hK => ?_)
        simp only [putAll, Act.put, List.setIfInBounds_toArray, List.set_cons_succ, List.set_cons_zero] at hK ⊢
        have hs := HS.out u hI
        obtain ⟨q0, q1, q2, q3, q4, q5, q6, q7, q8, q9, q10, q11, q12, q13, q14, q15, q16, q17, q18, q19, q20, q21, q22, q23, q24, q25, q26, q27, q28, q29⟩ := hs
        go_simp
        exact hK _ _ ⟨Only.refl _ _, hI, rfl⟩
      refine List.forall_mem_cons.2 ⟨fun L vs u hI hA h0 hd => ?_, ?_⟩
      · as_aux_lemma =>
        refine inv_step3 _ (by rfl) (by rfl) (fun K' hK => ?_)
        simp only [putAll, Act.put, List.setIfInBounds_toArray, List.set_cons_succ, List.set_cons_zero] at hK ⊢
        have hs := HS.out u hI
        obtain ⟨q0, q1, q2, q3, q4, q5, q6, q7, q8, q9, q10, q11, q12, q13, q14, q15, q16, q17, q18, q19, q20, q21, q22, q23, q24, q25, q26, q27, q28, q29⟩ := hs
        go_simp
        exact hK _ _ ⟨Only.refl _ _, hI, rfl⟩
      refine List.forall_mem_cons.2 ⟨fun L vs u hI hA h0 hd => ?_, ?_⟩
      · as_aux_lemma =>
        refine inv_step3 _ (by rfl) (by rfl) (fun K' hK => ?_)
        simp only [putAll, Act.put, List.setIfInBounds_toArray, List.set_cons_succ, List.set_cons_zero] at hK ⊢
        have e4 := hA 4 (hd 4 (by simp))
        change vs 4 = (.int .i64 kind) at e4
        have e9 := hA 9 (hd 9 (by simp))
        change vs 9 = (.int .i64 kind') at e9
        simp only [e4, e9] at hK
        go_simp
        exact hK _ _ ⟨Only.refl _ _, hI, rfl⟩
      refine List.forall_mem_cons.2 ⟨fun L vs u hI hA h0 hd => ?_, ?_⟩
      · as_aux_lemma =>
        refine inv_step3 _ (by rfl) (by rfl) (fun K' hK => ?_)
        simp only [putAll, Act.put, List.setIfInBounds_toArray, List.set_cons_succ, List.set_cons_zero] at hK ⊢
        have e10 := hA 10 (hd 10 (by simp))
        change vs 10 = (.bool false) at e10
        simp only [e10] at hK
        go_simp
        exact hK _ _ ⟨Only.refl _ _, hI, rfl⟩
      refine List.forall_mem_cons.2 ⟨fun L vs u hI hA h0 hd => ?_, ?_⟩
      · as_aux_lemma =>
        refine inv_step3 _ (by rfl) (by rfl) (fun K' hK => ?_)
        simp only [putAll, Act.put, List.setIfInBounds_toArray, List.set_cons_succ, List.set_cons_zero] at hK ⊢
        have e11 := hA 11 (hd 11 (by simp))
        change vs 11 = (.bool false) at e11
        simp only [e11] at hK
        go_simp
        exact hK _ _ ⟨Only.refl _ _, hI, rfl⟩
      refine List.forall_mem_cons.2 ⟨fun L vs u hI hA h0 hd => ?_, ?_⟩
      · as_aux_lemma =>
        refine inv_step3 _ (by rfl) (by rfl) (fun K' hK => ?_)
        simp only [putAll, Act.put, List.setIfInBounds_toArray, List.set_cons_succ, List.set_cons_zero] at hK ⊢
        have e11 := hA 11 (hd 11 (by simp))
        change vs 11 = (.bool false) at e11
        simp only [e11] at hK
        go_simp
        exact hK _ _ ⟨Only.refl _ _, hI, rfl⟩
      refine List.forall_mem_cons.2 ⟨fun L vs u hI hA h0 hd => ?_, ?_⟩
      · as_aux_lemma =>
        refine inv_step3 _ (by rfl) (by rfl) (fun K' hK => ?_)
        simp only [putAll, Act.put, List.setIfInBounds_toArray, List.set_cons_succ, List.set_cons_zero] at hK ⊢
        have e11 := hA 11 (hd 11 (by simp))
        change vs 11 = (.bool false) at e11
        have e12 := hA 12 (hd 12 (by simp))
        change vs 12 = (.slice (some ⟨b, off, none⟩) M ca) at e12
        have e13 := hA 13 (hd 13 (by simp))
        change vs 13 = (.int .i64 k) at e13
        simp only [e11, e12, e13] at hK
        go_simp
        exact hK _ _ ⟨Only.refl _ _, hI, rfl⟩
      refine List.forall_mem_cons.2 ⟨fun L vs u hI hA h0 hd => ?_, ?_⟩
      · as_aux_lemma =>
        refine inv_step3 _ (by rfl) (by rfl) (fun K' hK => ?_)
        simp only [putAll, Act.put, List.setIfInBounds_toArray, List.set_cons_succ, List.set_cons_zero] at hK ⊢
        have e11 := hA 11 (hd 11 (by simp))
        change vs 11 = (.bool false) at e11
        have e14 := hA 14 (hd 14 (by simp))
        change vs 14 = (.pointer (some ⟨b, off + k * 15, none⟩)) at e14
        simp only [e11, e14] at hK
        go_simp
        exact hK _ _ ⟨Only.refl _ _, hI, rfl⟩
      refine List.forall_mem_cons.2 ⟨fun L vs u hI hA h0 hd => ?_, ?_⟩
      · as_aux_lemma =>
        refine inv_step3 _ (by rfl) (by rfl) (fun K' hK => ?_)
        simp only [putAll, Act.put, List.setIfInBounds_toArray, List.set_cons_succ, List.set_cons_zero] at hK ⊢
        have e11 := hA 11 (hd 11 (by simp))
        change vs 11 = (.bool false) at e11
        have e15 := hA 15 (hd 15 (by simp))
        change vs 15 = (.pointer (some ⟨b, off + k * 15 + 1, none⟩)) at e15
        simp only [e11, e15] at hK
        have hs := HS.out u hI
        obtain ⟨q0, q1, q2, q3, q4, q5, q6, q7, q8, q9, q10, q11, q12, q13, q14, q15, q16, q17, q18, q19, q20, q21, q22, q23, q24, q25, q26, q27, q28, q29⟩ := hs
        go_simp
        exact hK _ _ ⟨Only.refl _ _, hI, rfl⟩
      refine List.forall_mem_cons.2 ⟨fun L vs u hI hA h0 hd => ?_, ?_⟩
      · as_aux_lemma =>
        refine inv_step3 _ (by rfl) (by rfl) (fun K' hK => ?_)
        simp only [putAll, Act.put, List.setIfInBounds_toArray, List.set_cons_succ, List.set_cons_zero] at hK ⊢
        have e11 := hA 11 (hd 11 (by simp))
        change vs 11 = (.bool false) at e11
        simp only [e11] at hK
        go_simp
        exact hK _ _ ⟨Only.refl _ _, hI, rfl⟩
      refine List.forall_mem_cons.2 ⟨fun L vs u hI hA h0 hd => ?_, ?_⟩
      · as_aux_lemma =>
        refine inv_step3 _ (by rfl) (by rfl) (fun K' hK => ?_)
        simp only [putAll, Act.put, List.setIfInBounds_toArray, List.set_cons_succ, List.set_cons_zero] at hK ⊢
        have e11 := hA 11 (hd 11 (by simp))
        change vs 11 = (.bool false) at e11
        simp only [e11] at hK
        go_simp
        exact hK _ _ ⟨Only.refl _ _, hI, rfl⟩
      refine List.forall_mem_cons.2 ⟨fun L vs u hI hA h0 hd => ?_, ?_⟩
      · as_aux_lemma =>
        refine inv_step3 _ (by rfl) (by rfl) (fun K' hK => ?_)
        simp only [putAll, Act.put, List.setIfInBounds_toArray, List.set_cons_succ, List.set_cons_zero] at hK ⊢
        have e11 := hA 11 (hd 11 (by simp))
        change vs 11 = (.bool false) at e11
        have e17 := hA 17 (hd 17 (by simp))
        change vs 17 = (.slice (some ⟨b', off', none⟩) M cb) at e17
        have e18 := hA 18 (hd 18 (by simp))
        change vs 18 = (.int .i64 k) at e18
        simp only [e11, e17, e18] at hK
        go_simp
        exact hK _ _ ⟨Only.refl _ _, hI, rfl⟩
      refine List.forall_mem_cons.2 ⟨fun L vs u hI hA h0 hd => ?_, ?_⟩
      · as_aux_lemma =>
        refine inv_step3 _ (by rfl) (by rfl) (fun K' hK => ?_)
        simp only [putAll, Act.put, List.setIfInBounds_toArray, List.set_cons_succ, List.set_cons_zero] at hK ⊢
        have e11 := hA 11 (hd 11 (by simp))
        change vs 11 = (.bool false) at e11
        have e19 := hA 19 (hd 19 (by simp))
        change vs 19 = (.pointer (some ⟨b', off' + k * 15, none⟩)) at e19
        simp only [e11, e19] at hK
        go_simp
        exact hK _ _ ⟨Only.refl _ _, hI, rfl⟩
      refine List.forall_mem_cons.2 ⟨fun L vs u hI hA h0 hd => ?_, ?_⟩
      · as_aux_lemma =>
        refine inv_step3 _ (by rfl) (by rfl) (fun K' hK => ?_)
        simp only [putAll, Act.put, List.setIfInBounds_toArray, List.set_cons_succ, List.set_cons_zero] at hK ⊢
        have e11 := hA 11 (hd 11 (by simp))
        change vs 11 = (.bool false) at e11
        have e20 := hA 20 (hd 20 (by simp))
        change vs 20 = (.pointer (some ⟨b', off' + k * 15 + 1, none⟩)) at e20
        simp only [e11, e20] at hK
        have hs := HS.out u hI
        obtain ⟨q0, q1, q2, q3, q4, q5, q6, q7, q8, q9, q10, q11, q12, q13, q14, q15, q16, q17, q18, q19, q20, q21, q22, q23, q24, q25, q26, q27, q28, q29⟩ := hs
        go_simp
        exact hK _ _ ⟨Only.refl _ _, hI, rfl⟩
      refine List.forall_mem_cons.2 ⟨fun L vs u hI hA h0 hd => ?_, ?_⟩
      · as_aux_lemma =>
        refine inv_step3 _ (by rfl) (by rfl) (fun K' hK => ?_)
        simp only [putAll, Act.put, List.setIfInBounds_toArray, List.set_cons_succ, List.set_cons_zero] at hK ⊢
        have e11 := hA 11 (hd 11 (by simp))
        change vs 11 = (.bool false) at e11
        have e16 := hA 16 (hd 16 (by simp))
        change vs 16 = (.agg #[.int .i64 a0, .int .i64 a1, .int .i64 a2, .int .i64 a3]) at e16
        have e21 := hA 21 (hd 21 (by simp))
        change vs 21 = (.agg #[.int .i64 a0', .int .i64 a1', .int .i64 a2', .int .i64 a3']) at e21
        simp only [e11, e16, e21] at hK
        have hq := hq4 u
        go_simp
        exact hK _ _ ⟨Only.refl _ _, hI, rfl⟩
      refine List.forall_mem_cons.2 ⟨fun L vs u hI hA h0 hd => ?_, ?_⟩
      · as_aux_lemma =>
        refine inv_step3 _ (by rfl) (by rfl) (fun K' hK => ?_)
        simp only [putAll, Act.put, List.setIfInBounds_toArray, List.set_cons_succ, List.set_cons_zero] at hK ⊢
        have e11 := hA 11 (hd 11 (by simp))
        change vs 11 = (.bool false) at e11
        have e22 := hA 22 (hd 22 (by simp))
        change vs 22 = (.bool false) at e22
        simp only [e11, e22] at hK
        go_simp
        exact hK _ _ ⟨Only.refl _ _, hI, rfl⟩
      refine List.forall_mem_cons.2 ⟨fun L vs u hI hA h0 hd => ?_, ?_⟩
      · as_aux_lemma =>
        refine inv_step3 _ (by rfl) (by rfl) (fun K' hK => ?_)
        simp only [putAll, Act.put, List.setIfInBounds_toArray, List.set_cons_succ, List.set_cons_zero] at hK ⊢
        have e23 := hA 23 (hd 23 (by simp))
        change vs 23 = (.bool false) at e23
        simp only [e23] at hK
        go_simp
        exact hK _ _ ⟨Only.refl _ _, hI, rfl⟩
      refine List.forall_mem_cons.2 ⟨fun L vs u hI hA h0 hd => ?_, ?_⟩
      · as_aux_lemma =>
        refine inv_step3 _ (by rfl) (by rfl) (fun K' hK => ?_)
        simp only [putAll, Act.put, List.setIfInBounds_toArray, List.set_cons_succ, List.set_cons_zero] at hK ⊢
        have e24 := hA 24 (hd 24 (by simp))
        change vs 24 = (.bool false) at e24
        simp only [e24] at hK
        go_simp
        exact hK _ _ ⟨Only.refl _ _, hI, rfl⟩
      refine List.forall_mem_cons.2 ⟨fun L vs u hI hA h0 hd => ?_, ?_⟩
      · as_aux_lemma =>
        refine inv_step3 _ (by rfl) (by rfl) (fun K' hK => ?_)
        simp only [putAll, Act.put, List.setIfInBounds_toArray, List.set_cons_succ, List.set_cons_zero] at hK ⊢
        have e24 := hA 24 (hd 24 (by simp))
        change vs 24 = (.bool false) at e24
        simp only [e24] at hK
        go_simp
        exact hK _ _ ⟨Only.refl _ _, hI, rfl⟩
      refine List.forall_mem_cons.2 ⟨fun L vs u hI hA h0 hd => ?_, ?_⟩
      · as_aux_lemma =>
        refine inv_step3 _ (by rfl) (by rfl) (fun K' hK => ?_)
        simp only [putAll, Act.put, List.setIfInBounds_toArray, List.set_cons_succ, List.set_cons_zero] at hK ⊢
        have e24 := hA 24 (hd 24 (by simp))
        change vs 24 = (.bool false) at e24
        have e25 := hA 25 (hd 25 (by simp))
        change vs 25 = (.slice (some ⟨b, off, none⟩) M ca) at e25
        have e26 := hA 26 (hd 26 (by simp))
        change vs 26 = (.int .i64 k) at e26
        simp only [e24, e25, e26] at hK
        go_simp
        exact hK _ _ ⟨Only.refl _ _, hI, rfl⟩
      refine List.forall_mem_cons.2 ⟨fun L vs u hI hA h0 hd => ?_, ?_⟩
      · as_aux_lemma =>
        refine inv_step3 _ (by rfl) (by rfl) (fun K' hK => ?_)
        simp only [putAll, Act.put, List.setIfInBounds_toArray, List.set_cons_succ, List.set_cons_zero] at hK ⊢
        have e24 := hA 24 (hd 24 (by simp))
        change vs 24 = (.bool false) at e24
        have e27 := hA 27 (hd 27 (by simp))
        change vs 27 = (.pointer (some ⟨b, off + k * 15, none⟩)) at e27
        simp only [e24, e27] at hK
        go_simp
        exact hK _ _ ⟨Only.refl _ _, hI, rfl⟩
      refine List.forall_mem_cons.2 ⟨fun L vs u hI hA h0 hd => ?_, ?_⟩
      · as_aux_lemma =>
        refine inv_step3 _ (by rfl) (by rfl) (fun K' hK => ?_)
        simp only [putAll, Act.put, List.setIfInBounds_toArray, List.set_cons_succ, List.set_cons_zero] at hK ⊢
        have e24 := hA 24 (hd 24 (by simp))
        change vs 24 = (.bool false) at e24
        have e28 := hA 28 (hd 28 (by simp))
        change vs 28 = (.pointer (some ⟨b, off + k * 15 + 5, none⟩)) at e28
        simp only [e24, e28] at hK
        have hs := HS.out u hI
        obtain ⟨q0, q1, q2, q3, q4, q5, q6, q7, q8, q9, q10, q11, q12, q13, q14, q15, q16, q17, q18, q19, q20, q21, q22, q23, q24, q25, q26, q27, q28, q29⟩ := hs
        go_simp
        exact hK _ _ ⟨Only.refl _ _, hI, rfl⟩
      refine List.forall_mem_cons.2 ⟨fun L vs u hI hA h0 hd => ?_, ?_⟩
      · as_aux_lemma =>
        refine inv_step3 _ (by rfl) (by rfl) (fun K' hK => ?_)
        simp only [putAll, Act.put, List.setIfInBounds_toArray, List.set_cons_succ, List.set_cons_zero] at hK ⊢
        have e24 := hA 24 (hd 24 (by simp))
        change vs 24 = (.bool false) at e24
        simp only [e24] at hK
        go_simp
        exact hK _ _ ⟨Only.refl _ _, hI, rfl⟩
      refine List.forall_mem_cons.2 ⟨fun L vs u hI hA h0 hd => ?_, ?_⟩
      · as_aux_lemma =>
        refine inv_step3 _ (by rfl) (by rfl) (fun K' hK => ?_)
        simp only [putAll, Act.put, List.setIfInBounds_toArray, List.set_cons_succ, List.set_cons_zero] at hK ⊢
        have e24 := hA 24 (hd 24 (by simp))
        change vs 24 = (.bool false) at e24
        simp only [e24] at hK
        go_simp
        exact hK _ _ ⟨Only.refl _ _, hI, rfl⟩
      refine List.forall_mem_cons.2 ⟨fun L vs u hI hA h0 hd => ?_, ?_⟩
      · as_aux_lemma =>
        refine inv_step3 _ (by rfl) (by rfl) (fun K' hK => ?_)
        simp only [putAll, Act.put, List.setIfInBounds_toArray, List.set_cons_succ, List.set_cons_zero] at hK ⊢
        have e24 := hA 24 (hd 24 (by simp))
        change vs 24 = (.bool false) at e24
        have e30 := hA 30 (hd 30 (by simp))
        change vs 30 = (.slice (some ⟨b', off', none⟩) M cb) at e30
        have e31 := hA 31 (hd 31 (by simp))
        change vs 31 = (.int .i64 k) at e31
        simp only [e24, e30, e31] at hK
        go_simp
        exact hK _ _ ⟨Only.refl _ _, hI, rfl⟩
      refine List.forall_mem_cons.2 ⟨fun L vs u hI hA h0 hd => ?_, ?_⟩
      · as_aux_lemma =>
        refine inv_step3 _ (by rfl) (by rfl) (fun K' hK => ?_)
        simp only [putAll, Act.put, List.setIfInBounds_toArray, List.set_cons_succ, List.set_cons_zero] at hK ⊢
        have e24 := hA 24 (hd 24 (by simp))
        change vs 24 = (.bool false) at e24
        have e32 := hA 32 (hd 32 (by simp))
        change vs 32 = (.pointer (some ⟨b', off' + k * 15, none⟩)) at e32
        simp only [e24, e32] at hK
        go_simp
        exact hK _ _ ⟨Only.refl _ _, hI, rfl⟩
      refine List.forall_mem_cons.2 ⟨fun L vs u hI hA h0 hd => ?_, ?_⟩
      · as_aux_lemma =>
        refine inv_step3 _ (by rfl) (by rfl) (fun K' hK => ?_)
        simp only [putAll, Act.put, List.setIfInBounds_toArray, List.set_cons_succ, List.set_cons_zero] at hK ⊢
        have e24 := hA 24 (hd 24 (by simp))
        change vs 24 = (.bool false) at e24
        have e33 := hA 33 (hd 33 (by simp))
        change vs 33 = (.pointer (some ⟨b', off' + k * 15 + 5, none⟩)) at e33
        simp only [e24, e33] at hK
        have hs := HS.out u hI
        obtain ⟨q0, q1, q2, q3, q4, q5, q6, q7, q8, q9, q10, q11, q12, q13, q14, q15, q16, q17, q18, q19, q20, q21, q22, q23, q24, q25, q26, q27, q28, q29⟩ := hs
        go_simp
        exact hK _ _ ⟨Only.refl _ _, hI, rfl⟩
      refine List.forall_mem_cons.2 ⟨fun L vs u hI hA h0 hd => ?_, ?_⟩
      · as_aux_lemma =>
        refine inv_step3 _ (by rfl) (by rfl) (fun K' hK => ?_)
        simp only [putAll, Act.put, List.setIfInBounds_toArray, List.set_cons_succ, List.set_cons_zero] at hK ⊢
        have e24 := hA 24 (hd 24 (by simp))
        change vs 24 = (.bool false) at e24
        have e29 := hA 29 (hd 29 (by simp))
        change vs 29 = (.agg #[.int .i64 src, .int .i64 dst, .int .i64 mk, .int .i64 seq, .int .i64 b0, .int .i64 b1, .int .i64 b2, .int .i64 b3, .slice Am X cm]) at e29
        have e34 := hA 34 (hd 34 (by simp))
        change vs 34 = (.agg #[.int .i64 src', .int .i64 dst', .int .i64 mk', .int .i64 seq', .int .i64 b0', .int .i64 b1', .int .i64 b2', .int .i64 b3', .slice Am' X' cm']) at e34
        simp only [e24, e29, e34] at hK
        simp only [e29, e34] at hK ⊢
        go_simp
        go_at_call 17
        refine (HSM.out u hI).mono ?_
        rintro z u2 ⟨rfl, hO2⟩
        go_simp
        exact hK _ _ ⟨hO2, HIN.out L vs _ _ hO2 hI, rfl⟩
      refine List.forall_mem_cons.2 ⟨fun L vs u hI hA h0 hd => ?_, ?_⟩
      · as_aux_lemma =>
        refine inv_step3 _ (by rfl) (by rfl) (fun K' hK => ?_)
        simp only [putAll, Act.put, List.setIfInBounds_toArray, List.set_cons_succ, List.set_cons_zero] at hK ⊢
        have e24 := hA 24 (hd 24 (by simp))
        change vs 24 = (.bool false) at e24
        have e35 := hA 35 (hd 35 (by simp))
        change vs 35 = (.bool true) at e35
        simp only [e24, e35] at hK
        go_simp
        exact hK _ _ ⟨Only.refl _ _, hI, rfl⟩
      refine List.forall_mem_cons.2 ⟨fun L vs u hI hA h0 hd => ?_, ?_⟩
      · as_aux_lemma =>
        refine inv_step3 _ (by rfl) (by rfl) (fun K' hK => ?_)
        simp only [putAll, Act.put, List.setIfInBounds_toArray, List.set_cons_succ, List.set_cons_zero] at hK ⊢
        have e24 := hA 24 (hd 24 (by simp))
        change vs 24 = (.bool false) at e24
        have e36 := hA 36 (hd 36 (by simp))
        change vs 36 = (.bool false) at e36
        simp only [e24, e36] at hK
        go_simp
        exact hK _ _ ⟨Only.refl _ _, hI, rfl⟩
      refine List.forall_mem_cons.2 ⟨fun L vs u hI hA h0 hd => ?_, ?_⟩
      · as_aux_lemma =>
        refine inv_step3 _ (by rfl) (by rfl) (fun K' hK => ?_)
        simp only [putAll, Act.put, List.setIfInBounds_toArray, List.set_cons_succ, List.set_cons_zero] at hK ⊢
        have e37 := hA 37 (hd 37 (by simp))
        change vs 37 = (.bool false) at e37
        simp only [e37] at hK
        go_simp
        exact hK _ _ ⟨Only.refl _ _, hI, rfl⟩
      refine List.forall_mem_cons.2 ⟨fun L vs u hI hA h0 hd => ?_, ?_⟩
      · as_aux_lemma =>
        refine inv_step3 _ (by rfl) (by rfl) (fun K' hK => ?_)
        simp only [putAll, Act.put, List.setIfInBounds_toArray, List.set_cons_succ, List.set_cons_zero] at hK ⊢
        have e38 := hA 38 (hd 38 (by simp))
        change vs 38 = (.bool false) at e38
        simp only [e38] at hK
        go_simp
        exact hK _ _ ⟨Only.refl _ _, hI, rfl⟩
      refine List.forall_mem_cons.2 ⟨fun L vs u hI hA h0 hd => ?_, ?_⟩
      · as_aux_lemma =>
        refine inv_step3 _ (by rfl) (by rfl) (fun K' hK => ?_)
        simp only [putAll, Act.put, List.setIfInBounds_toArray, List.set_cons_succ, List.set_cons_zero] at hK ⊢
        have e38 := hA 38 (hd 38 (by simp))
        change vs 38 = (.bool false) at e38
        simp only [e38] at hK
        go_simp
        exact hK _ _ ⟨Only.refl _ _, hI, rfl⟩
      refine List.forall_mem_cons.2 ⟨fun L vs u hI hA h0 hd => ?_, ?_⟩
      · as_aux_lemma =>
        refine inv_step3 _ (by rfl) (by rfl) (fun K' hK => ?_)
        simp only [putAll, Act.put, List.setIfInBounds_toArray, List.set_cons_succ, List.set_cons_zero] at hK ⊢
        have e38 := hA 38 (hd 38 (by simp))
        change vs 38 = (.bool false) at e38
        have e39 := hA 39 (hd 39 (by simp))
        change vs 39 = (.slice (some ⟨b, off, none⟩) M ca) at e39
        have e40 := hA 40 (hd 40 (by simp))
        change vs 40 = (.int .i64 k) at e40
        simp only [e38, e39, e40] at hK
        go_simp
        exact hK _ _ ⟨Only.refl _ _, hI, rfl⟩
      refine List.forall_mem_cons.2 ⟨fun L vs u hI hA h0 hd => ?_, ?_⟩
      · as_aux_lemma =>
        refine inv_step3 _ (by rfl) (by rfl) (fun K' hK => ?_)
        simp only [putAll, Act.put, List.setIfInBounds_toArray, List.set_cons_succ, List.set_cons_zero] at hK ⊢
        have e38 := hA 38 (hd 38 (by simp))
        change vs 38 = (.bool false) at e38
        have e41 := hA 41 (hd 41 (by simp))
        change vs 41 = (.pointer (some ⟨b, off + k * 15, none⟩)) at e41
        simp only [e38, e41] at hK
        go_simp
        exact hK _ _ ⟨Only.refl _ _, hI, rfl⟩
      refine List.forall_mem_cons.2 ⟨fun L vs u hI hA h0 hd => ?_, ?_⟩
      · as_aux_lemma =>
        refine inv_step3 _ (by rfl) (by rfl) (fun K' hK => ?_)
        simp only [putAll, Act.put, List.setIfInBounds_toArray, List.set_cons_succ, List.set_cons_zero] at hK ⊢
        have e38 := hA 38 (hd 38 (by simp))
        change vs 38 = (.bool false) at e38
        have e42 := hA 42 (hd 42 (by simp))
        change vs 42 = (.pointer (some ⟨b, off + k * 15 + 14, none⟩)) at e42
        simp only [e38, e42] at hK
        have hs := HS.out u hI
        obtain ⟨q0, q1, q2, q3, q4, q5, q6, q7, q8, q9, q10, q11, q12, q13, q14, q15, q16, q17, q18, q19, q20, q21, q22, q23, q24, q25, q26, q27, q28, q29⟩ := hs
        go_simp
        exact hK _ _ ⟨Only.refl _ _, hI, rfl⟩
      refine List.forall_mem_cons.2 ⟨fun L vs u hI hA h0 hd => ?_, ?_⟩
      · as_aux_lemma =>
        refine inv_step3 _ (by rfl) (by rfl) (fun K' hK => ?_)
        simp only [putAll, Act.put, List.setIfInBounds_toArray, List.set_cons_succ, List.set_cons_zero] at hK ⊢
        have e38 := hA 38 (hd 38 (by simp))
        change vs 38 = (.bool false) at e38
        simp only [e38] at hK
        go_simp
        exact hK _ _ ⟨Only.refl _ _, hI, rfl⟩
      refine List.forall_mem_cons.2 ⟨fun L vs u hI hA h0 hd => ?_, ?_⟩
      · as_aux_lemma =>
        refine inv_step3 _ (by rfl) (by rfl) (fun K' hK => ?_)
        simp only [putAll, Act.put, List.setIfInBounds_toArray, List.set_cons_succ, List.set_cons_zero] at hK ⊢
        have e38 := hA 38 (hd 38 (by simp))
        change vs 38 = (.bool false) at e38
        simp only [e38] at hK
        go_simp
        exact hK _ _ ⟨Only.refl _ _, hI, rfl⟩
      refine List.forall_mem_cons.2 ⟨fun L vs u hI hA h0 hd => ?_, ?_⟩
      · as_aux_lemma =>
        refine inv_step3 _ (by rfl) (by rfl) (fun K' hK => ?_)
        simp only [putAll, Act.put, List.setIfInBounds_toArray, List.set_cons_succ, List.set_cons_zero] at hK ⊢
        have e38 := hA 38 (hd 38 (by simp))
        change vs 38 = (.bool false) at e38
        have e44 := hA 44 (hd 44 (by simp))
        change vs 44 = (.slice (some ⟨b', off', none⟩) M cb) at e44
        have e45 := hA 45 (hd 45 (by simp))
        change vs 45 = (.int .i64 k) at e45
        simp only [e38, e44, e45] at hK
        go_simp
        exact hK _ _ ⟨Only.refl _ _, hI, rfl⟩
      refine List.forall_mem_cons.2 ⟨fun L vs u hI hA h0 hd => ?_, ?_⟩
      · as_aux_lemma =>
        refine inv_step3 _ (by rfl) (by rfl) (fun K' hK => ?_)
        simp only [putAll, Act.put, List.setIfInBounds_toArray, List.set_cons_succ, List.set_cons_zero] at hK ⊢
        have e38 := hA 38 (hd 38 (by simp))
        change vs 38 = (.bool false) at e38
        have e46 := hA 46 (hd 46 (by simp))
        change vs 46 = (.pointer (some ⟨b', off' + k * 15, none⟩)) at e46
        simp only [e38, e46] at hK
        go_simp
        exact hK _ _ ⟨Only.refl _ _, hI, rfl⟩
      refine List.forall_mem_cons.2 ⟨fun L vs u hI hA h0 hd => ?_, ?_⟩
      · as_aux_lemma =>
        refine inv_step3 _ (by rfl) (by rfl) (fun K' hK => ?_)
        simp only [putAll, Act.put, List.setIfInBounds_toArray, List.set_cons_succ, List.set_cons_zero] at hK ⊢
        have e38 := hA 38 (hd 38 (by simp))
        change vs 38 = (.bool false) at e38
        have e47 := hA 47 (hd 47 (by simp))
        change vs 47 = (.pointer (some ⟨b', off' + k * 15 + 14, none⟩)) at e47
        simp only [e38, e47] at hK
        have hs := HS.out u hI
        obtain ⟨q0, q1, q2, q3, q4, q5, q6, q7, q8, q9, q10, q11, q12, q13, q14, q15, q16, q17, q18, q19, q20, q21, q22, q23, q24, q25, q26, q27, q28, q29⟩ := hs
        go_simp
        exact hK _ _ ⟨Only.refl _ _, hI, rfl⟩
      refine List.forall_mem_cons.2 ⟨fun L vs u hI hA h0 hd => ?_, ?_⟩
      · as_aux_lemma =>
        refine inv_step3 _ (by rfl) (by rfl) (fun K' hK => ?_)
        simp only [putAll, Act.put, List.setIfInBounds_toArray, List.set_cons_succ, List.set_cons_zero] at hK ⊢
        have e38 := hA 38 (hd 38 (by simp))
        change vs 38 = (.bool false) at e38
        have e43 := hA 43 (hd 43 (by simp))
        change vs 43 = (.slice Ad Y cd) at e43
        have e48 := hA 48 (hd 48 (by simp))
        change vs 48 = (.slice Ad' Y' cd') at e48
        simp only [e38, e43, e48] at hK
        simp only [e43, e48] at hK ⊢
        go_simp
        go_at_call 44
        refine (HSD.out u hI).mono ?_
        rintro z u2 ⟨rfl, rfl⟩
        go_simp
        exact hK _ _ ⟨Only.refl _ _, hI, rfl⟩
      refine List.forall_mem_cons.2 ⟨fun L vs u hI hA h0 hd => ?_, ?_⟩
      rotate_left
      · exact fun x hx => absurd hx (List.not_mem_nil)
      · as_aux_lemma =>
        refine inv_step3 _ (by rfl) (by rfl) (fun K' hK => ?_)
        simp only [putAll, Act.put, List.setIfInBounds_toArray, List.set_cons_succ, List.set_cons_zero] at hK ⊢
        have e38 := hA 38 (hd 38 (by simp))
        change vs 38 = (.bool false) at e38
        have e49 := hA 49 (hd 49 (by simp))
        change vs 49 = (.bool p4) at e49
        simp only [e38, e49] at hK
        go_simp
        exact hK _ _ ⟨Only.refl _ _, hI, rfl⟩
    case fin_10 =>
      intro L vs u hI hL hA
      simp only [putAll, Act.put, List.setIfInBounds_toArray, List.set_cons_succ, List.set_cons_zero, List.drop_succ_cons, List.drop_zero]
      have e38 := hA 38 (by omega)
      change vs 38 = .bool false at e38
      have e50 := hA 50 (by omega)
      change vs 50 = .bool !p4 at e50
      simp only [e38, e50]
      have HI := Lib.hid hI
      clear hA hL hI e38 e50
      cases p4
      · go_wp2_with fail
        go_ret
        exact ⟨by rw [← HST.out]; rfl, HO.out.thenNil HI.out⟩
      · go_wp2_with fail
        go_roundw
        case rel => exact ⟨k + 1, by omega, by go_num, HST.out, HO.out.thenNil HI.out⟩
        case measure => simp [intOf]; omega

end Go.Proofs.Ytbhgaaendekghaa
