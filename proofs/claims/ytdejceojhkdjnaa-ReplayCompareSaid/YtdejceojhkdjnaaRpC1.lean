/-
  Walks of bytes.Equal, replay.Compare, ratoonref54.Compare.
  Conditions: the entries can be read; each has at most 2 to the power 38 bytes.
-/
import Derived.Test.YtdejceojhkdjnaaWpI
import Derived.Test.YtdejceojhkdjnaaSmE
import Derived.BigQuiet
import Derived.StillTailTactics
namespace Go.Proofs.Ytdejceojhkdjnaa
open Go.RowKit

/-- How many entries at the beginning are equal. -/
def cmpI : List En → List En → Nat
  | x :: a, y :: b => if sameE x y = true then cmpI a b + 1 else 0
  | _, _ => 0
theorem cmpI_le : ∀ (a b : List En), cmpI a b ≤ a.length ∧ cmpI a b ≤ b.length := by
  intro a
  induction a with
  | nil => intro b; simp [cmpI]
  | cons x a ih =>
    intro b
    cases b with
    | nil => simp [cmpI]
    | cons y b =>
      have := ih b
      unfold cmpI
      split <;> simp only [List.length_cons] <;> omega
theorem cmpI_all : ∀ (a b : List En), sameL a b = (decide (cmpI a b = a.length) && decide (cmpI a b = b.length)) := by
  intro a
  induction a with
  | nil => intro b; cases b <;> simp [cmpI, sameL]
  | cons x a ih =>
    intro b
    cases b with
    | nil => simp [cmpI, sameL]
    | cons y b =>
      unfold sameL cmpI
      rw [ih b]
      cases h : sameE x y
      · simp
      · rw [if_pos rfl]
        simp
def CmpPost (a b : List En) (w : World) (x : Ending) (w' : World) : Prop := x = .returned (.tuple #[.int .i64 (cmpI a b), .bool (sameL a b)]) ∧ Only Nil w w'

theorem bytes_equal (A B : Option Addr) (ca cb : Nat) (a b : List UInt8) (w : World) (ha : Bs w w.heap.size A a) (hb : Bs w w.heap.size B b) :
    Calls Try.prog 29 #[.slice A a.length ca, .slice B b.length cb] w fun e w' => e = .returned (.bool (a == b)) ∧ w' = w := by
  have h1 := run_str (P := Try.prog) w 38 9 5 Try.underlying38 Try.underlying5 Try.underlying9 (c := ca) ha rfl
  have h2 := run_str (P := Try.prog) w 38 9 5 Try.underlying38 Try.underlying5 Try.underlying9 (c := cb) hb rfl
  go_enter Try.func29, Try.ntmps29
  go_wp2_with fail
  go_ret
  exact ⟨rfl, rfl⟩

set_option maxRecDepth 100000 in
set_option maxHeartbeats 4000000 in
theorem cmp_any (A B : Option Addr) (ca cb : Nat) (rs qs : List ER) (w : World) (ha : Es w w.heap.size A rs) (hb : Es w w.heap.size B qs) (hl : rs.length ≤ 1099511627776) (hm : qs.length ≤ 1099511627776) (hd1 : ∀ r ∈ rs, r.x.data.length ≤ 274877906944) (hd2 : ∀ r ∈ qs, r.x.data.length ≤ 274877906944) :
    Calls Try.prog 18 #[.slice A rs.length ca, .slice B qs.length cb] w (CmpPost (rs.map ER.x) (qs.map ER.x) w) := by
  obtain ⟨N, hN⟩ : ∃ N, rs.length = N := ⟨_, rfl⟩
  obtain ⟨M, hM⟩ : ∃ M, qs.length = M := ⟨_, rfl⟩
  obtain ⟨I, hI0⟩ : ∃ I, cmpI (rs.map ER.x) (qs.map ER.x) = I := ⟨_, rfl⟩
  obtain ⟨R, hR⟩ : ∃ R, sameL (rs.map ER.x) (qs.map ER.x) = R := ⟨_, rfl⟩
  have hRI : R = (decide (I = N) && decide (I = M)) := by
    have := cmpI_all (rs.map ER.x) (qs.map ER.x)
    rwa [hI0, hR, List.length_map, List.length_map, hN, hM] at this
  have hIle : I ≤ N ∧ I ≤ M := by
    have := cmpI_le (rs.map ER.x) (qs.map ER.x)
    rwa [hI0, List.length_map, List.length_map, hN, hM] at this
  unfold CmpPost
  rw [hN, hM, hI0, hR]
  rw [hN] at hl
  rw [hM] at hm
  have HN := Lib.hid hN
  have HM := Lib.hid hM
  have HI0 := Lib.hid hI0
  have HRI := Lib.hid hRI
  have HIL := Lib.hid hIle
  have HA := Lib.hid ha
  have HB := Lib.hid hb
  have HD1 := Lib.hid hd1
  have HD2 := Lib.hid hd2
  clear hN hM hI0 hR hRI hIle ha hb hd1 hd2

  obtain ⟨m, hm0⟩ : ∃ m, min N M = m := ⟨_, rfl⟩
  have hmi : (if (M : Int) < N then (M : Int) else N) = m := by split <;> omega
  have hmi2 : min (N : Int) (M : Int) = m := by omega
  have HMN := Lib.hid hm0
  clear hm0
  go_enter Try.func18, Try.ntmps18
  go_upto_region 1 with fail
  go_cut [6] (fun v wd => v = .int .i64 m ∧ wd = w)
  case first =>
    go_wp2_with fail
    all_goals (go_meet <;> exact ⟨by first | rfl | (congr 1; omega) | (rw [hmi]), rfl⟩)
  case rest =>
  obtain ⟨rfl, rfl⟩ := hcut
  clear hmi hmi2
  go_wp2_with fail
  go_loopw [14] (fun i wr => ∃ k : Nat, k ≤ N ∧ k ≤ M ∧ i = .int .i64 k ∧ I = k + cmpI ((rs.map ER.x).drop k) ((qs.map ER.x).drop k) ∧ Only Nil wc wr) (fun i _ => m - (intOf i).toNat)
  case atStart => exact ⟨0, Nat.zero_le _, Nat.zero_le _, rfl, by rw [Nat.zero_add]; exact HI0.out.symm, Only.refl _ _⟩
  case round =>
    obtain ⟨k, hk, hkM, rfl, hrel2, hO⟩ := hrel
    have HK := Lib.hid hrel2
    have HO := Lib.hid hO
    clear hrel2 hO
    by_cases hltm : k < m
    · have hlt : k < N := by have := HMN.out; omega
      have hltM : k < M := by have := HMN.out; omega
      obtain ⟨r, hr⟩ : ∃ r, rs[k]? = some r := ⟨rs[k]'(by rw [HN.out]; exact hlt), List.getElem?_eq_getElem _⟩
      obtain ⟨q, hq⟩ : ∃ q, qs[k]? = some q := ⟨qs[k]'(by rw [HM.out]; exact hltM), List.getElem?_eq_getElem _⟩
      have hd1 : (rs.map ER.x).drop k = r.x :: (rs.map ER.x).drop (k + 1) := by
        obtain ⟨h1, h2⟩ := List.getElem?_eq_some_iff.1 hr
        rw [← List.map_drop, ← List.map_drop, List.drop_eq_getElem_cons h1, h2]; rfl
      have hd2 : (qs.map ER.x).drop k = q.x :: (qs.map ER.x).drop (k + 1) := by
        obtain ⟨h1, h2⟩ := List.getElem?_eq_some_iff.1 hq
        rw [← List.map_drop, ← List.map_drop, List.drop_eq_getElem_cons h1, h2]; rfl
      obtain ⟨S, hS⟩ : ∃ S, sameE r.x q.x = S := ⟨_, rfl⟩
      have hst : I = k + (if S = true then cmpI ((rs.map ER.x).drop (k + 1)) ((qs.map ER.x).drop (k + 1)) + 1 else 0) := by
        have := HK.out
        rw [hd1, hd2, cmpI, hS] at this
        exact this
      have HST := Lib.hid hst
      obtain ⟨b, off, rfl, _, hc⟩ := (HA.out.next HO.out).at_ hr
      obtain ⟨b', off', rfl, _, hc'⟩ := (HB.out.next HO.out).at_ hq
      have hok1 := fun (u : World) (hu : Only Nil wr u) => ((HA.out.next HO.out).next hu).ok r (List.mem_of_getElem? hr)
      have hok2 := fun (u : World) (hu : Only Nil wr u) => ((HB.out.next HO.out).next hu).ok q (List.mem_of_getElem? hq)
      have hl1 := HD1.out r (List.mem_of_getElem? hr)
      have hl2 := HD2.out q (List.mem_of_getElem? hq)
      have hc1 : ∀ u, Only Nil wr u → ∀ j v, r.cells[j]? = some v → u.cell? ⟨b, off + (k * 8 + j), none⟩ = some v := fun u hO j v hj => (hO.cell (lt_of_cell (hc j v hj)) (fun h => h)).trans (hc j v hj)
      have hc2 : ∀ u, Only Nil wr u → ∀ j v, q.cells[j]? = some v → u.cell? ⟨b', off' + (k * 8 + j), none⟩ = some v := fun u hO j v hj => (hO.cell (lt_of_cell (hc' j v hj)) (fun h => h)).trans (hc' j v hj)
      have hEE : (encE r.x == encE q.x) = S := by
        rw [encE_inj (hok1 wr (Only.refl _ _)).fits (hok2 wr (Only.refl _ _)).fits (by omega) (by omega)]
        exact hS
      have HEN1 := Lib.hid (fun (u : World) (hu : Only Nil wr u) => entry_enc r u (hok1 u hu) hl1)
      have HEN2 := Lib.hid (fun (u : World) (hu : Only Nil wr u) => entry_enc q u (hok2 u hu) hl2)
      obtain ⟨X1, hX1⟩ : ∃ X, encE r.x = X := ⟨_, rfl⟩
      obtain ⟨X2, hX2⟩ : ∃ X, encE q.x = X := ⟨_, rfl⟩
      rw [hX1] at HEN1 hEE
      rw [hX2] at HEN2 hEE
      have HEE := Lib.hid hEE
      have hSF : S = false → I = k ∧ R = false := fun h => by
        have h1 := HST.out
        rw [h, if_neg (by simp)] at h1
        refine ⟨by omega, ?_⟩
        rw [HRI.out, decide_eq_false (by omega : ¬ I = N)]
        rfl
      have HSF := Lib.hid hSF
      have HC1 := Lib.hid hc1
      have HC2 := Lib.hid hc2
      have hki : (k : Int) < N := by omega
      have hkj : (k : Int) < M := by omega
      have hkm : (k : Int) < m := by omega
      clear hr hq hd1 hd2 hc hc' hc1 hc2 hst hS hSF hEE hX1 hX2 hok1 hok2 hl1 hl2 hltm
      obtain ⟨Ad, cd, ⟨kind, task, call, a0, a1, a2, result, data⟩⟩ := r
      obtain ⟨Bd, dd, ⟨kind', task', call', b0, b1, b2, result', data'⟩⟩ := q
      unfold ER.cells at HC1 HC2 HEN1 HEN2
      dsimp only at HC1 HC2 HEN1 HEN2
      obtain ⟨D, hD⟩ : ∃ D, data.length = D := ⟨_, rfl⟩
      obtain ⟨D', hD'⟩ : ∃ D, data'.length = D := ⟨_, rfl⟩
      rw [hD] at HC1 HEN1
      rw [hD'] at HC2 HEN2
      clear hD hD'
      go_wp2_with fail
      have HIN : Hid (∀ (L : Nat → Bool) (vs : Nat → Value) (u u' : World), Only Nil u u' → (fun _ _ u => Only Nil wr u) L vs u → (fun _ _ u => Only Nil wr u) L vs u') := Lib.hid (fun L vs u u' hO hI => by
        exact hI.thenNil hO)
      refine wp_region_any (by kernel_rfl) ?_
      change wpAny _ _ _ _ _ _ _ (World.drew _)
      refine take_first (i := 0) (v := ?v0_2) (some 17) rfl (by rfl) (by kernel_rfl) (by kernel_rfl) (by kernel_rfl) (fun _ _ _ h => h) (Or.inl ⟨by rfl, ?hy0_2⟩) ?rest0_2
      case hy0_2 => (intro w; go_simp <;> with_reducible rfl)
      refine take_first (i := 1) (v := ?v1_2) (some 18) rfl (by rfl) (by kernel_rfl) (by kernel_rfl) (by kernel_rfl) (fun _ _ _ h => h) (Or.inl ⟨by rfl, ?hy1_2⟩) ?rest1_2
      case hy1_2 => (intro w; go_simp <;> with_reducible rfl)
      refine take_first (i := 2) (v := ?v2_2) (some 19) rfl (by rfl) (by kernel_rfl) (by kernel_rfl) (by kernel_rfl) (fun _ _ _ h => h) (Or.inl ⟨by rfl, ?hy2_2⟩) ?rest2_2
      case hy2_2 => (intro w; go_simp <;> with_reducible rfl)
      refine take_first (i := 5) (v := ?v5_2) (some 22) rfl (by rfl) (by kernel_rfl) (by kernel_rfl) (by kernel_rfl) (fun _ _ _ h => h) (Or.inl ⟨by rfl, ?hy5_2⟩) ?rest5_2
      case hy5_2 => (intro w; go_simp <;> with_reducible rfl)
      refine take_first (i := 6) (v := ?v6_2) (some 23) rfl (by rfl) (by kernel_rfl) (by kernel_rfl) (by kernel_rfl) (fun _ _ _ h => h) (Or.inl ⟨by rfl, ?hy6_2⟩) ?rest6_2
      case hy6_2 => (intro w; go_simp <;> with_reducible rfl)
      refine take_first (i := 7) (v := ?v7_2) (some 24) rfl (by rfl) (by kernel_rfl) (by kernel_rfl) (by kernel_rfl) (fun _ _ _ h => h) (Or.inl ⟨by rfl, ?hy7_2⟩) ?rest7_2
      case hy7_2 => (intro w; go_simp <;> with_reducible rfl)
      refine wpAny_inv2 (X := [(3, some 20, []), (4, some 21, [3]), (8, some 25, []), (9, some 26, [8])]) (n := 4) (g := 2) (m := 10) (l0 := [true, true, true, false, false, true, true, true, false, false, false, false]) (T := Nil) (Ps := [Any, Any, Any, Cst (.agg #[.int .i64 kind, .int .i64 task, .int .i64 call, .int .i64 a0, .int .i64 a1, .int .i64 a2, .int .i64 result, .slice Ad D cd]), OwnB 5 wr.heap.size X1, Any, Any, Any, Cst (.agg #[.int .i64 kind', .int .i64 task', .int .i64 call', .int .i64 b0, .int .i64 b1, .int .i64 b2, .int .i64 result', .slice Bd D' dd]), OwnB 5 wr.heap.size X2])
        (I := fun _ _ u => Only Nil wr u)
        (by kernel_rfl) rfl (by kernel_rfl) (by kernel_rfl) (by kernel_rfl) rfl ?h0_2 ?st_2 ?i0_2 ?step_2 ?fin_2
      case h0_2 =>
        intro j hj v u
        match j, hj with
        | 0, hj => trivial
        | 1, hj => trivial
        | 2, hj => trivial
        | 3, hj => exact absurd hj (by decide)
        | 4, hj => exact absurd hj (by decide)
        | 5, hj => trivial
        | 6, hj => trivial
        | 7, hj => trivial
        | 8, hj => exact absurd hj (by decide)
        | 9, hj => exact absurd hj (by decide)
        | 10, hj => exact absurd hj (by decide)
        | 11, hj => exact absurd hj (by decide)
        | n + 12, hj => exact absurd hj (by simp)
      case st_2 =>
        have hT : ∀ x, (Nil) x → x < 0 := fun x h => h.elim
        intro p hp
        simp only [List.mem_cons, List.not_mem_nil, or_false] at hp
        rcases hp with rfl | rfl | rfl | rfl | rfl | rfl | rfl | rfl | rfl | rfl <;> first | exact Stays.cst _ | exact Stays.own hT | exact Stays.emp hT | exact Stays.any | exact Stays.ownNil
      case i0_2 =>
        intro vs
        exact (Only.refl _ _).drew
      case step_2 =>
        intro x hx L vs u hI hA h0 hd
        simp only [List.mem_cons, List.not_mem_nil, or_false] at hx
        rcases hx with rfl | rfl | rfl | rfl
        · refine inv_step _ (by rfl) (by rfl) (fun K' hK => ?_)
          simp only [putAll, Act.put, List.setIfInBounds_toArray, List.set_cons_succ, List.set_cons_zero] at hK ⊢
          have e := HC1.out _ hI
          have e0 : u.cell? ⟨b, off + k * 8, none⟩ = some (.int .i64 kind) := e 0 _ rfl
          have e1 : u.cell? ⟨b, off + k * 8 + 1, none⟩ = some (.int .i64 task) := e 1 _ rfl
          have e2 : u.cell? ⟨b, off + k * 8 + 2, none⟩ = some (.int .i64 call) := e 2 _ rfl
          have e3 : u.cell? ⟨b, off + k * 8 + 3, none⟩ = some (.int .i64 a0) := e 3 _ rfl
          have e4 : u.cell? ⟨b, off + k * 8 + 4, none⟩ = some (.int .i64 a1) := e 4 _ rfl
          have e5 : u.cell? ⟨b, off + k * 8 + 5, none⟩ = some (.int .i64 a2) := e 5 _ rfl
          have e6 : u.cell? ⟨b, off + k * 8 + 6, none⟩ = some (.int .i64 result) := e 6 _ rfl
          have e7 : u.cell? ⟨b, off + k * 8 + 7, none⟩ = some (.slice Ad D cd) := e 7 _ rfl
          go_simp
          exact hK _ _ ⟨Only.refl _ _, hI, rfl⟩
        · refine inv_step _ (by rfl) (by rfl) (fun K' hK => ?_)
          simp only [putAll, Act.put, List.setIfInBounds_toArray, List.set_cons_succ, List.set_cons_zero] at hK ⊢
          have e3 := hA 3 (hd 3 (by simp))
          change vs 3 = (.agg #[.int .i64 kind, .int .i64 task, .int .i64 call, .int .i64 a0, .int .i64 a1, .int .i64 a2, .int .i64 result, .slice Ad D cd]) at e3
          simp only [e3] at hK
          go_simp
          go_at_call 30
          refine (HEN1.out _ hI).mono ?_
          rintro x u2 ⟨A2, c2, rfl, hc2, ho2, hO2⟩
          go_simp
          exact hK _ _ ⟨hO2, HIN.out L vs _ _ hO2 hI, ⟨A2, c2, rfl, hc2, own_base ho2 hI.size⟩⟩
        · refine inv_step _ (by rfl) (by rfl) (fun K' hK => ?_)
          simp only [putAll, Act.put, List.setIfInBounds_toArray, List.set_cons_succ, List.set_cons_zero] at hK ⊢
          have e := HC2.out _ hI
          have e0 : u.cell? ⟨b', off' + k * 8, none⟩ = some (.int .i64 kind') := e 0 _ rfl
          have e1 : u.cell? ⟨b', off' + k * 8 + 1, none⟩ = some (.int .i64 task') := e 1 _ rfl
          have e2 : u.cell? ⟨b', off' + k * 8 + 2, none⟩ = some (.int .i64 call') := e 2 _ rfl
          have e3 : u.cell? ⟨b', off' + k * 8 + 3, none⟩ = some (.int .i64 b0) := e 3 _ rfl
          have e4 : u.cell? ⟨b', off' + k * 8 + 4, none⟩ = some (.int .i64 b1) := e 4 _ rfl
          have e5 : u.cell? ⟨b', off' + k * 8 + 5, none⟩ = some (.int .i64 b2) := e 5 _ rfl
          have e6 : u.cell? ⟨b', off' + k * 8 + 6, none⟩ = some (.int .i64 result') := e 6 _ rfl
          have e7 : u.cell? ⟨b', off' + k * 8 + 7, none⟩ = some (.slice Bd D' dd) := e 7 _ rfl
          go_simp
          exact hK _ _ ⟨Only.refl _ _, hI, rfl⟩
        · refine inv_step _ (by rfl) (by rfl) (fun K' hK => ?_)
          simp only [putAll, Act.put, List.setIfInBounds_toArray, List.set_cons_succ, List.set_cons_zero] at hK ⊢
          have e8 := hA 8 (hd 8 (by simp))
          change vs 8 = (.agg #[.int .i64 kind', .int .i64 task', .int .i64 call', .int .i64 b0, .int .i64 b1, .int .i64 b2, .int .i64 result', .slice Bd D' dd]) at e8
          simp only [e8] at hK
          go_simp
          go_at_call 30
          refine (HEN2.out _ hI).mono ?_
          rintro x u2 ⟨A2, c2, rfl, hc2, ho2, hO2⟩
          go_simp
          exact hK _ _ ⟨hO2, HIN.out L vs _ _ hO2 hI, ⟨A2, c2, rfl, hc2, own_base ho2 hI.size⟩⟩
      case fin_2 =>
        intro L vs u hI hL hA
        simp only [putAll, Act.put, List.setIfInBounds_toArray, List.set_cons_succ, List.set_cons_zero, List.drop_succ_cons, List.drop_zero]
        obtain ⟨A4, d4, e4, hc4, ho4⟩ := hA 4 (by omega)
        obtain ⟨A9, d9, e9, hc9, ho9⟩ := hA 9 (by omega)
        simp only [e4, e9]
        have HBE := Lib.hid (bytes_equal A4 A9 d4 d9 X1 X2 u (Bs.of_own ho4).1 (Bs.of_own ho9).1)
        rw [HEE.out] at HBE
        obtain ⟨L1, hL1⟩ : ∃ l, X1.length = l := ⟨_, rfl⟩
        obtain ⟨L2, hL2⟩ : ∃ l, X2.length = l := ⟨_, rfl⟩
        rw [hL1, hL2] at HBE ⊢
        have HI := Lib.hid (HO.out.thenNil hI)
        clear hA hL hI e4 e9 hc4 hc9 ho4 ho9 hL1 hL2
        go_wp2_with fail
        refine HBE.out.mono ?_
        rintro x w2 ⟨rfl, rfl⟩
        cases S
        · obtain ⟨h1, h2⟩ := HSF.out rfl
          have H1 := Lib.hid h1
          have H2 := Lib.hid h2
          clear h1 h2
          go_wp2_with fail
          go_ret2
          exact ⟨by rw [H1.out, H2.out]; rfl, HI.out⟩
        · go_wp2_with fail
          go_roundw
          case rel => exact ⟨k + 1, by omega, by omega, by go_num, by have := HST.out; (first | rw [if_pos rfl] at this | rw [if_pos trivial] at this); omega, HI.out⟩
          case measure => simp [intOf]; omega
    · have hkm : k = m := by have := HMN.out; omega
      subst hkm
      have hz : cmpI ((rs.map ER.x).drop k) ((qs.map ER.x).drop k) = 0 := by
        have h1 := cmpI_le ((rs.map ER.x).drop k) ((qs.map ER.x).drop k)
        simp only [List.length_drop, List.length_map, HN.out, HM.out] at h1
        have := HMN.out
        omega
      have hIk : I = k := by have := HK.out; omega
      have hb1 : ((N : Int) == (M : Int)) = R := by
        have := HMN.out
        rw [HRI.out, hIk]
        by_cases h : N = M
        · subst h
          have : k = N := by omega
          subst this
          simp
        · rw [beq_false_of_ne (by omega)]
          symm
          rw [Bool.and_eq_false_iff, decide_eq_false_iff_not, decide_eq_false_iff_not]
          omega
      have HIK := Lib.hid hIk
      clear hz hIk
      go_wp2_with fail
      go_ret2
      exact ⟨by rw [HIK.out]; rfl, HO.out⟩

end Go.Proofs.Ytdejceojhkdjnaa
