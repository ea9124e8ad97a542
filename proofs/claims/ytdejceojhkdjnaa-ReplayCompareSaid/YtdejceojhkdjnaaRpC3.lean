/-
  The walk of ratoonref54.Compare.
  Conditions: the entries can be read; each has at most 2 to the power 38 bytes.
-/
import Derived.Test.YtdejceojhkdjnaaRpC1
import Derived.Deep.RegionHeld3
namespace Go.Proofs.Ytdejceojhkdjnaa
open Go.RowKit

set_option maxRecDepth 100000 in
set_option maxHeartbeats 4000000 in
theorem Ref.cmp_any (A B : Option Addr) (ca cb : Nat) (rs qs : List ER) (w : World) (ha : Es w w.heap.size A rs) (hb : Es w w.heap.size B qs) (hl : rs.length ≤ 1099511627776) (hm : qs.length ≤ 1099511627776) (hd1 : ∀ r ∈ rs, r.x.data.length ≤ 274877906944) (hd2 : ∀ r ∈ qs, r.x.data.length ≤ 274877906944) :
    Calls Try.prog 19 #[.slice A rs.length ca, .slice B qs.length cb] w (CmpPost (rs.map ER.x) (qs.map ER.x) w) := by
  obtain ⟨N, hN⟩ : ∃ N, rs.length = N := ⟨_, rfl⟩
  obtain ⟨M, hM⟩ : ∃ M, qs.length = M := ⟨_, rfl⟩
  obtain ⟨I, hI0⟩ : ∃ I, cmpI (rs.map ER.x) (qs.map ER.x) = I := ⟨_, rfl⟩
  obtain ⟨R, hR⟩ : ∃ R, sameL (rs.map ER.x) (qs.map ER.x) = R := ⟨_, rfl⟩
  have hRI : R = (decide (I = N) && decide (I = M)) := by
    have := cmpI_all (rs.map ER.x) (qs.map ER.x)
    rwa [hI0, hR, List.length_map, List.length_map, hN, hM] at this
  have hIle : I ≤ N ∧ I ≤ M := by
    have := cmpI_le (rs.map ER.x) (qs.map ER.x)
    rwa [hI0, List.length_map, List.length_map, hN, hM] at this
  unfold CmpPost
  rw [hN, hM, hI0, hR]
  rw [hN] at hl
  rw [hM] at hm
  have HN := Lib.hid hN
  have HM := Lib.hid hM
  have HI0 := Lib.hid hI0
  have HRI := Lib.hid hRI
  have HIL := Lib.hid hIle
  have HA := Lib.hid ha
  have HB := Lib.hid hb
  have HD1 := Lib.hid hd1
  have HD2 := Lib.hid hd2
  clear hN hM hI0 hR hRI hIle ha hb hd1 hd2

  go_enter Try.func19, Try.ntmps19
  go_wp2_with fail
  go_loopw [6] (fun i wr => ∃ k : Nat, k ≤ N ∧ k ≤ M ∧ i = .int .i64 k ∧ I = k + cmpI ((rs.map ER.x).drop k) ((qs.map ER.x).drop k) ∧ Only Nil w wr) (fun i _ => N - (intOf i).toNat)
  case atStart => exact ⟨0, Nat.zero_le _, Nat.zero_le _, rfl, by rw [Nat.zero_add]; exact HI0.out.symm, Only.refl _ _⟩
  case round =>
    obtain ⟨k, hk, hkM, rfl, hrel2, hO⟩ := hrel
    have HK := Lib.hid hrel2
    have HO := Lib.hid hO
    clear hrel2 hO
    by_cases hlt : k < N
    rotate_left
    · have hIk : I = k := by have := HIL.out; have := HK.out; omega
      have hki : ¬ (k : Int) < N := by omega
      have hRQ : R = (decide (k = N) && decide (k = M)) := by rw [HRI.out, hIk]
      obtain ⟨q1, h1⟩ : ∃ q, ((k : Int) == (N : Int)) = q := ⟨_, rfl⟩
      obtain ⟨q2, h2⟩ : ∃ q, ((k : Int) == (M : Int)) = q := ⟨_, rfl⟩
      have hq1 : decide (k = N) = q1 := by
        rw [← h1]
        by_cases h : k = N
        · rw [decide_eq_true h, h]; simp
        · rw [decide_eq_false h, beq_false_of_ne (by omega)]
      have hq2 : decide (k = M) = q2 := by
        rw [← h2]
        by_cases h : k = M
        · rw [decide_eq_true h, h]; simp
        · rw [decide_eq_false h, beq_false_of_ne (by omega)]
      rw [hq1, hq2] at hRQ
      have HRQ := Lib.hid hRQ
      have HIK := Lib.hid hIk
      clear hRQ hIk hq1 hq2
      go_wp2_with fail
      go_quiet (fail)
      cases q1 <;> cases q2
      all_goals go_wp2_with fail
      all_goals go_ret2
      all_goals exact ⟨by rw [HIK.out, HRQ.out]; rfl, HO.out.drewN _⟩
    by_cases hltM : k < M
    rotate_left
    · have hIk : I = k := by have := HIL.out; have := HK.out; omega
      have hki : (k : Int) < N := by omega
      have hkj : ¬ (k : Int) < M := by omega
      have hRQ : R = (decide (k = N) && decide (k = M)) := by rw [HRI.out, hIk]
      obtain ⟨q1, h1⟩ : ∃ q, ((k : Int) == (N : Int)) = q := ⟨_, rfl⟩
      obtain ⟨q2, h2⟩ : ∃ q, ((k : Int) == (M : Int)) = q := ⟨_, rfl⟩
      have hq1 : decide (k = N) = q1 := by
        rw [← h1]
        by_cases h : k = N
        · rw [decide_eq_true h, h]; simp
        · rw [decide_eq_false h, beq_false_of_ne (by omega)]
      have hq2 : decide (k = M) = q2 := by
        rw [← h2]
        by_cases h : k = M
        · rw [decide_eq_true h, h]; simp
        · rw [decide_eq_false h, beq_false_of_ne (by omega)]
      rw [hq1, hq2] at hRQ
      have HRQ := Lib.hid hRQ
      have HIK := Lib.hid hIk
      clear hRQ hIk hq1 hq2
      go_wp2_with fail
      go_quiet (fail)
      cases q1 <;> cases q2
      all_goals go_wp2_with fail
      all_goals go_ret2
      all_goals exact ⟨by rw [HIK.out, HRQ.out]; rfl, HO.out.drewN _⟩
    · skip
      obtain ⟨r, hr⟩ : ∃ r, rs[k]? = some r := ⟨rs[k]'(by rw [HN.out]; exact hlt), List.getElem?_eq_getElem _⟩
      obtain ⟨q, hq⟩ : ∃ q, qs[k]? = some q := ⟨qs[k]'(by rw [HM.out]; exact hltM), List.getElem?_eq_getElem _⟩
      have hd1 : (rs.map ER.x).drop k = r.x :: (rs.map ER.x).drop (k + 1) := by
        obtain ⟨h1, h2⟩ := List.getElem?_eq_some_iff.1 hr
        rw [← List.map_drop, ← List.map_drop, List.drop_eq_getElem_cons h1, h2]; rfl
      have hd2 : (qs.map ER.x).drop k = q.x :: (qs.map ER.x).drop (k + 1) := by
        obtain ⟨h1, h2⟩ := List.getElem?_eq_some_iff.1 hq
        rw [← List.map_drop, ← List.map_drop, List.drop_eq_getElem_cons h1, h2]; rfl
      obtain ⟨S, hS⟩ : ∃ S, sameE r.x q.x = S := ⟨_, rfl⟩
      have hst : I = k + (if S = true then cmpI ((rs.map ER.x).drop (k + 1)) ((qs.map ER.x).drop (k + 1)) + 1 else 0) := by
        have := HK.out
        rw [hd1, hd2, cmpI, hS] at this
        exact this
      have HST := Lib.hid hst
      obtain ⟨b, off, rfl, _, hc⟩ := (HA.out.next HO.out).at_ hr
      obtain ⟨b', off', rfl, _, hc'⟩ := (HB.out.next HO.out).at_ hq
      have hok1 := fun (u : World) (hu : Only Nil wr u) => ((HA.out.next HO.out).next hu).ok r (List.mem_of_getElem? hr)
      have hok2 := fun (u : World) (hu : Only Nil wr u) => ((HB.out.next HO.out).next hu).ok q (List.mem_of_getElem? hq)
      have hl1 := HD1.out r (List.mem_of_getElem? hr)
      have hl2 := HD2.out q (List.mem_of_getElem? hq)
      have hc1 : ∀ u, Only Nil wr u → ∀ j v, r.cells[j]? = some v → u.cell? ⟨b, off + (k * 8 + j), none⟩ = some v := fun u hO j v hj => (hO.cell (lt_of_cell (hc j v hj)) (fun h => h)).trans (hc j v hj)
      have hc2 : ∀ u, Only Nil wr u → ∀ j v, q.cells[j]? = some v → u.cell? ⟨b', off' + (k * 8 + j), none⟩ = some v := fun u hO j v hj => (hO.cell (lt_of_cell (hc' j v hj)) (fun h => h)).trans (hc' j v hj)
      have HSE := Lib.hid (fun (u : World) (hu : Only Nil wr u) => same_entry r q u (hok1 u hu).data (hok2 u hu).data)
      rw [hS] at HSE
      have hSF : S = false → I = k := fun h => by
        have h1 := HST.out
        rw [h, if_neg (by simp)] at h1
        omega
      have HSF := Lib.hid hSF
      have HC1 := Lib.hid hc1
      have HC2 := Lib.hid hc2
      have hki : (k : Int) < N := by omega
      have hkj : (k : Int) < M := by omega
      clear hr hq hd1 hd2 hc hc' hc1 hc2 hst hS hSF hok1 hok2 hl1 hl2
      obtain ⟨Ad, cd, ⟨kind, task, call, a0, a1, a2, result, data⟩⟩ := r
      obtain ⟨Bd, dd, ⟨kind', task', call', b0, b1, b2, result', data'⟩⟩ := q
      unfold ER.cells at HC1 HC2 HSE
      dsimp only at HC1 HC2 HSE
      obtain ⟨D, hD⟩ : ∃ D, data.length = D := ⟨_, rfl⟩
      obtain ⟨D', hD'⟩ : ∃ D, data'.length = D := ⟨_, rfl⟩
      rw [hD] at HC1 HSE
      rw [hD'] at HC2 HSE
      clear hD hD'
      have HS : Hid (∀ u, Only Nil wr u → u.cell? ⟨b, off + k * 8, none⟩ = some (.int .i64 kind) ∧ u.cell? ⟨b, off + k * 8 + 1, none⟩ = some (.int .i64 task) ∧ u.cell? ⟨b, off + k * 8 + 2, none⟩ = some (.int .i64 call) ∧ u.cell? ⟨b, off + k * 8 + 3, none⟩ = some (.int .i64 a0) ∧ u.cell? ⟨b, off + k * 8 + 4, none⟩ = some (.int .i64 a1) ∧ u.cell? ⟨b, off + k * 8 + 5, none⟩ = some (.int .i64 a2) ∧ u.cell? ⟨b, off + k * 8 + 6, none⟩ = some (.int .i64 result) ∧ u.cell? ⟨b, off + k * 8 + 7, none⟩ = some (.slice Ad D cd) ∧ u.cell? ⟨b', off' + k * 8, none⟩ = some (.int .i64 kind') ∧ u.cell? ⟨b', off' + k * 8 + 1, none⟩ = some (.int .i64 task') ∧ u.cell? ⟨b', off' + k * 8 + 2, none⟩ = some (.int .i64 call') ∧ u.cell? ⟨b', off' + k * 8 + 3, none⟩ = some (.int .i64 b0) ∧ u.cell? ⟨b', off' + k * 8 + 4, none⟩ = some (.int .i64 b1) ∧ u.cell? ⟨b', off' + k * 8 + 5, none⟩ = some (.int .i64 b2) ∧ u.cell? ⟨b', off' + k * 8 + 6, none⟩ = some (.int .i64 result') ∧ u.cell? ⟨b', off' + k * 8 + 7, none⟩ = some (.slice Bd D' dd)) := Lib.hid (fun u hu => by
        have e := HC1.out _ hu
        have i := HC2.out _ hu
        exact ⟨e 0 _ rfl, e 1 _ rfl, e 2 _ rfl, e 3 _ rfl, e 4 _ rfl, e 5 _ rfl, e 6 _ rfl, e 7 _ rfl, i 0 _ rfl, i 1 _ rfl, i 2 _ rfl, i 3 _ rfl, i 4 _ rfl, i 5 _ rfl, i 6 _ rfl, i 7 _ rfl⟩)
      have hs0 := HS.out wr (Only.refl _ _)
      have hs1 := HS.out wr.drew (Only.refl _ _).drew
      obtain ⟨x0, x1, x2, x3, x4, x5, x6, x7, y0, y1, y2, y3, y4, y5, y6, y7⟩ := hs0
      obtain ⟨z0, z1, z2, z3, z4, z5, z6, z7, t0, t1, t2, t3, t4, t5, t6, t7⟩ := hs1
      go_wp2_with fail
      go_region_held3 (fun u => u.cell? ⟨b, off + k * 8, none⟩ = some (.int .i64 kind) ∧ u.cell? ⟨b, off + k * 8 + 1, none⟩ = some (.int .i64 task) ∧ u.cell? ⟨b, off + k * 8 + 2, none⟩ = some (.int .i64 call) ∧ u.cell? ⟨b, off + k * 8 + 3, none⟩ = some (.int .i64 a0) ∧ u.cell? ⟨b, off + k * 8 + 4, none⟩ = some (.int .i64 a1) ∧ u.cell? ⟨b, off + k * 8 + 5, none⟩ = some (.int .i64 a2) ∧ u.cell? ⟨b, off + k * 8 + 6, none⟩ = some (.int .i64 result) ∧ u.cell? ⟨b, off + k * 8 + 7, none⟩ = some (.slice Ad D cd) ∧ u.cell? ⟨b', off' + k * 8, none⟩ = some (.int .i64 kind') ∧ u.cell? ⟨b', off' + k * 8 + 1, none⟩ = some (.int .i64 task') ∧ u.cell? ⟨b', off' + k * 8 + 2, none⟩ = some (.int .i64 call') ∧ u.cell? ⟨b', off' + k * 8 + 3, none⟩ = some (.int .i64 b0) ∧ u.cell? ⟨b', off' + k * 8 + 4, none⟩ = some (.int .i64 b1) ∧ u.cell? ⟨b', off' + k * 8 + 5, none⟩ = some (.int .i64 b2) ∧ u.cell? ⟨b', off' + k * 8 + 6, none⟩ = some (.int .i64 result') ∧ u.cell? ⟨b', off' + k * 8 + 7, none⟩ = some (.slice Bd D' dd)) (first | with_reducible assumption | go_keep)
        (first
          | (go_simp; go_at_call 31; refine (HSE.out _ (Only.refl _ _).drew).mono ?_; rintro x w2 ⟨rfl, hO2⟩; have hs2 := HS.out w2 ((Only.refl Nil wr).drew.thenNil hO2)))
      have HO2 := Lib.hid (HO.out.thenNil ((Only.refl Nil wr).drew.thenNil hO2))
      clear hO2 x0 x1 x2 x3 x4 x5 x6 x7 y0 y1 y2 y3 y4 y5 y6 y7 z0 z1 z2 z3 z4 z5 z6 z7 t0 t1 t2 t3 t4 t5 t6 t7

      cases S
      · have hIk := HSF.out rfl
        have hRQ : R = (decide (k = N) && decide (k = M)) := by rw [HRI.out, hIk]
        obtain ⟨q1, h1⟩ : ∃ q, ((k : Int) == (N : Int)) = q := ⟨_, rfl⟩
        obtain ⟨q2, h2⟩ : ∃ q, ((k : Int) == (M : Int)) = q := ⟨_, rfl⟩
        have hq1 : decide (k = N) = q1 := by
          rw [← h1]
          by_cases h : k = N
          · rw [decide_eq_true h, h]; simp
          · rw [decide_eq_false h, beq_false_of_ne (by omega)]
        have hq2 : decide (k = M) = q2 := by
          rw [← h2]
          by_cases h : k = M
          · rw [decide_eq_true h, h]; simp
          · rw [decide_eq_false h, beq_false_of_ne (by omega)]
        rw [hq1, hq2] at hRQ
        have HRQ := Lib.hid hRQ
        have HIK := Lib.hid hIk
        clear hRQ hIk hq1 hq2
        cases q1 <;> cases q2
        all_goals go_wp2_with fail
        all_goals go_ret2
        all_goals exact ⟨by rw [HIK.out, HRQ.out]; rfl, HO2.out⟩
      · go_wp2_with fail
        go_roundw
        case rel => exact ⟨k + 1, by omega, by omega, by go_num, by have := HST.out; (first | rw [if_pos rfl] at this | rw [if_pos trivial] at this); omega, HO2.out⟩
        case measure => simp [intOf]; omega

end Go.Proofs.Ytdejceojhkdjnaa
