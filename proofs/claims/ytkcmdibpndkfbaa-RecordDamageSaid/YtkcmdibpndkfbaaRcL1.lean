/-
  The example that every statement of layer 53 checks first: it holds. The walk of ratoonref53.Few.
  Conditions: the entries can be read.
-/
import Derived.Test.YtkcmdibpndkfbaaRcA1
import Derived.Test.YtkcmdibpndkfbaaRcX
import Derived.Test.YtkcmdibpndkfbaaSmE
import Derived.Test.YtkcmdibpndkfbaaRow
namespace Go.Proofs.Ytkcmdibpndkfbaa
open Go.RowKit

/-- Few entries with few bytes. -/
def fewR (l : List En) : Bool := l.all (fun x => decide (x.data.length ≤ 200)) && decide (l.length ≤ 20)
theorem fewR_of {l : List En} (h : fewR l = true) : (∀ x ∈ l, x.data.length ≤ 200) ∧ l.length ≤ 20 := by
  unfold fewR at h
  simp only [Bool.and_eq_true, List.all_eq_true, decide_eq_true_eq] at h
  exact h

set_option maxRecDepth 100000 in
set_option maxHeartbeats 1000000 in
theorem Ref.few_any (A : Option Addr) (c : Nat) (rs : List ER) (w : World) (hE : Es w w.heap.size A rs) (hl : rs.length ≤ maxLen) :
    Calls Try.prog 8 #[.slice A rs.length c] w fun e w' => e = .returned (.bool (fewR (rs.map ER.x))) ∧ w' = w := by
  obtain ⟨N, hN⟩ : ∃ N, rs.length = N := ⟨_, rfl⟩
  obtain ⟨F, hF⟩ : ∃ F, fewR (rs.map ER.x) = F := ⟨_, rfl⟩
  have HE := Lib.hid hE
  have HF := Lib.hid hF
  have HN := Lib.hid hN
  rw [hN, hF]
  rw [hN] at hl
  unfold maxLen at hl
  clear hE hF hN
  go_enter Try.func8, Try.ntmps8
  go_wp2_with fail
  go_loopw [3] (fun i wr => ∃ k : Nat, k ≤ N ∧ i = .int .i64 k ∧ (∀ x ∈ (rs.take k).map ER.x, x.data.length ≤ 200) ∧ wr = w) (fun i _ => N - (intOf i).toNat)
  case atStart => exact ⟨0, Nat.zero_le _, rfl, fun x hx => by simp at hx, rfl⟩
  case round =>
    obtain ⟨k, hk, rfl, hpre, rfl⟩ := hrel
    have HPRE := Lib.hid hpre
    clear hpre
    by_cases hlt : k < N
    · obtain ⟨r, hr⟩ : ∃ r, rs[k]? = some r := ⟨rs[k]'(by rw [HN.out]; exact hlt), List.getElem?_eq_getElem _⟩
      obtain ⟨hkl, hge⟩ := List.getElem?_eq_some_iff.1 hr
      have htk : (rs.take (k + 1)).map ER.x = (rs.take k).map ER.x ++ [r.x] := by
        rw [List.take_succ_eq_append_getElem hkl, hge, List.map_append]
        rfl
      obtain ⟨b, off, rfl, _, hc⟩ := HE.out.at_ hr
      have e7 : wr.cell? ⟨b, off + (k * 8 + 7), none⟩ = some (.slice r.A r.x.data.length r.c) := hc 7 _ rfl
      rw [← Nat.add_assoc] at e7
      have hki : (k : Int) < N := by omega
      have HTK := Lib.hid htk
      have hmx : r.x ∈ rs.map ER.x := List.mem_map.2 ⟨r, List.mem_of_getElem? hr, rfl⟩
      have HMX := Lib.hid hmx
      obtain ⟨D, hD⟩ : ∃ D, r.x.data.length = D := ⟨_, rfl⟩
      rw [hD] at e7
      have HD := Lib.hid hD
      clear hc hr hkl hge htk hmx hD hlt
      by_cases hD : D ≤ 200
      · have hdi : ¬ (200 : Int) < (D : Int) := by omega
        go_wp2_with fail
        go_roundw
        case rel => exact ⟨k + 1, by omega, by go_num, fun x hx => by
          rw [HTK.out] at hx
          rcases List.mem_append.1 hx with hx | hx
          · exact HPRE.out x hx
          · rw [List.mem_singleton] at hx
            rw [hx, HD.out]
            exact hD, by first | rfl | trivial⟩
        case measure => simp [intOf]; omega
      · have hdi : (200 : Int) < (D : Int) := by omega
        have hFf : F = false := by
          rw [Bool.eq_false_iff]
          intro h
          have h1 := (fewR_of (HF.out.trans h)).1 _ HMX.out
          rw [HD.out] at h1
          omega
        have HFF := Lib.hid hFf
        clear hFf hD
        go_wp2_with fail
        refine bodyPost_ret (v := .bool false) (by simp [results, Try.results8, go_sem]) rfl ?_
        exact ⟨by rw [HFF.out], rfl⟩
    · have hkN : k = N := by omega
      subst hkN
      have hki : ¬ (k : Int) < k := by omega
      have hFf : decide ((k : Int) ≤ 20) = F := by
        rw [← HF.out]
        unfold fewR
        have h1 : (rs.map ER.x).all (fun x => decide (x.data.length ≤ 200)) = true := by
          rw [List.all_eq_true]
          intro x hx
          have h2 := HPRE.out x (by rw [List.take_of_length_le (by rw [HN.out]; exact Nat.le_refl _)]; exact hx)
          simpa using h2
        rw [h1, List.length_map, HN.out, Bool.true_and]
        by_cases h : k ≤ 20
        · rw [decide_eq_true h, decide_eq_true (by omega)]
        · rw [decide_eq_false h, decide_eq_false (by omega)]
      have HFF := Lib.hid hFf
      clear hFf hlt
      go_wp2_with fail
      refine bodyPost_ret (v := .bool (decide ((k : Int) ≤ 20))) (by simp [results, Try.results8, go_sem]) rfl ?_
      exact ⟨by rw [← HFF.out], rfl⟩

def ex1 : En := ⟨6, 16, 0, 0, 0, 0, 0, []⟩
theorem ex1_v : vE ex1 = true := by decide
theorem ex1_fits : ex1.fits := by refine ⟨?_, ?_, ?_, ?_, ?_, ?_, ?_⟩ <;> (unfold I64 ex1; decide)

set_option maxRecDepth 100000 in
set_option maxHeartbeats 4000000 in
theorem awake_any (w : World) : Calls Try.prog 7 #[] w (LawPost w) := by
  obtain ⟨w1, hw1⟩ : ∃ w1, w1 = w.alloc (.cells #[Value.int .i64 6, .int .i64 16, .int .i64 0, .int .i64 0, .int .i64 0, .int .i64 0, .int .i64 0, .slice none 0 0] 39) := ⟨_, rfl⟩
  obtain ⟨w2, hw2⟩ : ∃ w2, w2 = w1.alloc (.cells #[Value.int .i64 6, .int .i64 16, .int .i64 0, .int .i64 0, .int .i64 0, .int .i64 0, .int .i64 0, .slice none 0 0] 39) := ⟨_, rfl⟩
  have hO1 : Only Nil w w1 := by rw [hw1]; exact (Only.refl _ _).alloc _
  have hO2 : Only Nil w1 w2 := by rw [hw2]; exact (Only.refl _ _).alloc _
  have hb1 : Blk w1 w.heap.size 39 #[Value.int .i64 6, .int .i64 16, .int .i64 0, .int .i64 0, .int .i64 0, .int .i64 0, .int .i64 0, .slice none 0 0] := by rw [hw1]; exact Blk.new _ _ _
  have hb2 : Blk w2 w1.heap.size 39 #[Value.int .i64 6, .int .i64 16, .int .i64 0, .int .i64 0, .int .i64 0, .int .i64 0, .int .i64 0, .slice none 0 0] := by rw [hw2]; exact Blk.new _ _ _
  have hs1 : w1.heap.size = w.heap.size + 1 := by rw [hw1]; exact World.size_alloc _ _
  have hes : Es w2 w2.heap.size (some ⟨w1.heap.size, 0, none⟩) [⟨none, 0, ex1⟩] :=
    ⟨Rd.more (Rd.blk (n := 1) hb2 rfl) hb2.lt, fun r hr => by
      rw [List.mem_singleton] at hr
      subst hr
      exact ⟨ex1_fits, Nat.le_refl _, by unfold maxLen; exact Nat.zero_le _, Bs.nil _ _ _⟩⟩
  have hwr := write_any (some ⟨w1.heap.size, 0, none⟩) 1 [⟨none, 0, ex1⟩] w2 hes (by decide)
  have hv1 : ∀ x ∈ [ex1], vE x = true ∧ x.fits := fun x hx => by rw [List.mem_singleton] at hx; subst hx; exact ⟨ex1_v, ex1_fits⟩
  have hrr := readR_recB hv1
  have hlen : 21 < (recB [ex1]).length := by
    rw [recB_len]
    show 21 < 5 + (frB ex1 (ofS magic) ++ []).length
    rw [List.append_nil, frB_length]
    have : 0 < (encE ex1).length := by
      unfold encE
      rw [List.append_assoc, List.append_assoc, List.append_assoc, List.length_append]
      have : 0 < (encL [ex1.kind, ex1.task, ex1.call]).length := by
        unfold encL
        rw [List.flatMap_cons, List.length_append]
        have : (encI ex1.kind).length = 1 := by
          unfold encI
          rw [encU_small (by decide)]
          rfl
        omega
      omega
    omega
  have hlen2 : (recB [ex1]).length ≤ 2000 := by
    rw [recB_len]
    have := bodyB_len (h := ofS magic) (l := [ex1]) (fun x hx => ⟨(hv1 x hx).2, vE_data (hv1 x hx).1⟩)
    have e : [ex1].length = 1 := rfl
    omega
  have htk : (recB [ex1]).take 5 = [82, 84, 78, 82, 49] := List.take_left' rfl
  change Calls Try.prog 9 #[.slice (some ⟨w1.heap.size, 0, none⟩) 1 1] w2 (WrPost [ex1] w2) at hwr
  obtain ⟨B, hB⟩ : ∃ B, recB [ex1] = B := ⟨_, rfl⟩
  unfold WrPost at hwr
  rw [hB] at hrr hlen hlen2 htk hwr
  obtain ⟨M, hM⟩ : ∃ M, B.length = M := ⟨_, rfl⟩
  rw [hM] at hrr hlen hlen2 hwr
  have HW1 := Lib.hid hw1
  have HW2 := Lib.hid hw2
  have HWR := Lib.hid hwr
  have HRR := Lib.hid hrr
  have HTK := Lib.hid htk
  have HM := Lib.hid hM
  have HO12 := Lib.hid (hO1.thenNil hO2)
  have HB1 := Lib.hid (hb1.onlyNil hO2)
  have k1 : ∀ i, w1.cell? ⟨w.heap.size, i, none⟩ = #[Value.int .i64 6, .int .i64 16, .int .i64 0, .int .i64 0, .int .i64 0, .int .i64 0, .int .i64 0, .slice none 0 0][i]? := fun i => hb1.cell i
  clear hw1 hw2 hO1 hO2 hb1 hb2 hs1 hes hwr hv1 hrr htk hM hB
  go_enter Try.func7, Try.ntmps7
  go_upto_region 2 with fail
  rw [← HW1.out]
  go_wp2_with fail
  rw [← HW2.out]
  refine HWR.out.mono ?_
  rintro e w3 ⟨hO3, hpost⟩
  have hpost2 : ∃ A c, e = .returned (.tuple #[.slice A M c, .int .i64 0]) ∧ OwnX w3 w2.heap.size A c B := by
    rcases hpost with ⟨_, A, c, h1, h2⟩ | ⟨h1, _⟩
    · exact ⟨A, c, h1, h2⟩
    · rw [show [ex1].all vE = true from by decide] at h1
      cases h1
  clear hpost
  obtain ⟨A, c, rfl, hown⟩ := hpost2
  have hform := hown.form
  rw [HM.out] at hform
  have hMc := hform.1
  have hrd := read_any A c B w3 hown.bs (by rw [HM.out]; omega) (by rw [HM.out]; exact hMc)
  rw [HRR.out, HM.out] at hrd
  have HRD := Lib.hid hrd
  have HOW := Lib.hid hown
  have HO3 := Lib.hid (HO12.out.thenNil hO3)
  have HB3 := Lib.hid (HB1.out.onlyNil hO3)
  clear hrd hown hO3 hform k1
  go_wp2_with fail
  refine HRD.out.mono ?_
  rintro e w4 ⟨A4, c4, rs, hmap, rfl, hc4, hel, hO4⟩
  obtain ⟨r, rfl⟩ : ∃ r, rs = [r] := List.length_eq_one_iff.1 (by have h := congrArg List.length hmap; rw [List.length_map] at h; exact h)
  have hrx : r.x = ex1 := by simpa using hmap
  have hr0 : ([r] : List ER)[0]? = some r := rfl
  obtain ⟨b, off, rfl, _, hc⟩ := hel.es.at_ hr0
  have HOKR := Lib.hid (hel.es.ok r (by simp))
  have HO4 := Lib.hid (HO3.out.thenNil hO4)
  have HB4 := Lib.hid (HB3.out.onlyNil hO4)
  have hb5 := (HOW.out.onlyNil hO4).bs.take 5 (by rw [HM.out]; omega)
  rw [HTK.out] at hb5
  have HB5 := Lib.hid hb5
  have HSE := Lib.hid (fun (u : World) (hu : Only Nil w4 u) => same_entry r ⟨none, 0, ex1⟩ u (((HOKR.out.onlyNil hu (Nat.le_refl _)).up hu.size).data) (Bs.nil _ _ _))
  have HC := Lib.hid (fun (u : World) (hu : Only Nil w4 u) j v (hj : r.cells[j]? = some v) => (hu.cell (lt_of_cell (hc j v hj)) (fun h => h)).trans (hc j v hj))
  clear hmap hel hc hc4 hO4 hr0 hb5
  obtain ⟨Ar, cr, xr⟩ := r
  dsimp only at hrx
  subst hrx
  rw [show sameE ex1 ex1 = true from sameE_iff.2 rfl] at HSE
  change Hid (∀ u, Only Nil w4 u → Calls Try.prog 18 #[.agg #[.int .i64 6, .int .i64 16, .int .i64 0, .int .i64 0, .int .i64 0, .int .i64 0, .int .i64 0, .slice Ar 0 cr], .agg #[.int .i64 6, .int .i64 16, .int .i64 0, .int .i64 0, .int .i64 0, .int .i64 0, .int .i64 0, .slice none 0 0]] u fun e w' => e = .returned (.bool true) ∧ Only Nil u w') at HSE
  have HS : Hid (∀ u, Only Nil w4 u → u.cell? ⟨b, off, none⟩ = some (.int .i64 6) ∧ u.cell? ⟨b, off + 1, none⟩ = some (.int .i64 16) ∧ u.cell? ⟨b, off + 2, none⟩ = some (.int .i64 0) ∧ u.cell? ⟨b, off + 3, none⟩ = some (.int .i64 0) ∧ u.cell? ⟨b, off + 4, none⟩ = some (.int .i64 0) ∧ u.cell? ⟨b, off + 5, none⟩ = some (.int .i64 0) ∧ u.cell? ⟨b, off + 6, none⟩ = some (.int .i64 0) ∧ u.cell? ⟨b, off + 7, none⟩ = some (.slice Ar 0 cr) ∧
      (∀ i, u.cell? ⟨w.heap.size, i, none⟩ = #[Value.int .i64 6, .int .i64 16, .int .i64 0, .int .i64 0, .int .i64 0, .int .i64 0, .int .i64 0, .slice none 0 0][i]?) ∧
      (convert 26 9 (.slice A 5 c)).run Try.prog u = .ok (.string ⟨#[82, 84, 78, 82, 49]⟩) u) := Lib.hid (fun u hu => by
    have e : ∀ (j : Nat) (v : Value), (⟨Ar, cr, ex1⟩ : ER).cells[j]? = some v → u.cell? ⟨b, off + j, none⟩ = some v := fun j v hj => by
      have := HC.out _ hu j v hj
      rwa [Nat.zero_mul, Nat.zero_add] at this
    have hb6 := HB5.out.onlyNil hu (Nat.le_refl _)
    exact ⟨e 0 _ rfl, e 1 _ rfl, e 2 _ rfl, e 3 _ rfl, e 4 _ rfl, e 5 _ rfl, e 6 _ rfl, e 7 _ rfl, fun i => (HB4.out.onlyNil hu).cell i,
      run_str (P := Try.prog) u 26 9 5 Try.underlying26 Try.underlying5 Try.underlying9 (c := c) hb6 rfl⟩)
  have hs0 := HS.out w4 (Only.refl _ _)
  have hs1 := HS.out w4.drew (Only.refl _ _).drew
  obtain ⟨x0, x1, x2, x3, x4, x5, x6, x7, x8, x9⟩ := hs0
  obtain ⟨z0, z1, z2, z3, z4, z5, z6, z7, z8, z9⟩ := hs1
  have hM21 : (21 : Int) < (M : Int) := by omega
  have h5c : (5 : Int) ≤ (c : Int) := by omega
  rw [show ([⟨Ar, cr, ex1⟩] : List ER).length = 1 from rfl]
  dsimp only
  go_wp2_with fail
  go_region_held3 (fun u => u.cell? ⟨b, off, none⟩ = some (.int .i64 6) ∧ u.cell? ⟨b, off + 1, none⟩ = some (.int .i64 16) ∧ u.cell? ⟨b, off + 2, none⟩ = some (.int .i64 0) ∧ u.cell? ⟨b, off + 3, none⟩ = some (.int .i64 0) ∧ u.cell? ⟨b, off + 4, none⟩ = some (.int .i64 0) ∧ u.cell? ⟨b, off + 5, none⟩ = some (.int .i64 0) ∧ u.cell? ⟨b, off + 6, none⟩ = some (.int .i64 0) ∧ u.cell? ⟨b, off + 7, none⟩ = some (.slice Ar 0 cr) ∧
      (∀ i, u.cell? ⟨w.heap.size, i, none⟩ = #[Value.int .i64 6, .int .i64 16, .int .i64 0, .int .i64 0, .int .i64 0, .int .i64 0, .int .i64 0, .slice none 0 0][i]?) ∧
      (convert 26 9 (.slice A 5 c)).run Try.prog u = .ok (.string ⟨#[82, 84, 78, 82, 49]⟩) u) (first | with_reducible assumption | go_keep)
    (first
      | (go_simp; go_at_call 18; refine (HSE.out _ (Only.refl _ _).drew).mono ?_; rintro x w5 ⟨rfl, hO5⟩; have hs2 := HS.out w5 ((Only.refl Nil w4).drew.thenNil hO5)))
  go_wp2_with fail
  go_ret
  exact ⟨rfl, HO4.out.thenNil ((Only.refl Nil w4).drew.thenNil hO5)⟩

end Go.Proofs.Ytkcmdibpndkfbaa
