/-
  The example that every statement of layer 54 checks first: it holds. Few.
  No conditions.
-/
import Derived.Test.YtdejceojhkdjnaaRpW7
namespace Go.Proofs.Ytdejceojhkdjnaa
open Go.RowKit

def exL : List ER := [⟨none, 0, ⟨1, 16, 1, 0, 0, 0, 0, []⟩⟩, ⟨none, 0, ⟨3, 17, 0, 0, 0, 0, 16, []⟩⟩, ⟨none, 0, ⟨1, 17, 0, 0, 0, 0, 0, []⟩⟩, ⟨none, 0, ⟨2, 16, 1, 0, 0, 0, 17, []⟩⟩, ⟨none, 0, ⟨4, 17, 0, 0, 0, 0, 0, []⟩⟩, ⟨none, 0, ⟨6, 17, 0, 0, 0, 0, 0, []⟩⟩]
theorem ex_plain : (runP initS (exL.map ER.x)).1 = 6 ∧ (runP initS (exL.map ER.x)).2.1 = 0 ∧ aliveP (runP initS (exL.map ER.x)).2.2 32 = [16] := ⟨by kernel_rfl, by kernel_rfl, by kernel_rfl⟩
theorem ex_calls : (callsP (exL.map ER.x) 6).length = 2 := by kernel_rfl

theorem entry_zero (w : World) : (zeroValue 42).run Try.prog w = .ok (.agg #[.int .i64 0, .int .i64 0, .int .i64 0, .int .i64 0, .int .i64 0, .int .i64 0, .int .i64 0, .slice none 0 0]) w := by kernel_rfl

theorem ex_es (w : World) (o : Obj) (ho : o = .cells (exL.flatMap ER.cells).toArray 42) : Es (w.alloc o) (w.alloc o).heap.size (some ⟨w.heap.size, 0, none⟩) exL := by
  subst ho
  refine ⟨⟨rfl, fun _ => ⟨_, 0, rfl, by simp, fun j u hj => ?_⟩⟩, fun r hr => ?_⟩
  · rw [Nat.zero_add, (Blk.new w _ _).cell j, List.getElem?_toArray]
    exact hj
  · simp only [exL, List.mem_cons, List.not_mem_nil, or_false] at hr
    rcases hr with rfl | rfl | rfl | rfl | rfl | rfl
    all_goals exact ⟨⟨by unfold I64; decide, by unfold I64; decide, by unfold I64; decide, by unfold I64; decide, by unfold I64; decide, by unfold I64; decide, by unfold I64; decide⟩, Nat.le_refl _, Nat.zero_le _, Bs.nil _ _ _⟩

theorem example_any (w : World) : Calls Try.prog 23 #[] w fun e w' => ∃ g, e = .returned (.slice (some ⟨g, 0, none⟩) 6 6) ∧ Es w' w'.heap.size (some ⟨g, 0, none⟩) exL ∧ Only Nil w w' := by
  have hz := entry_zero
  go_enter Try.func23, Try.ntmps23
  go_wp2_with fail
  go_ret
  exact ⟨w.heap.size, rfl, ex_es w _ rfl, (Only.refl _ _).alloc _⟩

set_option maxRecDepth 100000 in
theorem awake_any (w : World) : Calls Try.prog 8 #[] w (LawPost w) := by
  have hch := fun (g : Nat) (w' : World) (h : Es w' w'.heap.size (some ⟨g, 0, none⟩) exL) => check_any (some ⟨g, 0, none⟩) 6 exL w' h (by decide)
  have hal := fun (g : Nat) (w' : World) (h : Es w' w'.heap.size (some ⟨g, 0, none⟩) exL) => alive_any (some ⟨g, 0, none⟩) 6 exL w' h (by decide)
  have hca := fun (g : Nat) (w' : World) (h : Es w' w'.heap.size (some ⟨g, 0, none⟩) exL) => calls_any (some ⟨g, 0, none⟩) 6 exL w' h (by decide) (fun r hr => by
    simp only [exL, List.mem_cons, List.not_mem_nil, or_false] at hr
    rcases hr with rfl | rfl | rfl | rfl | rfl | rfl <;> simp)
  obtain ⟨e1, e2, e3⟩ := ex_plain
  unfold CheckPost at hch
  unfold AlivePost at hal
  rw [e1, e2] at hch
  rw [e2, e3] at hal
  have HCH := Lib.hid hch
  have HAL := Lib.hid hal
  have HCA := Lib.hid hca
  clear hch hal hca e1 e2 e3
  go_enter Try.func8, Try.ntmps8
  go_wp2_with fail
  refine (example_any _).mono ?_
  rintro x w1 ⟨g1, rfl, hE1, hO1⟩
  have HE1 := Lib.hid hE1
  have HO1 := Lib.hid hO1
  clear hE1 hO1
  go_wp2_with fail
  refine (HCH.out g1 _ HE1.out).mono ?_
  rintro x w2 ⟨rfl, hO2⟩
  have HO2 := Lib.hid (HO1.out.thenNil hO2)
  clear hO2
  go_wp2_with fail
  refine (example_any _).mono ?_
  rintro x w3 ⟨g3, rfl, hE3, hO3⟩
  have HE3 := Lib.hid hE3
  have HO3 := Lib.hid (HO2.out.thenNil hO3)
  clear hE3 hO3
  go_wp2_with fail
  refine (HAL.out g3 _ HE3.out).mono ?_
  rintro x w4 ⟨hO4, _, hy⟩
  obtain ⟨A4, c4, rfl, hown⟩ := hy (by first | trivial | rfl)
  have HO4 := Lib.hid (HO3.out.thenNil hO4)
  obtain ⟨g4, rfl, _, _, hc4⟩ := own_cell (j := 0) (u := .int .i64 16) hown rfl
  have HC4 := Lib.hid hc4
  clear hO4 hy hown
  go_wp2_with fail
  refine (example_any _).mono ?_
  rintro x w5 ⟨g5, rfl, hE5, hO5⟩
  have HE5 := Lib.hid hE5
  have HO5 := Lib.hid (HO4.out.thenNil hO5)
  clear hE5 hO5 hc4
  go_wp2_with fail
  refine (HCA.out g5 _ HE5.out).mono ?_
  rintro x w6 ⟨A6, c6, rs, rfl, hrs, hrow, _, hO6⟩
  have hl : rs.length = 2 := by
    have := congrArg List.length hrs
    rw [List.length_map] at this
    rw [this]
    exact ex_calls
  rw [hl]
  have HO6 := Lib.hid (HO5.out.thenNil hO6)
  clear hrs hrow hO6 hl
  go_wp2_with fail
  go_ret
  exact ⟨rfl, HO6.out⟩

def fewE (rs : List ER) : Bool := rs.all (fun r => decide (r.x.data.length ≤ 200)) && decide (rs.length ≤ 40)
theorem fewE_of {rs : List ER} (h : fewE rs = true) : (∀ r ∈ rs, r.x.data.length ≤ 200) ∧ rs.length ≤ 40 := by
  unfold fewE at h
  simp only [Bool.and_eq_true, List.all_eq_true, decide_eq_true_eq] at h
  exact h

set_option maxRecDepth 100000 in
theorem few_any (A : Option Addr) (c : Nat) (rs : List ER) (w : World) (h : Es w w.heap.size A rs) (hl : rs.length ≤ maxLen) :
    Calls Try.prog 9 #[.slice A rs.length c] w fun e w' => e = .returned (.bool (fewE rs)) ∧ w' = w := by
  unfold maxLen at hl
  obtain ⟨R, hR⟩ : ∃ R, fewE rs = R := ⟨_, rfl⟩
  rw [hR]
  obtain ⟨N, hN⟩ : ∃ N, rs.length = N := ⟨_, rfl⟩
  rw [hN] at hl ⊢
  have HN := Lib.hid hN
  have HR := Lib.hid hR
  have HE := Lib.hid h
  clear hN hR h
  go_enter Try.func9, Try.ntmps9
  go_wp2_with fail
  go_loop [3] (fun i => ∃ k : Nat, k ≤ N ∧ i = .int .i64 k ∧ ∀ r ∈ rs.take k, r.x.data.length ≤ 200) (fun i => N - (intOf i).toNat)
  case atStart => exact ⟨0, Nat.zero_le _, rfl, fun r hr => absurd hr (by simp)⟩
  case round =>
    obtain ⟨k, hk, rfl, hall⟩ := hrel
    have HA := Lib.hid hall
    clear hall
    by_cases hlt : k < N
    · obtain ⟨r, hr⟩ : ∃ r, rs[k]? = some r := ⟨rs[k]'(by rw [HN.out]; exact hlt), List.getElem?_eq_getElem _⟩
      obtain ⟨b, off, rfl, hb, hc⟩ := HE.out.at_ hr
      have c7 : w.cell? ⟨b, off + k * 8 + 7, none⟩ = some (.slice r.A r.x.data.length r.c) := hc 7 _ rfl
      obtain ⟨hkl, hget⟩ := List.getElem?_eq_some_iff.1 hr
      have HX := Lib.hid hr
      have HG := Lib.hid hget
      clear hc hr hget
      by_cases h2 : r.x.data.length ≤ 200
      · have h2' : ¬ (200 : Int) < r.x.data.length := by omega
        go_wp2_with fail
        go_round
        case rel =>
          refine ⟨k + 1, by omega, by go_num, fun s hs => ?_⟩
          rw [List.take_succ_eq_append_getElem hkl, HG.out] at hs
          rcases List.mem_append.1 hs with h3 | h3
          · exact HA.out s h3
          · rw [List.mem_singleton] at h3
            subst h3
            exact h2
        case measure => simp [intOf]; omega
      · have h2' : (200 : Int) < r.x.data.length := by omega
        have hf : R = false := by
          rw [← HR.out]
          unfold fewE
          have : rs.all (fun r => decide (r.x.data.length ≤ 200)) = false := by
            rw [List.all_eq_false]
            exact ⟨r, List.mem_of_getElem? HX.out, by simpa using h2⟩
          rw [this]
          rfl
        subst hf
        go_wp2_with fail
        go_ret
        exact ⟨rfl, rfl⟩
    · have hkN : k = N := by omega
      subst hkN
      have hall : rs.all (fun r => decide (r.x.data.length ≤ 200)) = true := by
        rw [List.all_eq_true]
        intro r hr
        have := HA.out r (by rw [List.take_of_length_le (by rw [HN.out]; exact Nat.le_refl _)]; exact hr)
        simpa using this
      have hf : R = decide ((k : Int) ≤ 40) := by
        rw [← HR.out]
        unfold fewE
        rw [hall, HN.out, Bool.true_and]
        by_cases h : k ≤ 40
        · rw [decide_eq_true h, decide_eq_true (by omega)]
        · rw [decide_eq_false h, decide_eq_false (by omega)]
      have HF := Lib.hid hf
      clear hall hf
      go_wp2_with fail
      go_ret
      exact ⟨by rw [HF.out]; rfl, rfl⟩

end Go.Proofs.Ytdejceojhkdjnaa
