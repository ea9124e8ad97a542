/-
  The law ReplayBeginning: every beginning of a proper list is proper; what follows behind the first entry that is not proper does not matter.
  No conditions.
-/
import Derived.Test.YtdejceojhkdjnaaRpA
import Derived.Laws.Externs
namespace Go.Proofs.Ytdejceojhkdjnaa
open Go.ChangeShapes Go.WideShapes Go.ChangeAt Go.RowKit Go.Deep

theorem runP_le (s : List PS) (l : List En) : (runP s l).1 ≤ l.length := by
  induction l generalizing s with
  | nil => exact Nat.le_refl _
  | cons x l ih =>
    unfold runP
    split
    · have := ih (entS s x); simp only [List.length_cons]; omega
    · exact Nat.zero_le _
theorem runP_lt {s : List PS} {l : List En} (h : (runP s l).2.1 ≠ 0) : (runP s l).1 < l.length := by
  induction l generalizing s with
  | nil => exact absurd rfl h
  | cons x l ih =>
    unfold runP at h ⊢
    by_cases h0 : entE s x = 0
    · rw [if_pos h0] at h ⊢
      have := ih h
      simp only [List.length_cons]
      omega
    · rw [if_neg h0]
      simp
theorem runP_take_le {s : List PS} {l : List En} {k : Nat} (hk : k ≤ (runP s l).1) : (runP s (l.take k)).1 = k ∧ (runP s (l.take k)).2.1 = 0 := by
  induction l generalizing s k with
  | nil =>
    have h0 : (runP s []).1 = 0 := rfl
    obtain rfl : k = 0 := by omega
    exact ⟨rfl, rfl⟩
  | cons x l ih =>
    rcases k with _ | k
    · exact ⟨rfl, rfl⟩
    · unfold runP at hk
      by_cases h0 : entE s x = 0
      · rw [if_pos h0] at hk
        have := ih (s := entS s x) (k := k) (by simpa using hk)
        rw [List.take_succ_cons, runP, if_pos h0]
        exact ⟨by rw [this.1], this.2⟩
      · rw [if_neg h0] at hk
        omega
theorem runP_app {s : List PS} {l more : List En} {k : Nat} (hk : (runP s l).1 < k) (hl : (runP s l).2.1 ≠ 0) : (runP s (l.take k ++ more)).1 = (runP s l).1 ∧ (runP s (l.take k ++ more)).2.1 = (runP s l).2.1 := by
  induction l generalizing s k with
  | nil => exact absurd rfl hl
  | cons x l ih =>
    rcases k with _ | k
    · omega
    · rw [List.take_succ_cons, List.cons_append]
      unfold runP at hk hl
      by_cases h0 : entE s x = 0
      · rw [if_pos h0] at hk hl
        have := ih (s := entS s x) (k := k) (by simpa using hk) hl
        rw [runP, if_pos h0, runP, if_pos h0]
        exact ⟨by rw [this.1], this.2⟩
      · rw [runP, if_neg h0, runP, if_neg h0]
        exact ⟨rfl, rfl⟩
theorem runP_take_gt {s : List PS} {l : List En} {k : Nat} (hk : (runP s l).1 < k) (hkl : k ≤ l.length) : (runP s (l.take k)).1 = (runP s l).1 ∧ (runP s (l.take k)).2.1 = (runP s l).2.1 := by
  have hl : (runP s l).2.1 ≠ 0 := fun h => by have := runP_ok h; omega
  have := runP_app (more := []) hk hl
  rwa [List.append_nil] at this

theorem entry_info : (Try.prog.info? 42).map (fun i => (i.zero, i.size, i.bytes)) = some (some (.agg #[.int .i64 0, .int .i64 0, .int .i64 0, .int .i64 0, .int .i64 0, .int .i64 0, .int .i64 0, .slice none 0 0]), 8, 80) := by kernel_rfl
theorem flat_one_er (rs : List ER) : ∀ u ∈ rs.flatMap ER.cells, u.oneCell' = true := flat_one ER.cells_one rs

namespace replayBeginning
set_option maxRecDepth 100000 in
set_option maxHeartbeats 4000000 in
theorem walk (A : Option Addr) (ca : Nat) (rs : List ER) (B : Option Addr) (cb : Nat) (ms : List ER) (z : Int) (w : World) (ha : Es w w.heap.size A rs) (hb : Es w w.heap.size B ms) (hal : rs.length ≤ ca) (hca : ca ≤ maxLen) (hbl : ms.length ≤ maxLen)
    (hz : 0 ≤ z ∧ z ≤ 255) : Calls Try.prog 4 #[.slice A rs.length ca, .slice B ms.length cb, .int .u8 z] w (LawPost w) := by
  obtain ⟨j0, hj0, hy0, hy1, hy2⟩ := info_parts entry_info
  have hfa := fun w' (hO : Only Nil w w') => few_any A ca rs w' (ha.next hO) (by omega)
  have hfb := fun w' (hO : Only Nil w w') => few_any B cb ms w' (hb.next hO) hbl
  have HA := Lib.hid ha
  have HB := Lib.hid hb
  obtain ⟨fa, hfa1⟩ : ∃ f, fewE rs = f := ⟨_, rfl⟩
  obtain ⟨fb, hfb1⟩ : ∃ f, fewE ms = f := ⟨_, rfl⟩
  rw [hfa1] at hfa
  rw [hfb1] at hfb
  obtain ⟨N, hN⟩ : ∃ N, rs.length = N := ⟨_, rfl⟩
  obtain ⟨M, hM⟩ : ∃ M, ms.length = M := ⟨_, rfl⟩
  rw [hN] at hfa hal ⊢
  rw [hM] at hfb hbl ⊢
  have HFA := Lib.hid hfa
  have HFB := Lib.hid hfb
  have HFA1 := Lib.hid hfa1
  have HFB1 := Lib.hid hfb1
  have HN := Lib.hid hN
  have HM := Lib.hid hM
  have HZ := Lib.hid hz
  unfold maxLen at hca hbl
  clear ha hb hfa hfb hN hM hfa1 hfb1 hz
  go_enter Try.func4, Try.ntmps4
  go_wp2_with fail
  refine (awake_any _).mono ?_
  rintro x w1 ⟨rfl, hO1⟩
  have HO1 := Lib.hid hO1
  clear hO1
  go_wp2_with fail
  refine (HFA.out _ HO1.out).mono ?_
  rintro x w2 ⟨rfl, rfl⟩
  cases fa
  · go_wp2_with fail
    go_ret
    exact ⟨rfl, HO1.out⟩
  go_wp2_with fail
  refine (HFB.out _ HO1.out).mono ?_
  rintro x w3 ⟨rfl, rfl⟩
  cases fb
  · go_wp2_with fail
    go_ret
    exact ⟨rfl, HO1.out⟩
  have h1 := fewE_of HFA1.out
  have h2 := fewE_of HFB1.out
  have hN40 : N ≤ 40 := by rw [← HN.out]; exact h1.2
  have hM40 : M ≤ 40 := by rw [← HM.out]; exact h2.2
  obtain ⟨n, hn⟩ : ∃ n, (runP initS (rs.map ER.x)).1 = n := ⟨_, rfl⟩
  obtain ⟨e, he⟩ : ∃ e, (runP initS (rs.map ER.x)).2.1 = e := ⟨_, rfl⟩
  obtain ⟨k, hk⟩ : ∃ k : Nat, z % ((N : Int) + 1) = k := Int.eq_ofNat_of_zero_le (Int.emod_nonneg _ (by omega))
  have hkl : k ≤ N := by have := Int.emod_lt_of_pos z (show 0 < (N : Int) + 1 by omega); omega
  have htm : z.tmod ((N : Int) + 1) = k := by rw [Int.tmod_eq_emod_of_nonneg HZ.out.1, hk]
  have hwz : wrap64 z = z := wrap64_fit _ (by have := HZ.out; omega)
  have hwz2 : IntKind.i64.wrap z = z := IntWalk.i64_in _ (by have := HZ.out; omega)
  have hwn : IntKind.i64.wrap ((N : Int) + 1) = (N : Int) + 1 := IntWalk.i64_in _ (by omega)
  have hwk : IntKind.i64.wrap (k : Int) = k := IntWalk.i64_in _ (by omega)
  obtain ⟨m, hm⟩ : ∃ m, (runP initS ((rs.take k).map ER.x)).1 = m := ⟨_, rfl⟩
  obtain ⟨f, hf⟩ : ∃ f, (runP initS ((rs.take k).map ER.x)).2.1 = f := ⟨_, rfl⟩
  have hlen : (rs.map ER.x).length = N := by rw [List.length_map, HN.out]
  have hnN : n ≤ N := by have := runP_le initS (rs.map ER.x); rw [hn, hlen] at this; exact this
  have hen : e = 0 → n = N := fun h => by have := runP_ok (he.trans h); rw [hn, hlen] at this; exact this
  have hne : e ≠ 0 → n < N := fun h => by have := runP_lt (s := initS) (l := rs.map ER.x) (by rw [he]; exact h); rw [hn, hlen] at this; exact this
  have hck : ∀ w', Only Nil w w' → Calls Try.prog 10 #[.slice A N ca] w' fun x w'' => x = .returned (.tuple #[.int .i64 n, .int .i64 e]) ∧ Only Nil w' w'' := fun w' hO => by
    have := check_any A ca rs w' (HA.out.next hO) (by rw [HN.out]; omega)
    unfold CheckPost at this
    rw [hn, he, HN.out] at this
    exact this
  have hck2 : ∀ w', Only Nil w w' → Calls Try.prog 10 #[.slice A k ca] w' fun x w'' => x = .returned (.tuple #[.int .i64 m, .int .i64 f]) ∧ Only Nil w' w'' := fun w' hO => by
    have hl : (rs.take k).length = k := by rw [List.length_take, HN.out]; omega
    have := check_any A ca (rs.take k) w' ((HA.out.next hO).take k (by rw [HN.out]; exact hkl)) (by rw [hl]; omega)
    unfold CheckPost at this
    rw [hm, hf, hl] at this
    exact this
  have hmk1 : k ≤ n → m = k ∧ f = 0 := fun h => by
    have := runP_take_le (s := initS) (l := rs.map ER.x) (k := k) (by rw [hn]; exact h)
    rw [← List.map_take, hm, hf] at this
    exact this
  have hmk2 : n < k → m = n ∧ f = e := fun h => by
    have := runP_take_gt (s := initS) (l := rs.map ER.x) (k := k) (by rw [hn]; exact h) (by rw [hlen]; exact hkl)
    rw [← List.map_take, hm, hf, hn, he] at this
    exact this
  have hcp : ∀ w' b D cd, n < k → w'.ownsRow b 42 8 (.slice D (n + 1 + M) cd) (n + 1 + M) ((rs.take (n + 1) ++ ms).flatMap ER.cells) → Only Nil w w' → Calls Try.prog 10 #[.slice D (n + 1 + M) cd] w' fun x w'' => x = .returned (.tuple #[.int .i64 n, .int .i64 e]) ∧ Only Nil w' w'' := fun w' b D cd hlt hown hO => by
    have hl : (rs.take (n + 1) ++ ms).length = n + 1 + M := by rw [List.length_append, List.length_take, HN.out, HM.out]; omega
    have hes : Es w' w'.heap.size D (rs.take (n + 1) ++ ms) := ⟨by rw [hl]; exact Rd.of_own hown, fun r hr => by
      rcases List.mem_append.1 hr with h3 | h3
      · exact (HA.out.next hO).ok r (List.mem_of_mem_take h3)
      · exact (HB.out.next hO).ok r h3⟩
    have := check_any D cd _ w' hes (by rw [hl]; omega)
    unfold CheckPost at this
    have hap := runP_app (s := initS) (l := rs.map ER.x) (more := ms.map ER.x) (k := n + 1) (by rw [hn]; omega) (by rw [he]; intro h; have := hen h; omega)
    rw [← List.map_take, ← List.map_append, hn, he] at hap
    rw [hl, hap.1, hap.2] at this
    exact this
  have HCK := Lib.hid hck
  have HCK2 := Lib.hid hck2
  have HCP := Lib.hid hcp
  have HMK1 := Lib.hid hmk1
  have HMK2 := Lib.hid hmk2
  have HEN := Lib.hid hen
  have HNE := Lib.hid hne
  clear h1 h2 hn he hm hf hlen hck hck2 hcp hmk1 hmk2 hk hen hne
  go_wp2_with fail
  refine (HCK.out _ HO1.out).mono ?_
  rintro x w4 ⟨rfl, hO4⟩
  have HO4 := Lib.hid (HO1.out.thenNil hO4)
  clear hO4
  have hkc : (k : Int) ≤ ca := by omega
  have hkn : (k : Int) ≤ N := by omega
  have hnc : (N : Int) ≤ ca := by omega
  go_wp2_with fail
  refine (HCK2.out _ HO4.out).mono ?_
  rintro x w5 ⟨rfl, hO5⟩
  have HO5 := Lib.hid (HO4.out.thenNil hO5)
  clear hO5
  have hnn : (n : Int) ≤ N := by omega
  by_cases h0 : e = 0
  · have hnN2 := HEN.out h0
    subst h0
    subst hnN2
    obtain ⟨rfl, rfl⟩ := HMK1.out hkl
    go_wp2_with fail
    go_ret
    exact ⟨by first | rfl | simp, HO5.out⟩
  · have hlt := HNE.out h0
    have hb1 : (e == 0) = false := beq_false_of_ne h0
    have hb2 : ((n : Int) == (N : Int)) = false := beq_false_of_ne (by omega)
    by_cases hkn2 : k ≤ n
    · obtain ⟨hmk, hf0⟩ := HMK1.out hkn2
      have hki : (k : Int) ≤ n := by omega
      subst hf0
      subst hmk
      clear h0
      go_wp2_with fail
      go_ret
      exact ⟨rfl, HO5.out⟩
    · obtain ⟨hmk, hf0⟩ := HMK2.out (by omega)
      have hki : ¬ (k : Int) ≤ n := by omega
      have hnk : n < k := by omega
      subst hf0
      subst hmk
      have hwm : IntKind.i64.wrap ((m : Int) + 1) = (m : Int) + 1 := IntWalk.i64_in _ (by omega)
      have hmc : (m : Int) + 1 ≤ ca := by omega
      have hm1 : m + 1 ≤ N := by omega
      have HM1 : Hid (m + 1 ≤ N ∧ N ≤ 40 ∧ M ≤ 40) := Lib.hid ⟨hm1, hN40, hM40⟩
      have htl : (rs.take (m + 1)).length = m + 1 := by rw [List.length_take, HN.out]; omega
      have HTL := Lib.hid htl
      have HNK := Lib.hid hnk
      have hms : ((m : Int) + 1).toNat = m + 1 := by omega
      have hm0 : (0 : Int) ≤ (m : Int) + 1 := by omega
      clear h0 htl hnk
      go_wp2_with (at_builtin; go_must (refine wpList_append_rd _ rfl (.tmp 70) (.tmp 74) _ rfl w5.heap.size 42 j0 _ 8 80 Try.underlying22 hj0 hy0 hy1 hy2 rfl (by omega) (.slice (some ⟨w5.heap.size, 0, none⟩) 0 0) 0 [] rfl ?qown w.heap.size A (m + 1) ca ((rs.take (m + 1)).flatMap ER.cells) rfl ?qrd (flat_one_er _) (m + 1) (by omega) _ rfl ?q63 ?qby ?qbase ?_))
      case qown => exact World.ownsRow_lit w5 #[] 0 (Nat.le_refl _) (by unfold maxLen; omega) rfl
      case qrd => rw [← flat_take ER.cells_len]; exact (Rd.onlyNil HA.out.rd ((HO5.out).alloc _) (Nat.le_refl _)).take (by rw [HN.out]; exact HM1.out.1)
      case q63 => have := HM1.out; unfold maxLen; omega
      case qby => have := HM1.out; omega
      case qbase => simp
      intro D1 d1 w6 hd1 hown6 hgr6 hat6
      have hO6 : Only Nil w5 w6 := ((Only.refl _ _).alloc _).grown hgr6 (fun z hz => .inr (Nat.le_of_eq (by simpa [Value.ownBlock] using hz)))
      have HO6 := Lib.hid hO6
      have HW6 : Hid (w6.ownsRow w5.heap.size 42 8 (.slice D1 (m + 1) d1) (m + 1) ((rs.take (m + 1)).flatMap ER.cells)) := Lib.hid (by simpa using hown6)
      clear hO6 hown6 hgr6 hat6 hd1
      go_wp2_with (at_builtin; go_must (refine wpList_append_rd _ rfl (.tmp 75) (.tmp 76) _ rfl w5.heap.size 42 j0 _ 8 80 Try.underlying22 hj0 hy0 hy1 hy2 rfl (by omega) (.slice D1 (m + 1) d1) (m + 1) ((rs.take (m + 1)).flatMap ER.cells) rfl ?rown w.heap.size B M cb (ms.flatMap ER.cells) rfl ?rrd (flat_one_er _) (m + 1 + M) rfl ((rs.take (m + 1) ++ ms).flatMap ER.cells) (by rw [List.flatMap_append]) ?r63 ?rby ?rbase ?_))
      case rown => exact HW6.out
      case rrd => rw [← HM.out]; exact Rd.onlyNil HB.out.rd (HO5.out.thenNil HO6.out) (Nat.le_refl _)
      case r63 => have := HM1.out; unfold maxLen; omega
      case rby => have := HM1.out; omega
      case rbase => exact HO6.out.size
      intro D2 d2 w7 hd2 hown7 hgr7 hat7
      have hO7 : Only Nil w5 w7 := HO6.out.trans (Only.of_grown hgr7) (fun z hz => .inr (ownBlock_ge HW6.out hz))
      have HO7 := Lib.hid (HO5.out.thenNil hO7)
      have hown8 := hown7
      rw [← List.flatMap_append] at hown8
      have HW7 := Lib.hid hown8
      clear hO7 hown7 hown8 hgr7 hat7 hd2
      go_wp2_with fail
      refine (HCP.out _ _ D2 d2 HNK.out HW7.out HO7.out).mono ?_
      rintro x w8 ⟨rfl, hO8⟩
      have HO8 := Lib.hid (HO7.out.thenNil hO8)
      clear hO8
      go_wp2_with fail
      go_ret
      exact ⟨by simp, HO8.out⟩

set_option maxRecDepth 100000 in
theorem from_args {H : Type} {enc : TypeId × Value → H} (W : World) (base : Nat) (args : Array Value) (ds : List (DataW H)) (ps : List MemPlace)
    (hval0 : ∀ (j : Nat) t v, Try.f4.params[j]? = some t → args[j]? = some v → Value.okWide Try.prog W .any base t v)
    (hA : DataW.TrodAll enc Try.prog W 0 (fun _ => true) true Try.f4.params.toList args.toList ds ps) (_hlt : ∀ x ∈ ps, x.block < W.heap.size)
    (hsz : (DataW.weightsEach Try.prog Try.f4.params.toList ds).all (· ≤ reachBytes) = true) : Calls Try.prog 4 args W (LawPost W) := by
  have hval := hval0
  rw [Try.params4] at hA hval hsz
  obtain ⟨v0, vs0, d0, ds0, p0, q0, hargs, rfl, rfl, h0, r0⟩ := trodAll_cons hA
  obtain ⟨v1, vs1, d1, ds1, p1, q1, rfl, rfl, rfl, h1, r1⟩ := trodAll_cons r0
  obtain ⟨v2, vs2, d2, ds2, p2, q2, rfl, rfl, rfl, h2, r2⟩ := trodAll_cons r1
  obtain ⟨rfl, rfl, rfl⟩ := trodAll_nil r2
  obtain rfl : args = #[v0, v1, v2] := by cases args; simp_all
  obtain ⟨A, rs, ca, rfl, h1', h2', hE⟩ := open_entries (hval 0 _ v0 rfl rfl) h0
  obtain ⟨B, ms, cb, rfl, h3', h4', hM⟩ := open_entries (hval 1 _ v1 rfl rfl) h1
  obtain ⟨n, rfl, rfl, rfl, wn⟩ := open_int Try.underlying5 (hval 2 _ v2 rfl rfl) h2
  exact walk A ca rs B cb ms n W hE hM h1' h2' (by omega) (wf_u8 wn)

set_option maxRecDepth 100000 in
theorem over : Rows.replayBeginningRow.holds Try.pinned (OpenSpec.ofChange Rows.replayBeginningSpec) :=
  OpenClaim.holds_of_wide 4 Try.f4 rfl rfl rfl rfl rfl rfl rfl ⟨rfl, rfl, rfl, rfl, rfl⟩ rfl rfl rfl rfl rfl (by kernel_rfl) Try.func4 (by kernel_rfl)
    (of_decide_eq_true (by kernel_rfl)) (by unfold Func.isWrapper; first | (rw [if_pos (by decide +kernel)]; kernel_rfl) | (rw [if_neg (by decide +kernel)]; exact ⟨rfl, rfl⟩))
    (fun os started H enc _ => law_lifted (f := 4) (F := Try.f4) (s := Rows.replayBeginningSpec) os started H enc (by kernel_rfl) Try.func4 rfl rfl (by kernel_rfl) (by kernel_rfl)
      (fun ds hd => by match ds, hd with | [_, _, _], _ => rfl)
      (ChangeSpec.witness6 (enc := enc) (C := Try.checked) false ⟨#[], #[.slice none 0 0, .slice none 0 0, .int .u8 0], []⟩ 8 (by kernel_rfl) (by kernel_rfl) (by kernel_rfl) (by kernel_rfl))
      (fun W base args ds ps hv hA hlt hsz => from_args W base args ds ps hv hA hlt hsz))

/-- The statement. -/
theorem proved : Rows.ReplayBeginningSaid := over

end replayBeginning
end Go.Proofs.Ytdejceojhkdjnaa
