/-
  The walks of slices.Clone at entries and of record.Append.
  Conditions: the bytes and the entry can be read; at most 400 entries are read of the bytes.
-/
import Derived.Test.YtkcmdibpndkfbaaRcR3
import Derived.Test.YtkcmdibpndkfbaaRcC3
namespace Go.Proofs.Ytkcmdibpndkfbaa
open Go.RowKit

set_option maxRecDepth 100000 in
set_option maxHeartbeats 400000 in
theorem eclone_any (A : Option Addr) (n c : Nat) (xs : List Value) (w : World) (h : Rd w w.heap.size 8 A n xs) (h1 : ∀ u ∈ xs, u.oneCell' = true) (hl : n ≤ 1000) :
    Calls Try.prog 26 #[.slice A n c] w fun e w' => ∃ A2 c2, e = .returned (.slice A2 n c2) ∧ n ≤ c2 ∧ w'.ownsRow w.heap.size 39 8 (.slice A2 n c2) n xs ∧ Only Nil w w' := by
  obtain ⟨i0, hi0, hz0, hz1, hz2⟩ := info_parts entry_info
  rcases A with _ | a
  · have hn : n = 0 := by
      rcases Nat.eq_zero_or_pos n with h0 | h0
      · exact h0
      · obtain ⟨_, _, h2, _⟩ := h.2 h0
        cases h2
    subst hn
    have hnil : xs = [] := List.eq_nil_of_length_eq_zero (by have := h.1; omega)
    subst hnil
    clear h
    have hee : ∀ w : World, (binOp .eql 22 (.slice none 0 c) (.slice none 0 0)).run Try.prog w = .ok (.bool true) w := fun w => Lib.run_eql_slice_nil (P := Try.prog) w 22 39 none 0 c 0 0 Try.underlying22
    go_enter Try.func26, Try.ntmps26
    go_wp2_with fail
    go_ret
    exact ⟨none, 0, rfl, Nat.le_refl _, World.ownsRow_nil _ _ _ _, Only.refl _ _⟩
  have hee : ∀ w : World, (binOp .eql 22 (.slice (some a) n c) (.slice none 0 0)).run Try.prog w = .ok (.bool false) w := fun w => Lib.run_eql_slice_nil (P := Try.prog) w 22 39 (some a) n c 0 0 Try.underlying22
  have H := Lib.hid h
  have H1 := Lib.hid h1
  clear h h1
  go_enter Try.func26, Try.ntmps26
  go_wp2_with (at_builtin; go_must (refine wpList_append_rd _ rfl (.tmp 5) (.tmp 6) _ rfl w.heap.size 39 i0 _ 8 80 Try.underlying22 hi0 hz0 hz1 hz2 rfl (by omega) (.slice (some ⟨w.heap.size, 0, none⟩) 0 0) 0 [] rfl ?qown w.heap.size (some a) n c xs rfl ?qrd H1.out n (by omega) _ rfl ?q63 ?qby ?qbase ?_))
  case qown => exact World.ownsRow_lit w #[] 0 (Nat.le_refl _) (by unfold maxLen; omega) rfl
  case qrd => exact Rd.onlyNil H.out ((Only.refl _ _).alloc _) (Nat.le_refl _)
  case q63 => unfold maxLen; omega
  case qby => omega
  case qbase => simp
  intro A4 c4 w4 hc4 hown4 hgr4 hat4
  go_wp2_with fail
  go_ret
  exact ⟨A4, c4, rfl, hc4, by simpa using hown4, ((Only.refl _ _).alloc _).grown hgr4 (fun q hq => .inr (Nat.le_of_eq (by simpa [Value.ownBlock] using hq)))⟩

/-- What record.Append answers. -/
def ApPost (r : List En × Nat × Int) (x : En) (w : World) (e : Ending) (w' : World) : Prop :=
  Only Nil w w' ∧ ((r.2.2 ≠ 0 ∧ e = .returned (.tuple #[.slice none 0 0, .int .i64 4])) ∨ (r.2.2 = 0 ∧ vE x = false ∧ e = .returned (.tuple #[.slice none 0 0, .int .i64 1])) ∨
    (r.2.2 = 0 ∧ vE x = true ∧ WrPost (r.1 ++ [x]) w e w'))

/-- A list of entries of the call's own. -/
def OwnRE (base n : Nat) (xs : List Value) : VPred := fun v w => ∃ A c, v = .slice A n c ∧ n ≤ c ∧ w.ownsRow base 39 8 (.slice A n c) n xs
theorem Stays.ownRE {base n : Nat} {xs : List Value} : Stays Nil (OwnRE base n xs) := fun _ _ _ hO h => by
  obtain ⟨A, c, h1, h2, h3⟩ := h
  exact ⟨A, c, h1, h2, own_onlyNil h3 hO⟩
def NewRE (base : Nat) (cs : Array Value) : VPred := fun v w => ∃ g, v = .slice (some ⟨g, 0, none⟩) 1 1 ∧ base ≤ g ∧ Blk w g 39 cs
theorem WrPost.next {l : List En} {w : World} {e : Ending} {w' w'' : World} (h : WrPost l w e w') (hO : Only Nil w' w'') : WrPost l w e w'' := by
  obtain ⟨h1, h2⟩ := h
  refine ⟨h1.thenNil hO, ?_⟩
  rcases h2 with ⟨h2, A, c, h3, h4⟩ | h2
  · exact .inl ⟨h2, A, c, h3, h4.onlyNil hO⟩
  · exact .inr h2
theorem WrPost.base {l : List En} {w u : World} {e : Ending} {w' : World} (h : WrPost l u e w') (hO : Only Nil w u) : WrPost l w e w' := by
  obtain ⟨h1, h2⟩ := h
  refine ⟨hO.thenNil h1, ?_⟩
  rcases h2 with ⟨h2, A, c, h3, h4⟩ | h2
  · refine .inl ⟨h2, A, c, h3, ?_⟩
    have hs := hO.size
    rcases h4 with h4 | ⟨g, fz, e1, e2, hb, e3⟩
    · exact .inl (own_base h4 hs)
    · exact .inr ⟨g, fz, e1, e2, by omega, e3⟩
  · exact .inr h2

set_option maxRecDepth 100000 in
set_option maxHeartbeats 4000000 in
theorem append_any (A : Option Addr) (c : Nat) (l : List UInt8) (r : ER) (w : World) (hb : Bs w w.heap.size A l) (hl : l.length ≤ 1000000) (hlc : l.length ≤ c) (hr : ER.ok w w.heap.size r) (hes : (readR l).1.length ≤ 400) :
    Calls Try.prog 14 #[.slice A l.length c, .agg r.cells.toArray] w (ApPost (readR l) r.x w) := by
  obtain ⟨i0, hi0, hz0, hz1, hz2⟩ := info_parts entry_info
  obtain ⟨w1, hw1⟩ : ∃ w1, w1 = w.alloc (.cells r.cells.toArray 39) := ⟨_, rfl⟩
  have hO1 : Only Nil w w1 := by rw [hw1]; exact (Only.refl _ _).alloc _
  have hk1 : Blk w1 w.heap.size 39 r.cells.toArray := by rw [hw1]; exact Blk.new _ _ _
  have hrd := read_any A c l w1 ((hb.onlyNil hO1 (Nat.le_refl _)).up hO1.size) hl hlc
  obtain ⟨⟨es, used, q⟩, hR⟩ : ∃ R, readR l = R := ⟨_, rfl⟩
  rw [hR] at hrd hes ⊢
  obtain ⟨N, hN⟩ : ∃ N, l.length = N := ⟨_, rfl⟩
  rw [hN] at hrd ⊢
  obtain ⟨x, hx⟩ : ∃ x, r.x = x := ⟨_, rfl⟩
  have HRD := Lib.hid hrd
  have HW1 := Lib.hid hw1
  have HO1 := Lib.hid hO1
  have HK1 := Lib.hid hk1
  have HES := Lib.hid hes
  have HOKR := Lib.hid ((hr.onlyNil hO1 (Nat.le_refl _)).up hO1.size)
  have HX := Lib.hid hx
  have HONE := Lib.hid (ER.cells_one r)
  rw [hx]
  clear hrd hO1 hes hr hb hl hlc hR hN hx hw1 hk1
  obtain ⟨Ad, cd, ⟨kind, task, call, a0, a1, a2, result, data⟩⟩ := r
  unfold ER.cells at HW1 HK1 HONE ⊢
  dsimp only at HW1 HK1 HONE ⊢
  by_cases hq : q = 0
  rotate_left
  · have hqb : (q != 0) = true := by simp [hq]
    have hqb2 : (q == 0) = false := by simp [hq]
    have HQ := Lib.hid hq
    clear hq
    go_enter Try.func14, Try.ntmps14
    go_upto_region 1 with fail
    rw [← HW1.out]
    go_wp2_with fail
    refine HRD.out.mono ?_
    rintro e w2 ⟨Ao, co, rs, hmap, rfl, hco, hel, hO2⟩
    have HO2 := Lib.hid (HO1.out.thenNil hO2)
    clear hmap hco hel hO2
    go_wp2_with fail
    refine bodyPost_ret (v := .tuple #[.slice none 0 0, .int .i64 4]) (by simp [results, Try.results14, go_sem]) rfl ?_
    exact ⟨HO2.out.thenNil (by (repeat' (first | with_reducible exact Only.refl _ _ | with_reducible refine Only.setCell ?_ (Or.inl ?_) _ | with_reducible refine Only.drewN ?_ _ | with_reducible refine Only.drew ?_ | with_reducible refine Only.alloc ?_ _ | (fail)))), .inl ⟨HQ.out, rfl⟩⟩
  subst hq
  obtain ⟨V, hV⟩ : ∃ V, vE x = V := ⟨_, rfl⟩
  have HV := Lib.hid hV
  clear hV
  go_enter Try.func14, Try.ntmps14
  go_upto_region 1 with fail
  rw [← HW1.out]
  go_wp2_with fail
  refine HRD.out.mono ?_
  rintro e w2 ⟨Ao, co, rs, hmap, rfl, hco, hel, hO2⟩
  dsimp only at hmap
  obtain ⟨M, hM⟩ : ∃ M, rs.length = M := ⟨_, rfl⟩
  rw [hM] at hco ⊢
  have hM4 : M ≤ 400 := by have h1 := congrArg List.length hmap; rw [List.length_map] at h1; have h2 : es.length ≤ 400 := HES.out; omega
  have hva := valid_any ⟨Ad, cd, ⟨kind, task, call, a0, a1, a2, result, data⟩⟩ w2
  have hvx : (⟨kind, task, call, a0, a1, a2, result, data⟩ : En) = x := HX.out
  unfold ER.cells at hva
  dsimp only at hva
  rw [hvx, HV.out] at hva
  have HVA := Lib.hid hva
  have k2 : ∀ i, w2.cell? ⟨w.heap.size, i, none⟩ = #[Value.int .i64 kind, .int .i64 task, .int .i64 call, .int .i64 a0, .int .i64 a1, .int .i64 a2, .int .i64 result, .slice Ad data.length cd][i]? := fun i => (HK1.out.onlyNil hO2).cell i
  have HK2 := Lib.hid (HK1.out.onlyNil hO2)
  have HO2 := Lib.hid (HO1.out.thenNil hO2)
  have HOKR2 := Lib.hid ((HOKR.out.onlyNil hO2 (Nat.le_refl _)).up hO2.size)
  have HMAP := Lib.hid hmap
  have HM := Lib.hid hM
  have HEL := Lib.hid hel
  have HCO := Lib.hid hco
  clear hmap hM hel hco hO2 hva hvx
  go_wp2_with fail
  refine HVA.out.mono ?_
  rintro e w3 ⟨rfl, hO3⟩
  have HK3 := Lib.hid (HK2.out.onlyNil hO3)
  have HEL3 := Lib.hid (HEL.out.onlyNil hO3)
  have HOKR3 := Lib.hid ((HOKR2.out.onlyNil hO3 (Nat.le_refl _)).up hO3.size)
  have HO3 := Lib.hid (HO2.out.thenNil hO3)
  clear hO3 k2
  cases V
  · go_wp2_with fail
    refine bodyPost_ret (v := .tuple #[.slice none 0 0, .int .i64 1]) (by simp [results, Try.results14, go_sem]) rfl ?_
    exact ⟨HO3.out.thenNil (by (repeat' (first | with_reducible exact Only.refl _ _ | with_reducible refine Only.setCell ?_ (Or.inl ?_) _ | with_reducible refine Only.drewN ?_ _ | with_reducible refine Only.drew ?_ | with_reducible refine Only.alloc ?_ _ | (fail)))), .inr (.inl ⟨rfl, HV.out, rfl⟩)⟩
  · have hrd3 : Rd w3 w3.heap.size 8 Ao M (rs.flatMap ER.cells) := by
      have := Rd.of_own HEL3.out.row
      rwa [HM.out] at this
    have hone : ∀ v ∈ rs.flatMap ER.cells, v.oneCell' = true := fun v hv => by
      obtain ⟨q, _, hq⟩ := List.mem_flatMap.1 hv
      exact ER.cells_one q v hq
    have hcells : rs.flatMap ER.cells ++ [Value.int .i64 kind, .int .i64 task, .int .i64 call, .int .i64 a0, .int .i64 a1, .int .i64 a2, .int .i64 result, .slice Ad data.length cd] = (rs ++ [(⟨Ad, cd, ⟨kind, task, call, a0, a1, a2, result, data⟩⟩ : ER)]).flatMap ER.cells := by simp [ER.cells]
    obtain ⟨rs2, hrs2⟩ : ∃ rs2, rs ++ [(⟨Ad, cd, ⟨kind, task, call, a0, a1, a2, result, data⟩⟩ : ER)] = rs2 := ⟨_, rfl⟩
    have hlen2 : rs2.length = M + 1 := by rw [← hrs2, List.length_append, HM.out]; rfl
    have hmap2 : rs2.map ER.x = es ++ [x] := by
      rw [← hrs2, List.map_append, HMAP.out, ← HX.out]
      rfl
    have hok2 : ∀ u, Only Nil w3 u → ∀ z ∈ rs2, ER.ok u u.heap.size z := fun u hO z hz => by
      rw [← hrs2] at hz
      rcases List.mem_append.1 hz with hz | hz
      · exact ((HEL3.out.es.ok z hz).onlyNil hO (Nat.le_refl _)).up hO.size
      · rw [List.mem_singleton] at hz
        subst hz
        exact (HOKR3.out.onlyNil hO (Nat.le_refl _)).up hO.size
    rw [hrs2] at hcells
    have HRD3 := Lib.hid hrd3
    have HONE3 := Lib.hid hone
    have HCELLS := Lib.hid hcells
    have HLEN2 := Lib.hid hlen2
    have HMAP2 := Lib.hid hmap2
    have HOK2 := Lib.hid hok2
    clear hrd3 hone hcells hlen2 hmap2 hok2 hrs2
    go_upto_region 6 with fail
    have HIN : Hid (∀ (L : Nat → Bool) (vs : Nat → Value) (u u' : World), Only Nil u u' → (fun L vs u => Only Nil w3 u ∧ (L 1 = true → L 4 = false → OwnRE w3.heap.size M (rs.flatMap ER.cells) (vs 1) u) ∧ (L 3 = true → L 4 = false → NewRE w3.heap.size #[Value.int .i64 kind, .int .i64 task, .int .i64 call, .int .i64 a0, .int .i64 a1, .int .i64 a2, .int .i64 result, .slice Ad data.length cd] (vs 3) u) ∧ (L 4 = true → L 5 = false → OwnRE w3.heap.size (M + 1) (rs2.flatMap ER.cells) (vs 4) u) ∧ (L 5 = true → ∃ a b, vs 5 = .tuple #[a, b] ∧ WrPost (es ++ [x]) w (.returned (.tuple #[a, b])) u) ∧ (L 6 = true → L 5 = true ∧ ∀ a b, vs 5 = .tuple #[a, b] → vs 6 = a) ∧ (L 7 = true → L 5 = true ∧ ∀ a b, vs 5 = .tuple #[a, b] → vs 7 = b) ∧ (L 5 = true → L 4 = true)) L vs u → (fun L vs u => Only Nil w3 u ∧ (L 1 = true → L 4 = false → OwnRE w3.heap.size M (rs.flatMap ER.cells) (vs 1) u) ∧ (L 3 = true → L 4 = false → NewRE w3.heap.size #[Value.int .i64 kind, .int .i64 task, .int .i64 call, .int .i64 a0, .int .i64 a1, .int .i64 a2, .int .i64 result, .slice Ad data.length cd] (vs 3) u) ∧ (L 4 = true → L 5 = false → OwnRE w3.heap.size (M + 1) (rs2.flatMap ER.cells) (vs 4) u) ∧ (L 5 = true → ∃ a b, vs 5 = .tuple #[a, b] ∧ WrPost (es ++ [x]) w (.returned (.tuple #[a, b])) u) ∧ (L 6 = true → L 5 = true ∧ ∀ a b, vs 5 = .tuple #[a, b] → vs 6 = a) ∧ (L 7 = true → L 5 = true ∧ ∀ a b, vs 5 = .tuple #[a, b] → vs 7 = b) ∧ (L 5 = true → L 4 = true)) L vs u') := Lib.hid (fun L vs u u' hO hI => by
      obtain ⟨a1, a2, a3, a4, a5, a6, a7, a8⟩ := hI; exact ⟨a1.thenNil hO, fun h h' => Stays.ownRE _ _ _ hO (a2 h h'), fun h h' => (by obtain ⟨g, q1, q2, q3⟩ := a3 h h'; exact ⟨g, q1, q2, q3.onlyNil hO⟩), fun h h' => Stays.ownRE _ _ _ hO (a4 h h'), fun h => (by obtain ⟨a, b, q1, q2⟩ := a5 h; exact ⟨a, b, q1, q2.next hO⟩), a6, a7, a8⟩)
    refine wp_region_any (by kernel_rfl) ?_
    change wpAny _ _ _ _ _ _ _ (World.drew _)
    refine take_first (i := 0) (v := ?v0_4) (some 22) rfl (by rfl) (by kernel_rfl) (by kernel_rfl) (by kernel_rfl) (fun _ _ _ h => h) (Or.inl ⟨by rfl, ?hy0_4⟩) ?rest0_4
    case hy0_4 => (intro w; go_simp <;> with_reducible rfl)
    refine wpAny_inv2 (X := [(1, some 23, []), (2, some 24, []), (3, some 25, [2]), (4, some 26, [1, 3]), (5, some 27, [4]), (6, some 28, [5]), (7, some 29, [5])]) (n := 7) (g := 2) (m := 8) (l0 := [true, false, false, false, false, false, false, false, false, false]) (T := fun z => w3.heap.size ≤ z) (Ps := [Any, Any, Cst (.agg #[Value.int .i64 kind, .int .i64 task, .int .i64 call, .int .i64 a0, .int .i64 a1, .int .i64 a2, .int .i64 result, .slice Ad data.length cd]), Any, Any, Any, Any, Any])
      (I := fun L vs u => Only Nil w3 u ∧ (L 1 = true → L 4 = false → OwnRE w3.heap.size M (rs.flatMap ER.cells) (vs 1) u) ∧ (L 3 = true → L 4 = false → NewRE w3.heap.size #[Value.int .i64 kind, .int .i64 task, .int .i64 call, .int .i64 a0, .int .i64 a1, .int .i64 a2, .int .i64 result, .slice Ad data.length cd] (vs 3) u) ∧ (L 4 = true → L 5 = false → OwnRE w3.heap.size (M + 1) (rs2.flatMap ER.cells) (vs 4) u) ∧ (L 5 = true → ∃ a b, vs 5 = .tuple #[a, b] ∧ WrPost (es ++ [x]) w (.returned (.tuple #[a, b])) u) ∧ (L 6 = true → L 5 = true ∧ ∀ a b, vs 5 = .tuple #[a, b] → vs 6 = a) ∧ (L 7 = true → L 5 = true ∧ ∀ a b, vs 5 = .tuple #[a, b] → vs 7 = b) ∧ (L 5 = true → L 4 = true))
      (by kernel_rfl) rfl (by kernel_rfl) (by kernel_rfl) (by kernel_rfl) rfl ?h0_4 ?st_4 ?i0_4 ?step_4 ?fin_4
    case h0_4 =>
      intro j hj v u
      match j, hj with
      | 0, hj => trivial
      | 1, hj => exact absurd hj (by decide)
      | 2, hj => exact absurd hj (by decide)
      | 3, hj => exact absurd hj (by decide)
      | 4, hj => exact absurd hj (by decide)
      | 5, hj => exact absurd hj (by decide)
      | 6, hj => exact absurd hj (by decide)
      | 7, hj => exact absurd hj (by decide)
      | 8, hj => exact absurd hj (by decide)
      | 9, hj => exact absurd hj (by decide)
      | n + 10, hj => exact absurd hj (by simp)
    case st_4 =>
      intro p hp
      simp only [List.mem_cons, List.not_mem_nil, or_false] at hp
      rcases hp with rfl | rfl | rfl | rfl | rfl | rfl | rfl | rfl <;> first | exact Stays.cst _ | exact Stays.any
    case i0_4 =>
      intro vs
      exact ⟨(Only.refl _ _).drew, (fun h => by cases h), (fun h => by cases h), (fun h => by cases h), (fun h => by cases h), (fun h => by cases h), (fun h => by cases h), (fun h => by cases h)⟩
    case step_4 =>
      intro x hx L vs u hI hA h0 hd
      simp only [List.mem_cons, List.not_mem_nil, or_false] at hx
      rcases hx with rfl | rfl | rfl | rfl | rfl | rfl | rfl
      · refine inv_step _ (by rfl) (by rfl) (fun K' hK => ?_)
        simp only [putAll, Act.put, List.setIfInBounds_toArray, List.set_cons_succ, List.set_cons_zero] at hK ⊢
        go_simp
        go_at_call 26
        refine (eclone_any Ao M co _ _ (Rd.more (Rd.onlyNil HRD3.out (hI.1) (Nat.le_refl _)) hI.1.size) HONE3.out (by omega)).mono ?_
        rintro z u2 ⟨A2, c2, rfl, hc2, ho2, hO2⟩
        go_simp
        have hI' := HIN.out L vs _ _ hO2 hI
        exact hK _ _ ⟨hO2.any, ⟨hI'.1, fun _ _ => ⟨A2, c2, rfl, hc2, own_base ho2 hI.1.size⟩, hI'.2.2.1, hI'.2.2.2.1, hI'.2.2.2.2⟩, trivial⟩
      · refine inv_step _ (by rfl) (by rfl) (fun K' hK => ?_)
        simp only [putAll, Act.put, List.setIfInBounds_toArray, List.set_cons_succ, List.set_cons_zero] at hK ⊢
        have ks : ∀ i, u.cell? ⟨w.heap.size, i, none⟩ = #[Value.int .i64 kind, .int .i64 task, .int .i64 call, .int .i64 a0, .int .i64 a1, .int .i64 a2, .int .i64 result, .slice Ad data.length cd][i]? := fun i => (HK3.out.onlyNil hI.1).cell i
        go_simp
        exact hK _ _ ⟨Only.refl _ _, hI, rfl⟩
      · refine inv_step _ (by rfl) (by rfl) (fun K' hK => ?_)
        simp only [putAll, Act.put, List.setIfInBounds_toArray, List.set_cons_succ, List.set_cons_zero] at hK ⊢
        have e2 := hA 2 (hd 2 (by simp))
        change vs 2 = (.agg #[Value.int .i64 kind, .int .i64 task, .int .i64 call, .int .i64 a0, .int .i64 a1, .int .i64 a2, .int .i64 result, .slice Ad data.length cd]) at e2
        simp only [e2] at hK
        go_simp
        have hI' := HIN.out L vs _ _ ((Only.refl Nil u).alloc (.cells #[Value.int .i64 kind, .int .i64 task, .int .i64 call, .int .i64 a0, .int .i64 a1, .int .i64 a2, .int .i64 result, .slice Ad data.length cd] 39)) hI
        exact hK _ _ ⟨(Only.refl _ _).alloc _, ⟨hI'.1, hI'.2.1, fun _ _ => ⟨_, rfl, hI.1.size, Blk.new _ _ _⟩, hI'.2.2.2⟩, trivial⟩
      · refine inv_step _ (by rfl) (by rfl) (fun K' hK => ?_)
        simp only [putAll, Act.put, List.setIfInBounds_toArray, List.set_cons_succ, List.set_cons_zero] at hK
        obtain ⟨A2, c2, e1, hc2, ho2⟩ := hI.2.1 (hd 1 (by simp)) h0
        obtain ⟨g3, e3, hg3, hb3⟩ := hI.2.2.1 (hd 3 (by simp)) h0
        refine step_append_rd _ (by rfl) (.tmp 23) (.tmp 25) _ (by rfl) w3.heap.size 39 i0 _ 8 80 Try.underlying22 hi0 hz0 hz1 hz2 rfl (by decide) (.slice A2 M c2) M (rs.flatMap ER.cells) (by simp [Act.eval, putAll, Act.put, e1]) ho2 (g3 + 1) (some ⟨g3, 0, none⟩) 1 1 [Value.int .i64 kind, .int .i64 task, .int .i64 call, .int .i64 a0, .int .i64 a1, .int .i64 a2, .int .i64 result, .slice Ad data.length cd] (by simp [Act.eval, putAll, Act.put, e3]) (Rd.blk hb3 rfl) HONE.out (M + 1) rfl (rs2.flatMap ER.cells) HCELLS.out (by unfold maxLen; omega) (by omega) hI.1.size ?_
        intro A4 c4 w4 hc4 hown4 hgr4 hat4
        simp only [putAll, Act.put, List.setIfInBounds_toArray, List.set_cons_succ, List.set_cons_zero]
        have hT : Only (fun z => w3.heap.size ≤ z) _ w4 := grown_only ho2 hgr4
        exact hK _ _ ⟨hT, ⟨hI.1.trans hT (fun z hz => .inr hz), (fun _ h => by cases h), (fun _ h => by cases h), (fun _ _ => ⟨A4, c4, rfl, hc4, hown4⟩), (fun h => absurd ((hI.2.2.2.2.2.2.2 h).symm.trans h0) (by decide)), (fun h => absurd ((hI.2.2.2.2.2.2.2 (hI.2.2.2.2.2.1 h).1).symm.trans h0) (by decide)), (fun h => absurd ((hI.2.2.2.2.2.2.2 (hI.2.2.2.2.2.2.1 h).1).symm.trans h0) (by decide)), fun _ => rfl⟩, trivial⟩
      · refine inv_step _ (by rfl) (by rfl) (fun K' hK => ?_)
        simp only [putAll, Act.put, List.setIfInBounds_toArray, List.set_cons_succ, List.set_cons_zero] at hK ⊢
        obtain ⟨A4, c4, e4, hc4, ho4⟩ := hI.2.2.2.1 (hd 4 (by simp)) h0
        have hes : Es u u.heap.size A4 rs2 := ⟨(by have := Rd.of_own ho4; rwa [← HLEN2.out] at this), HOK2.out u hI.1⟩
        have hwr := write_any A4 c4 rs2 u hes (by rw [HLEN2.out]; omega)
        rw [HLEN2.out, HMAP2.out] at hwr
        have HWR := Lib.hid hwr
        simp only [e4] at hK ⊢
        go_simp
        go_at_call 9
        refine HWR.out.mono ?_
        rintro z w9 hpost
        have hI' := HIN.out L vs _ _ hpost.1 hI
        have hpost2 := hpost.base (HO3.out.thenNil hI.1)
        have hq : ∃ a b, z = .returned (.tuple #[a, b]) := by
          rcases hpost.2 with ⟨_, A9, c9, hz, _⟩ | ⟨_, hz⟩
          · exact ⟨_, _, hz⟩
          · exact ⟨_, _, hz⟩
        obtain ⟨a, b, rfl⟩ := hq
        go_simp
        exact hK _ _ ⟨hpost.1.any, ⟨hI'.1, hI'.2.1, hI'.2.2.1, (fun _ h => by cases h), (fun _ => ⟨a, b, rfl, hpost2⟩), (fun h => absurd ((hI.2.2.2.2.2.1 h).1.symm.trans h0) (by decide)), (fun h => absurd ((hI.2.2.2.2.2.2.1 h).1.symm.trans h0) (by decide)), fun _ => hd 4 (by simp)⟩, trivial⟩
      · refine inv_step _ (by rfl) (by rfl) (fun K' hK => ?_)
        simp only [putAll, Act.put, List.setIfInBounds_toArray, List.set_cons_succ, List.set_cons_zero] at hK ⊢
        obtain ⟨a, b, e5, hp⟩ := hI.2.2.2.2.1 (hd 5 (by simp))
        simp only [e5] at hK ⊢
        go_simp
        exact hK _ _ ⟨Only.refl _ _, ⟨hI.1, hI.2.1, hI.2.2.1, hI.2.2.2.1, hI.2.2.2.2.1, (fun _ => ⟨hd 5 (by simp), fun a' b' h => by have h1 := e5.symm.trans h; simp at h1; exact h1.1⟩), hI.2.2.2.2.2.2.1, hI.2.2.2.2.2.2.2⟩, trivial⟩
      · refine inv_step _ (by rfl) (by rfl) (fun K' hK => ?_)
        simp only [putAll, Act.put, List.setIfInBounds_toArray, List.set_cons_succ, List.set_cons_zero] at hK ⊢
        obtain ⟨a, b, e5, hp⟩ := hI.2.2.2.2.1 (hd 5 (by simp))
        simp only [e5] at hK ⊢
        go_simp
        exact hK _ _ ⟨Only.refl _ _, ⟨hI.1, hI.2.1, hI.2.2.1, hI.2.2.2.1, hI.2.2.2.2.1, hI.2.2.2.2.2.1, (fun _ => ⟨hd 5 (by simp), fun a' b' h => by have h1 := e5.symm.trans h; simp at h1; exact h1.2⟩), hI.2.2.2.2.2.2.2⟩, trivial⟩
    case fin_4 =>
      intro L vs u hI hL hA
      simp only [putAll, Act.put, List.setIfInBounds_toArray, List.set_cons_succ, List.set_cons_zero, List.drop_succ_cons, List.drop_zero]
      obtain ⟨a, b, e5, hp⟩ := hI.2.2.2.2.1 (hL 5 (by omega))
      have e6 := (hI.2.2.2.2.2.1 (hL 6 (by omega))).2 a b e5
      have e7 := (hI.2.2.2.2.2.2.1 (hL 7 (by omega))).2 a b e5
      simp only [e6, e7]
      have HP := Lib.hid hp
      clear hA hL hI e5 e6 e7 hp
      go_wp2_with fail
      refine bodyPost_ret (v := .tuple #[a, b]) (by simp [results, Try.results14, go_sem]) rfl ?_
      exact ⟨HP.out.1, .inr (.inr ⟨rfl, HV.out, HP.out⟩)⟩

end Go.Proofs.Ytkcmdibpndkfbaa
