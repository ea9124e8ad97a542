/-
  The walk of ratoonref53.Ends: where the text and the frames end.
  Conditions: the entries can be read; there are few with few bytes.
-/
import Derived.Test.YtkcmdibpndkfbaaReE
import Derived.Test.YtkcmdibpndkfbaaRcL1
namespace Go.Proofs.Ytkcmdibpndkfbaa
open Go.RowKit

/-- The ends of the first frames, as values. -/
def endV (l : List En) (n : Nat) : List Value := (List.range n).map fun i => .int .i64 (endR l i : Nat)
theorem endV_len (l : List En) (n : Nat) : (endV l n).length = n := by unfold endV; simp
theorem endV_succ (l : List En) (n : Nat) : endV l (n + 1) = endV l n ++ [.int .i64 (endR l n : Nat)] := by
  unfold endV
  rw [List.range_succ, List.map_append]
  rfl
theorem endV_one (l : List En) (n : Nat) : ∀ u ∈ endV l n, u.oneCell' = true := by
  intro u hu
  unfold endV at hu
  obtain ⟨i, _, rfl⟩ := List.mem_map.1 hu
  rfl
theorem endV_get (l : List En) {n i : Nat} (h : i < n) : (endV l n)[i]? = some (.int .i64 (endR l i : Nat)) := by
  unfold endV
  rw [List.getElem?_map, List.getElem?_range h]
  rfl
theorem endR_le {l : List En} (hf : ∀ x ∈ l, x.fits ∧ x.data.length ≤ 200) (n : Nat) : endR l n ≤ 5 + 1632 * l.length := by
  have h1 := bodyB_len (h := ofS magic) (l := l.take n) (fun y hy => ⟨(hf y (List.mem_of_mem_take hy)).1, by have := (hf y (List.mem_of_mem_take hy)).2; omega⟩)
  have h2 : (l.take n).length ≤ l.length := by rw [List.length_take]; omega
  unfold endR endB
  omega

/-- A list of ints of the call's own. -/
def OwnI (base n : Nat) (xs : List Value) : VPred := fun v w => ∃ A c, v = .slice A n c ∧ n ≤ c ∧ w.ownsRow base 3 1 (.slice A n c) n xs
theorem Stays.ownI {base n : Nat} {xs : List Value} : Stays Nil (OwnI base n xs) := fun _ _ _ hO h => by
  obtain ⟨A, c, h1, h2, h3⟩ := h
  exact ⟨A, c, h1, h2, own_onlyNil h3 hO⟩
def NewI (base : Nat) (cs : Array Value) : VPred := fun v w => ∃ g, v = .slice (some ⟨g, 0, none⟩) 1 1 ∧ base ≤ g ∧ Blk w g 3 cs

set_option maxRecDepth 100000 in
set_option maxHeartbeats 2000000 in
theorem Ref.ends_any (A : Option Addr) (c : Nat) (rs : List ER) (w : World) (hE : Es w w.heap.size A rs) (hl : rs.length ≤ 20) (hd : ∀ x ∈ rs.map ER.x, x.data.length ≤ 200) :
    Calls Try.prog 11 #[.slice A rs.length c] w fun e w' => ∃ A2 c2, e = .returned (.slice A2 (rs.length + 1) c2) ∧ rs.length + 1 ≤ c2 ∧ w'.ownsRow w.heap.size 3 1 (.slice A2 (rs.length + 1) c2) (rs.length + 1) (endV (rs.map ER.x) (rs.length + 1)) ∧ Only Nil w w' := by
  obtain ⟨i0, hi0, hz0, hz1, hz2⟩ := info_parts int_info
  obtain ⟨N, hN⟩ : ∃ N, rs.length = N := ⟨_, rfl⟩
  have hle : ∀ n, endR (rs.map ER.x) n ≤ 40000 := fun n => by
    have h1 := endR_le (l := rs.map ER.x) (fun x hx => ⟨by
      obtain ⟨q, hq, rfl⟩ := List.mem_map.1 hx
      exact (hE.ok q hq).fits, hd x hx⟩) n
    rw [List.length_map] at h1
    omega
  have HE := Lib.hid hE
  have HN := Lib.hid hN
  have HD := Lib.hid hd
  have HLE := Lib.hid hle
  rw [hN]
  rw [hN] at hl
  clear hE hN hd hle
  go_enter Try.func11, Try.ntmps11
  go_wp2_with fail
  have hown0 : (w.alloc (.cells #[Value.int .i64 5] 3)).ownsRow w.heap.size 3 1 (.slice (some ⟨w.heap.size, 0, none⟩) 1 1) 1 (endV (rs.map ER.x) 1) := World.ownsRow_lit w #[Value.int .i64 5] 1 (Nat.le_refl _) (by unfold maxLen; omega) rfl
  have HOW0 := Lib.hid hown0
  clear hown0
  go_loopw [3, 4] (fun vo vi wr => ∃ (k : Nat) (Ao : Option Addr) (co : Nat), k ≤ N ∧ vi = .int .i64 k ∧ vo = .slice Ao (k + 1) co ∧ k + 1 ≤ co ∧ wr.ownsRow w.heap.size 3 1 (.slice Ao (k + 1) co) (k + 1) (endV (rs.map ER.x) (k + 1)) ∧ Only Nil w wr) (fun _ vi _ => N - (intOf vi).toNat)
  case atStart => exact ⟨0, some ⟨w.heap.size, 0, none⟩, 1, Nat.zero_le _, rfl, rfl, Nat.le_refl _, HOW0.out, (Only.refl _ _).alloc _⟩
  case round =>
    obtain ⟨k, Ao, co, hk, rfl, rfl, hco, hown, hO⟩ := hrel
    have HOWN := Lib.hid hown
    have HO := Lib.hid hO
    have HCO := Lib.hid hco
    by_cases hlt : k < N
    · obtain ⟨r, hr⟩ : ∃ r, rs[k]? = some r := ⟨rs[k]'(by rw [HN.out]; exact hlt), List.getElem?_eq_getElem _⟩
      have hmx : (rs.map ER.x)[k]? = some r.x := by rw [List.getElem?_map, hr]; rfl
      have hnx := endR_next hmx
      have hdr := HD.out r.x (List.mem_map.2 ⟨r, List.mem_of_getElem? hr, rfl⟩)
      obtain ⟨E, hE⟩ : ∃ E, (encE r.x).length = E := ⟨_, rfl⟩
      rw [hE] at hnx
      have hle1 := HLE.out k
      have hle2 := HLE.out (k + 1)
      obtain ⟨e, he⟩ : ∃ e, endR (rs.map ER.x) k = e := ⟨_, rfl⟩
      rw [he] at hnx hle1
      have hsucc := endV_succ (rs.map ER.x) (k + 1)
      rw [hnx] at hsucc hle2
      -- the row's cell k
      obtain ⟨go, oo, rfl, hgo, hco2⟩ : ∃ go oo, Ao = some ⟨go, oo, none⟩ ∧ go < wr.heap.size ∧ ∀ u, Only Nil wr u → u.cell? ⟨go, oo + k, none⟩ = some (.int .i64 e) := by
        obtain ⟨go, oo, h1, h2, h3⟩ := (Rd.of_own hown).2 (by omega)
        have h4 := h3 k _ (by rw [endV_get _ (by omega), he])
        exact ⟨go, oo, h1, h2, fun u hu => (hu.cell (lt_of_cell h4) (fun h => h)).trans h4⟩
      obtain ⟨b, off, rfl, _, hc⟩ := (HE.out.next HO.out).at_ hr
      have hok : ∀ u, Only Nil wr u → ER.ok u u.heap.size r := fun u hu => ((HE.out.next HO.out).next hu).ok r (List.mem_of_getElem? hr)
      have hcall : ∀ u, Only Nil wr u → Calls Try.prog 23 #[.agg r.cells.toArray] u fun x u' => ∃ A1 c1, x = .returned (.slice A1 E c1) ∧ Only Nil u u' := fun u hu => by
        refine (Ref.entry_any r u (hok u hu) (by omega)).mono ?_
        rw [← hE]
        rintro x u' ⟨A1, c1, rfl, _, _, hO2⟩
        exact ⟨A1, c1, rfl, hO2⟩
      have hcl : ∀ u, Only Nil wr u → ∀ j v, r.cells[j]? = some v → u.cell? ⟨b, off + (k * 8 + j), none⟩ = some v := fun u hO j v hj => (hO.cell (lt_of_cell (hc j v hj)) (fun h => h)).trans (hc j v hj)
      have hki : (k : Int) < N := by omega
      have hk1 : (k : Int) < (k : Int) + 1 := by omega
      have hcast : ((e + 16 + E : Nat) : Int) = (e : Int) + 16 + (E : Int) := by omega
      rw [hcast] at hsucc
      have hw1 : IntKind.i64.wrap ((e : Int) + 16) = (e : Int) + 16 := IntWalk.i64_in _ (by omega)
      have hw2 : IntKind.i64.wrap ((e : Int) + 16 + (E : Int)) = (e : Int) + 16 + (E : Int) := IntWalk.i64_in _ (by omega)
      have HCALL := Lib.hid hcall
      have HCL := Lib.hid hcl
      have HCO2 := Lib.hid hco2
      have HSU := Lib.hid hsucc
      clear hr hmx hnx hdr hE he hsucc hgo hco2 hc hok hcall hcl hown hO hco hlt hcast
      obtain ⟨Ad, cd, ⟨kind, task, call, a0, a1, a2, result, data⟩⟩ := r
      unfold ER.cells at HCALL HCL
      dsimp only at HCALL HCL
      obtain ⟨D, hD⟩ : ∃ D, data.length = D := ⟨_, rfl⟩
      rw [hD] at HCALL HCL
      clear hD
      go_wp2_with fail
      have HIN : Hid (∀ (L : Nat → Bool) (vs : Nat → Value) (u u' : World), Only Nil u u' → (fun L vs u => Only (fun z => w.heap.size ≤ z) wr u ∧ (L 14 = false → Only Nil wr u) ∧ (L 10 = true → ∃ A c, vs 10 = .slice A E c) ∧ (L 13 = true → L 14 = false → NewI w.heap.size #[Value.int .i64 ((e : Int) + 16 + (E : Int))] (vs 13) u) ∧ (L 14 = true → OwnI w.heap.size (k + 1 + 1) (endV (rs.map ER.x) (k + 1 + 1)) (vs 14) u) ∧ (L 14 = true → L 4 = true ∧ L 9 = true ∧ L 10 = true ∧ L 13 = true)) L vs u → (fun L vs u => Only (fun z => w.heap.size ≤ z) wr u ∧ (L 14 = false → Only Nil wr u) ∧ (L 10 = true → ∃ A c, vs 10 = .slice A E c) ∧ (L 13 = true → L 14 = false → NewI w.heap.size #[Value.int .i64 ((e : Int) + 16 + (E : Int))] (vs 13) u) ∧ (L 14 = true → OwnI w.heap.size (k + 1 + 1) (endV (rs.map ER.x) (k + 1 + 1)) (vs 14) u) ∧ (L 14 = true → L 4 = true ∧ L 9 = true ∧ L 10 = true ∧ L 13 = true)) L vs u') := Lib.hid (fun L vs u u' hO hI => by
        obtain ⟨a1, a2, a3, a4, a5, a6⟩ := hI; exact ⟨a1.thenNil hO, fun h => (a2 h).thenNil hO, a3, fun h h' => (by obtain ⟨g, q1, q2, q3⟩ := a4 h h'; exact ⟨g, q1, q2, q3.onlyNil hO⟩), fun h => Stays.ownI _ _ _ hO (a5 h), a6⟩)
      refine wp_region_any (by kernel_rfl) ?_
      change wpAny _ _ _ _ _ _ _ (World.drew _)
      refine take_first (i := 0) (v := ?v0_6) (some 12) rfl (by rfl) (by kernel_rfl) (by kernel_rfl) (by kernel_rfl) (fun _ _ _ h => h) (Or.inl ⟨by rfl, ?hy0_6⟩) ?rest0_6
      case hy0_6 => (intro w; go_simp <;> with_reducible rfl)
      refine take_first (i := 1) (v := ?v1_6) (some 13) rfl (by rfl) (by kernel_rfl) (by kernel_rfl) (by kernel_rfl) (fun _ _ _ h => h) (Or.inl ⟨by rfl, ?hy1_6⟩) ?rest1_6
      case hy1_6 => (intro w; go_simp <;> with_reducible rfl)
      refine take_first (i := 2) (v := ?v2_6) (some 14) rfl (by rfl) (by kernel_rfl) (by kernel_rfl) (by kernel_rfl) (fun _ _ _ h => h) (Or.inl ⟨by rfl, ?hy2_6⟩) ?rest2_6
      case hy2_6 => (intro w; go_simp <;> with_reducible rfl)
      refine take_first (i := 3) (v := ?v3_6) (some 15) rfl (by rfl) (by kernel_rfl) (by kernel_rfl) (by kernel_rfl) (fun _ _ _ h => h) (Or.inl ⟨by rfl, ?hy3_6⟩) ?rest3_6
      case hy3_6 => (intro w; go_simp <;> with_reducible rfl)
      refine take_first (i := 6) (v := ?v6_6) (some 18) rfl (by rfl) (by kernel_rfl) (by kernel_rfl) (by kernel_rfl) (fun _ _ _ h => h) (Or.inl ⟨by rfl, ?hy6_6⟩) ?rest6_6
      case hy6_6 => (intro w; go_simp <;> with_reducible rfl)
      refine take_first (i := 7) (v := ?v7_6) (some 19) rfl (by rfl) (by kernel_rfl) (by kernel_rfl) (by kernel_rfl) (fun _ _ _ h => h) (Or.inl ⟨by rfl, ?hy7_6⟩) ?rest7_6
      case hy7_6 => (intro w; go_simp <;> with_reducible rfl)
      refine take_first (i := 8) (v := ?v8_6) (some 20) rfl (by rfl) (by kernel_rfl) (by kernel_rfl) (by kernel_rfl) (fun _ _ _ h => h) (Or.inl ⟨by rfl, ?hy8_6⟩) ?rest8_6
      case hy8_6 => (intro w; go_simp <;> with_reducible rfl)
      refine wpAny_inv2 (X := [(4, some 16, []), (5, some 17, [4]), (9, some 21, []), (10, some 22, [9]), (11, some 23, [10]), (12, some 24, [5, 11]), (13, some 25, [12]), (14, some 26, [4, 9, 10, 13])]) (n := 8) (g := 1) (m := 15) (l0 := [true, true, true, true, false, false, true, true, true, false, false, false, false, false, false, false]) (T := fun z => w.heap.size ≤ z) (Ps := [Any, Any, Any, Any, Cst (.int .i64 e), Cst (.int .i64 ((e : Int) + 16)), Any, Any, Any, Cst (.agg #[.int .i64 kind, .int .i64 task, .int .i64 call, .int .i64 a0, .int .i64 a1, .int .i64 a2, .int .i64 result, .slice Ad D cd]), Any, Cst (.int .i64 E), Cst (.int .i64 ((e : Int) + 16 + (E : Int))), Any, Any])
        (I := fun L vs u => Only (fun z => w.heap.size ≤ z) wr u ∧ (L 14 = false → Only Nil wr u) ∧ (L 10 = true → ∃ A c, vs 10 = .slice A E c) ∧ (L 13 = true → L 14 = false → NewI w.heap.size #[Value.int .i64 ((e : Int) + 16 + (E : Int))] (vs 13) u) ∧ (L 14 = true → OwnI w.heap.size (k + 1 + 1) (endV (rs.map ER.x) (k + 1 + 1)) (vs 14) u) ∧ (L 14 = true → L 4 = true ∧ L 9 = true ∧ L 10 = true ∧ L 13 = true))
        (by kernel_rfl) rfl (by kernel_rfl) (by kernel_rfl) (by kernel_rfl) rfl ?h0_6 ?st_6 ?i0_6 ?step_6 ?fin_6
      case h0_6 =>
        intro j hj v u
        match j, hj with
        | 0, hj => trivial
        | 1, hj => trivial
        | 2, hj => trivial
        | 3, hj => trivial
        | 4, hj => exact absurd hj (by decide)
        | 5, hj => exact absurd hj (by decide)
        | 6, hj => trivial
        | 7, hj => trivial
        | 8, hj => trivial
        | 9, hj => exact absurd hj (by decide)
        | 10, hj => exact absurd hj (by decide)
        | 11, hj => exact absurd hj (by decide)
        | 12, hj => exact absurd hj (by decide)
        | 13, hj => exact absurd hj (by decide)
        | 14, hj => exact absurd hj (by decide)
        | 15, hj => exact absurd hj (by decide)
        | n + 16, hj => exact absurd hj (by simp)
      case st_6 =>
        intro p hp
        simp only [List.mem_cons, List.not_mem_nil, or_false] at hp
        rcases hp with rfl | rfl | rfl | rfl | rfl | rfl | rfl | rfl | rfl | rfl | rfl | rfl | rfl | rfl | rfl <;> first | exact Stays.cst _ | exact Stays.any
      case i0_6 =>
        intro vs
        exact ⟨(Only.refl _ _).drew, (fun _ => (Only.refl _ _).drew), (fun h => by cases h), (fun h => by cases h), (fun h => by cases h), (fun h => by cases h)⟩
      case step_6 =>
        intro x hx L vs u hI hA h0 hd
        simp only [List.mem_cons, List.not_mem_nil, or_false] at hx
        rcases hx with rfl | rfl | rfl | rfl | rfl | rfl | rfl | rfl
        · refine inv_step _ (by rfl) (by rfl) (fun K' hK => ?_)
          simp only [putAll, Act.put, List.setIfInBounds_toArray, List.set_cons_succ, List.set_cons_zero] at hK ⊢
          have ks : u.cell? ⟨go, oo + k, none⟩ = some (.int .i64 e) := HCO2.out u (hI.2.1 (by cases h : L 14 with | false => rfl | true => exact absurd ((hI.2.2.2.2.2 h).1.symm.trans h0) (by decide)))
          go_simp
          exact hK _ _ ⟨Only.refl _ _, ⟨hI.1, hI.2.1, hI.2.2.1, hI.2.2.2.1, hI.2.2.2.2.1, fun h => ⟨rfl, (hI.2.2.2.2.2 h).2⟩⟩, rfl⟩
        · refine inv_step _ (by rfl) (by rfl) (fun K' hK => ?_)
          simp only [putAll, Act.put, List.setIfInBounds_toArray, List.set_cons_succ, List.set_cons_zero] at hK ⊢
          have e4 := hA 4 (hd 4 (by simp))
          change vs 4 = (.int .i64 e) at e4
          simp only [e4] at hK
          go_simp
          exact hK _ _ ⟨Only.refl _ _, hI, rfl⟩
        · refine inv_step _ (by rfl) (by rfl) (fun K' hK => ?_)
          simp only [putAll, Act.put, List.setIfInBounds_toArray, List.set_cons_succ, List.set_cons_zero] at hK ⊢
          have e := HCL.out u (hI.2.1 (by cases h : L 14 with | false => rfl | true => exact absurd ((hI.2.2.2.2.2 h).2.1.symm.trans h0) (by decide)))
          have e0 : u.cell? ⟨b, off + k * 8, none⟩ = some (.int .i64 kind) := e 0 _ rfl
          have e1 : u.cell? ⟨b, off + k * 8 + 1, none⟩ = some (.int .i64 task) := e 1 _ rfl
          have e2 : u.cell? ⟨b, off + k * 8 + 2, none⟩ = some (.int .i64 call) := e 2 _ rfl
          have e3 : u.cell? ⟨b, off + k * 8 + 3, none⟩ = some (.int .i64 a0) := e 3 _ rfl
          have e4 : u.cell? ⟨b, off + k * 8 + 4, none⟩ = some (.int .i64 a1) := e 4 _ rfl
          have e5 : u.cell? ⟨b, off + k * 8 + 5, none⟩ = some (.int .i64 a2) := e 5 _ rfl
          have e6 : u.cell? ⟨b, off + k * 8 + 6, none⟩ = some (.int .i64 result) := e 6 _ rfl
          have e7 : u.cell? ⟨b, off + k * 8 + 7, none⟩ = some (.slice Ad D cd) := e 7 _ rfl
          go_simp
          exact hK _ _ ⟨Only.refl _ _, ⟨hI.1, hI.2.1, hI.2.2.1, hI.2.2.2.1, hI.2.2.2.2.1, fun h => ⟨(hI.2.2.2.2.2 h).1, rfl, (hI.2.2.2.2.2 h).2.2⟩⟩, rfl⟩
        · refine inv_step _ (by rfl) (by rfl) (fun K' hK => ?_)
          simp only [putAll, Act.put, List.setIfInBounds_toArray, List.set_cons_succ, List.set_cons_zero] at hK ⊢
          have e9 := hA 9 (hd 9 (by simp))
          change vs 9 = (.agg #[.int .i64 kind, .int .i64 task, .int .i64 call, .int .i64 a0, .int .i64 a1, .int .i64 a2, .int .i64 result, .slice Ad D cd]) at e9
          simp only [e9] at hK
          go_simp
          go_at_call 23
          refine (HCALL.out u (hI.2.1 (by cases h : L 14 with | false => rfl | true => exact absurd ((hI.2.2.2.2.2 h).2.2.1.symm.trans h0) (by decide)))).mono ?_
          rintro z u2 ⟨A2, c2, rfl, hO2⟩
          have hI' := HIN.out L vs _ _ hO2 hI
          go_simp
          exact hK _ _ ⟨hO2.any, ⟨hI'.1, hI'.2.1, fun _ => ⟨A2, c2, rfl⟩, hI'.2.2.2.1, hI'.2.2.2.2.1, fun h => ⟨(hI'.2.2.2.2.2 h).1, (hI'.2.2.2.2.2 h).2.1, rfl, (hI'.2.2.2.2.2 h).2.2.2⟩⟩, trivial⟩
        · refine inv_step _ (by rfl) (by rfl) (fun K' hK => ?_)
          simp only [putAll, Act.put, List.setIfInBounds_toArray, List.set_cons_succ, List.set_cons_zero] at hK ⊢
          obtain ⟨A2, c2, e10⟩ := hI.2.2.1 (hd 10 (by simp))
          simp only [e10] at hK ⊢
          go_simp
          exact hK _ _ ⟨Only.refl _ _, hI, rfl⟩
        · refine inv_step _ (by rfl) (by rfl) (fun K' hK => ?_)
          simp only [putAll, Act.put, List.setIfInBounds_toArray, List.set_cons_succ, List.set_cons_zero] at hK ⊢
          have e5 := hA 5 (hd 5 (by simp))
          change vs 5 = (.int .i64 ((e : Int) + 16)) at e5
          have e11 := hA 11 (hd 11 (by simp))
          change vs 11 = (.int .i64 E) at e11
          simp only [e5, e11] at hK
          go_simp
          exact hK _ _ ⟨Only.refl _ _, hI, rfl⟩
        · refine inv_step _ (by rfl) (by rfl) (fun K' hK => ?_)
          simp only [putAll, Act.put, List.setIfInBounds_toArray, List.set_cons_succ, List.set_cons_zero] at hK ⊢
          have e12 := hA 12 (hd 12 (by simp))
          change vs 12 = (.int .i64 ((e : Int) + 16 + (E : Int))) at e12
          simp only [e12] at hK
          go_simp
          have hI' := HIN.out L vs _ _ ((Only.refl Nil u).alloc (.cells #[Value.int .i64 ((e : Int) + 16 + (E : Int))] 3)) hI
          exact hK _ _ ⟨(Only.refl _ _).alloc _, ⟨hI'.1, hI'.2.1, hI'.2.2.1, fun _ _ => ⟨_, rfl, Nat.le_trans HO.out.size hI.1.size, Blk.new _ _ _⟩, hI'.2.2.2.2.1, fun h => ⟨(hI'.2.2.2.2.2 h).1, (hI'.2.2.2.2.2 h).2.1, (hI'.2.2.2.2.2 h).2.2.1, rfl⟩⟩, trivial⟩
        · refine inv_step _ (by rfl) (by rfl) (fun K' hK => ?_)
          simp only [putAll, Act.put, List.setIfInBounds_toArray, List.set_cons_succ, List.set_cons_zero] at hK
          have e4 := hA 4 (hd 4 (by simp))
          change vs 4 = (.int .i64 e) at e4
          have e9 := hA 9 (hd 9 (by simp))
          change vs 9 = (.agg #[.int .i64 kind, .int .i64 task, .int .i64 call, .int .i64 a0, .int .i64 a1, .int .i64 a2, .int .i64 result, .slice Ad D cd]) at e9
          obtain ⟨g3, e13, hg3, hb3⟩ := hI.2.2.2.1 (hd 13 (by simp)) h0
          have hOu := hI.2.1 h0
          have ho2 := own_onlyNil HOWN.out hOu
          refine step_append_rd _ (by rfl) (.tmp 12) (.tmp 25) _ (by rfl) w.heap.size 3 i0 _ 1 8 Try.underlying32 hi0 hz0 hz1 hz2 rfl (by decide) (.slice (some ⟨go, oo, none⟩) (k + 1) co) (k + 1) (endV (rs.map ER.x) (k + 1)) (by simp [Act.eval, putAll, Act.put]) ho2 (g3 + 1) (some ⟨g3, 0, none⟩) 1 1 [Value.int .i64 ((e : Int) + 16 + (E : Int))] (by simp [Act.eval, putAll, Act.put, e13]) (Rd.blk hb3 rfl) (one_cell1 rfl) (k + 1 + 1) rfl (endV (rs.map ER.x) (k + 1 + 1)) HSU.out.symm (by unfold maxLen; omega) (by omega) (Nat.le_trans HO.out.size hI.1.size) ?_
          intro A4 c4 w4 hc4 hown4 hgr4 hat4
          simp only [putAll, Act.put, List.setIfInBounds_toArray, List.set_cons_succ, List.set_cons_zero]
          have hT : Only (fun z => w.heap.size ≤ z) _ w4 := grown_only ho2 hgr4
          exact hK _ _ ⟨hT, ⟨hI.1.then_ hT, (fun h => by cases h), hI.2.2.1, (fun _ h => by cases h), fun _ => ⟨A4, c4, rfl, hc4, hown4⟩, fun _ => ⟨hd 4 (by simp), hd 9 (by simp), hd 10 (by simp), hd 13 (by simp)⟩⟩, trivial⟩
      case fin_6 =>
        intro L vs u hI hL hA
        simp only [putAll, Act.put, List.setIfInBounds_toArray, List.set_cons_succ, List.set_cons_zero, List.drop_succ_cons, List.drop_zero]
        obtain ⟨A9, c9, e14, hc9, ho9⟩ := hI.2.2.2.2.1 (hL 14 (by omega))
        simp only [e14]
        have HI := Lib.hid hI.1
        have HC9 := Lib.hid hc9
        have HW9 := Lib.hid ho9
        clear hA hL hI hc9 ho9 e14
        go_wp2_with fail
        go_roundw
        case rel => exact ⟨k + 1, A9, c9, by omega, by go_num, rfl, HC9.out, HW9.out, HO.out.trans HI.out (fun x hx => .inr hx)⟩
        case measure => simp [intOf]; omega
    · have hkN : k = N := by omega
      subst hkN
      have hki : ¬ (k : Int) < k := by omega
      clear hown hO hco hlt
      go_wp2_with fail
      refine bodyPost_ret (v := .slice Ao (k + 1) co) (by simp [results, Try.results11, go_sem]) rfl ?_
      exact ⟨Ao, co, rfl, HCO.out, HOWN.out, HO.out⟩

end Go.Proofs.Ytkcmdibpndkfbaa
