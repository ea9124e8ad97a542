/-
  The law RecordWrite: Valid, Write and Append return the specified results for any entries; different lists have different bytes.
  No conditions.
-/
import Derived.Test.YtkcmdibpndkfbaaRcM1
import Derived.BigQuiet
import Derived.Laws.Externs
namespace Go.Proofs.Ytkcmdibpndkfbaa
open Go.ChangeShapes Go.WideShapes Go.ChangeAt Go.RowKit Go.Deep

/-- What Write answers, what Append answers: the bytes and the error. -/
def resW (l : List En) : List UInt8 × Int := if l.all vE = true then (recB l, 0) else ([], 1)
def resA (r : List En × Nat × Int) (x : En) : List UInt8 × Int := if r.2.2 ≠ 0 then ([], 4) else if vE x = false then ([], 1) else resW (r.1 ++ [x])
/-- A slice that reads these bytes. -/
structure RSl (w : World) (A : Option Addr) (c : Nat) (l : List UInt8) : Prop where
  bs : Bs w w.heap.size A l
  len : l.length ≤ c
  most : c ≤ maxLen
theorem RSl.next {w w' : World} {A : Option Addr} {c : Nat} {l : List UInt8} (h : RSl w A c l) (hO : Only Nil w w') : RSl w' A c l := ⟨(h.bs.onlyNil hO (Nat.le_refl _)).up hO.size, h.len, h.most⟩
theorem RSl.nil (w : World) : RSl w none 0 [] := ⟨Bs.nil _ _ _, Nat.le_refl _, by unfold maxLen; omega⟩
theorem OwnX.rsl {w : World} {base : Nat} {A : Option Addr} {c : Nat} {l : List UInt8} (h : OwnX w base A c l) : RSl w A c l := ⟨h.bs, h.form.1, h.form.2.1⟩
theorem WrPost.res {l : List En} {w : World} {e : Ending} {w' : World} (h : WrPost l w e w') : Only Nil w w' ∧ ∃ A c, e = .returned (.tuple #[.slice A (resW l).1.length c, .int .i64 (resW l).2]) ∧ RSl w' A c (resW l).1 := by
  obtain ⟨hO, ⟨ha, A, c, h1, h2⟩ | ⟨ha, h1⟩⟩ := h
  · have e : resW l = (recB l, 0) := by unfold resW; rw [if_pos ha]
    rw [e]
    exact ⟨hO, A, c, h1, h2.rsl⟩
  · have e : resW l = ([], 1) := by unfold resW; rw [if_neg (by rw [ha]; simp)]
    rw [e]
    exact ⟨hO, none, 0, h1, RSl.nil _⟩
theorem ApPost.res {r : List En × Nat × Int} {x : En} {w : World} {e : Ending} {w' : World} (h : ApPost r x w e w') : Only Nil w w' ∧ ∃ A c, e = .returned (.tuple #[.slice A (resA r x).1.length c, .int .i64 (resA r x).2]) ∧ RSl w' A c (resA r x).1 := by
  obtain ⟨hO, ⟨h0, h1⟩ | ⟨h0, hv, h1⟩ | ⟨h0, hv, h1⟩⟩ := h
  · have e : resA r x = ([], 4) := by unfold resA; rw [if_pos h0]
    rw [e]
    exact ⟨hO, none, 0, h1, RSl.nil _⟩
  · have e : resA r x = ([], 1) := by unfold resA; rw [if_neg (by simp [h0]), if_pos hv]
    rw [e]
    exact ⟨hO, none, 0, h1, RSl.nil _⟩
  · have e : resA r x = resW (r.1 ++ [x]) := by unfold resA; rw [if_neg (by simp [h0]), if_neg (by rw [hv]; simp)]
    rw [e]
    exact ⟨hO, h1.res.2⟩
theorem resW_len {l : List En} (hf : ∀ x ∈ l, x.fits) (hn : l.length ≤ 21) : (resW l).1.length ≤ 40000 := by
  unfold resW
  by_cases h : l.all vE = true
  · rw [if_pos h]; exact recB_le hf h hn
  · rw [if_neg h]; simp
theorem resW_read {l : List En} (hf : ∀ x ∈ l, x.fits) (hn : l.length ≤ 20) : (readR (resW l).1).1.length ≤ 400 := by
  unfold resW
  by_cases h : l.all vE = true
  · rw [if_pos h]
    dsimp only
    rw [readR_recB (fun x hx => ⟨List.all_eq_true.1 h x hx, hf x hx⟩)]
    dsimp only
    omega
  · rw [if_neg h]
    decide
theorem resW_same {l m : List En} (hl : ∀ x ∈ l, x.fits) (hm : ∀ x ∈ m, x.fits) (h1 : (resW l).2 = 0) (h2 : (resW m).2 = 0) : ((resW l).1 == (resW m).1) = sameL l m := by
  unfold resW at *
  by_cases ha : l.all vE = true
  · by_cases hb : m.all vE = true
    · rw [if_pos ha, if_pos hb]
      rw [Bool.eq_iff_iff, sameL_iff, beq_iff_eq]
      exact ⟨fun h => recB_inj (fun x hx => ⟨List.all_eq_true.1 ha x hx, hl x hx⟩) (fun x hx => ⟨List.all_eq_true.1 hb x hx, hm x hx⟩) h, fun h => by rw [h]⟩
    · rw [if_neg hb] at h2; simp at h2
  · rw [if_neg ha] at h1; simp at h1

set_option maxRecDepth 100000 in
/-- An entry as an argument. -/
theorem open_entry {H : Type} {enc : TypeId × Value → H} {W : World} {v : Value} {d : DataW H} {p : List MemPlace} {base : Nat}
    (hv : Value.okWide Try.prog W .any base 39 v) (h : DataW.Trod enc Try.prog W 0 (fun _ => true) true 39 v d p) :
    ∃ r : ER, v = .agg r.cells.toArray ∧ ER.ok W W.heap.size r := by
  obtain ⟨cs, rfl, _⟩ := okWide_struct Try.underlying39 hv
  obtain ⟨fuel, hf⟩ := h
  obtain ⟨r, hc, hok⟩ := entry_of_trod (cs := cs.toList) hf
  exact ⟨r, by rw [← hc, Array.toArray_toList], hok⟩

namespace recordWrite
set_option maxRecDepth 100000 in
set_option maxHeartbeats 8000000 in
theorem walk (A : Option Addr) (ca : Nat) (rs : List ER) (B : Option Addr) (cb : Nat) (ms : List ER) (r : ER) (w : World) (ha : Es w w.heap.size A rs) (hb : Es w w.heap.size B ms) (hr : ER.ok w w.heap.size r) (hal : rs.length ≤ maxLen) (hbl : ms.length ≤ maxLen) :
    Calls Try.prog 5 #[.slice A rs.length ca, .slice B ms.length cb, .agg r.cells.toArray] w (LawPost w) := by
  obtain ⟨w0, hw0⟩ : ∃ w0, w0 = w.alloc (.cells r.cells.toArray 39) := ⟨_, rfl⟩
  have hO0 : Only Nil w w0 := by rw [hw0]; exact (Only.refl _ _).alloc _
  have hk0 : Blk w0 w.heap.size 39 r.cells.toArray := by rw [hw0]; exact Blk.new _ _ _
  have hfa := fun u (hO : Only Nil w0 u) => Ref.few_any A ca rs u ((ha.next hO0).next hO) hal
  have hfb := fun u (hO : Only Nil w0 u) => Ref.few_any B cb ms u ((hb.next hO0).next hO) hbl
  have hfx := fun u (hO : Only Nil w0 u) => Ref.few_any (some ⟨u.heap.size, 0, none⟩) 1 [r] (u.alloc (.cells r.cells.toArray 39)) ⟨Rd.more (Rd.blk (n := 1) (Blk.new u 39 r.cells.toArray) rfl) (Blk.new u 39 r.cells.toArray).lt, fun q hq => by
    rw [List.mem_singleton] at hq
    rw [hq]
    have h1 := hO0.thenNil (hO.thenNil ((Only.refl Nil u).alloc (.cells r.cells.toArray 39)))
    exact (hr.onlyNil h1 (Nat.le_refl _)).up h1.size⟩ (by show 1 ≤ maxLen; unfold maxLen; decide)
  have HA := Lib.hid (ha.next hO0)
  have HB := Lib.hid (hb.next hO0)
  have HRX := Lib.hid ((hr.onlyNil hO0 (Nat.le_refl _)).up hO0.size)
  have HW0 := Lib.hid hw0
  have HO0 := Lib.hid hO0
  have HK0 := Lib.hid hk0
  obtain ⟨fa, hfa1⟩ : ∃ f, fewR (rs.map ER.x) = f := ⟨_, rfl⟩
  obtain ⟨fb, hfb1⟩ : ∃ f, fewR (ms.map ER.x) = f := ⟨_, rfl⟩
  obtain ⟨fx, hfx1⟩ : ∃ f, fewR (([r] : List ER).map ER.x) = f := ⟨_, rfl⟩
  rw [hfa1] at hfa
  rw [hfb1] at hfb
  rw [hfx1] at hfx
  obtain ⟨N, hN⟩ : ∃ N, rs.length = N := ⟨_, rfl⟩
  obtain ⟨M, hM⟩ : ∃ M, ms.length = M := ⟨_, rfl⟩
  rw [hN] at hfa hal ⊢
  rw [hM] at hfb hbl ⊢
  have HFA := Lib.hid hfa
  have HFB := Lib.hid hfb
  have HFX := Lib.hid hfx
  have HFA1 := Lib.hid hfa1
  have HFB1 := Lib.hid hfb1
  have HN := Lib.hid hN
  have HM := Lib.hid hM
  unfold maxLen at hal hbl
  have kw : ∀ u, Only Nil w0 u → ∀ i, u.cell? ⟨w.heap.size, i, none⟩ = r.cells.toArray[i]? := fun u hu i => (hk0.onlyNil hu).cell i
  have HKW := Lib.hid kw
  have hva := fun u => valid_any r u
  have hvb := fun u => Ref.valid_any r u
  obtain ⟨V, hV⟩ : ∃ V, vE r.x = V := ⟨_, rfl⟩
  rw [hV] at hva hvb
  have HVA := Lib.hid hva
  have HVB := Lib.hid hvb
  have HAPA := Lib.hid (fun (u : World) (hu : Only Nil w0 u) (D : Option Addr) (cd : Nat) (L : List UInt8) (hL : RSl u D cd L) (h1 : L.length ≤ 40000) (h2 : (readR L).1.length ≤ 400) => append_any D cd L r u hL.bs (by omega) hL.len ((HRX.out.onlyNil hu (Nat.le_refl _)).up hu.size) h2)
  have HAPB := Lib.hid (fun (u : World) (hu : Only Nil w0 u) (D : Option Addr) (cd : Nat) (L : List UInt8) (hL : RSl u D cd L) (h1 : L.length ≤ 40000) (h2 : (readR L).1.length ≤ 400) => Ref.append_any D cd L r u hL.bs (by omega) hL.len hL.most ((HRX.out.onlyNil hu (Nat.le_refl _)).up hu.size) h2)
  clear ha hb hr hfa hfb hfx hN hM hfa1 hfb1 hfx1 hw0 hO0 hk0 kw hva hvb hV
  obtain ⟨x, hx⟩ : ∃ x, r.x = x := ⟨_, rfl⟩
  rw [hx] at HAPA HAPB
  clear hx
  obtain ⟨Ad, cd, ⟨kind, task, call, a0, a1, a2, result, data⟩⟩ := r
  unfold ER.cells at HW0 HKW HFX HVA HVB HAPA HAPB ⊢
  dsimp only at HW0 HKW HFX HVA HVB HAPA HAPB ⊢
  obtain ⟨D, hD⟩ : ∃ D, data.length = D := ⟨_, rfl⟩
  rw [hD] at HW0 HKW HFX HVA HVB HAPA HAPB ⊢
  clear hD
  go_enter Try.func5, Try.ntmps5
  go_upto_region 1 with fail
  rw [← HW0.out]
  go_wp2_with fail
  refine (awake_any _).mono ?_
  rintro z w1 ⟨rfl, hO1⟩
  have HO1 := Lib.hid hO1
  have k1 := HKW.out w1 hO1
  clear hO1
  go_wp2_with fail
  refine (HFA.out _ HO1.out).mono ?_
  rintro z w2 ⟨rfl, rfl⟩
  cases fa
  · go_wp2_with fail
    go_ret
    exact ⟨rfl, HO0.out.thenNil HO1.out⟩
  go_wp2_with fail
  refine (HFB.out _ HO1.out).mono ?_
  rintro z w3 ⟨rfl, rfl⟩
  cases fb
  · go_wp2_with fail
    go_ret
    exact ⟨rfl, HO0.out.thenNil HO1.out⟩
  go_wp2_with fail
  refine (HFX.out _ HO1.out).mono ?_
  rintro z w4 ⟨rfl, rfl⟩
  have HO4 : Hid (Only Nil w0 (w3.alloc (.cells #[.int .i64 kind, .int .i64 task, .int .i64 call, .int .i64 a0, .int .i64 a1, .int .i64 a2, .int .i64 result, .slice Ad D cd] 39))) := Lib.hid (HO1.out.thenNil ((Only.refl _ _).alloc _))
  clear k1
  obtain ⟨w4, hw4⟩ : ∃ w4, w4 = w3.alloc (.cells #[.int .i64 kind, .int .i64 task, .int .i64 call, .int .i64 a0, .int .i64 a1, .int .i64 a2, .int .i64 result, .slice Ad D cd] 39) := ⟨_, rfl⟩
  rw [← hw4] at HO4 ⊢
  clear hw4
  cases fx
  · go_wp2_with fail
    go_ret
    exact ⟨rfl, HO0.out.thenNil HO4.out⟩
  have h1 := fewR_of HFA1.out
  have h2 := fewR_of HFB1.out
  have hN20 : N ≤ 20 := by rw [← HN.out]; have := h1.2; rwa [List.length_map] at this
  have hM20 : M ≤ 20 := by rw [← HM.out]; have := h2.2; rwa [List.length_map] at this
  have hfit : ∀ x ∈ rs.map ER.x, x.fits := fun x hx => by
    obtain ⟨q, hq, rfl⟩ := List.mem_map.1 hx
    exact (HA.out.ok q hq).fits
  have hfitm : ∀ x ∈ ms.map ER.x, x.fits := fun x hx => by
    obtain ⟨q, hq, rfl⟩ := List.mem_map.1 hx
    exact (HB.out.ok q hq).fits
  have hwl : ∀ u, Only Nil w0 u → Calls Try.prog 9 #[.slice A N ca] u (WrPost (rs.map ER.x) u) := fun u hO => by
    have := write_any A ca rs u (HA.out.next hO) (by rw [HN.out]; omega)
    rwa [HN.out] at this
  have hwr : ∀ u, Only Nil w0 u → Calls Try.prog 13 #[.slice A N ca] u (WrPost (rs.map ER.x) u) := fun u hO => by
    have := Ref.write_any A ca rs u (HA.out.next hO) (by rw [HN.out]; omega)
    rwa [HN.out] at this
  have hwm : ∀ u, Only Nil w0 u → Calls Try.prog 9 #[.slice B M cb] u (WrPost (ms.map ER.x) u) := fun u hO => by
    have := write_any B cb ms u (HB.out.next hO) (by rw [HM.out]; omega)
    rwa [HM.out] at this
  have hsm : ∀ u, Only Nil w0 u → Calls Try.prog 12 #[.slice A N ca, .slice B M cb] u fun e w' => e = .returned (.bool (sameL (rs.map ER.x) (ms.map ER.x))) ∧ Only Nil u w' := fun u hO => by
    have := Ref.same_list A B ca cb rs ms u (HA.out.next hO).ed (HB.out.next hO).ed (by rw [HN.out]; omega)
    rwa [HN.out, HM.out] at this
  have hL1 := resW_len hfit (by rw [List.length_map, HN.out]; omega)
  have hL2 := resW_read hfit (by rw [List.length_map, HN.out]; omega)
  have hsame := resW_same hfit hfitm
  obtain ⟨⟨La, Ea⟩, hRa⟩ : ∃ R, resW (rs.map ER.x) = R := ⟨_, rfl⟩
  obtain ⟨⟨Lk, Ek⟩, hRk⟩ : ∃ R, resW (ms.map ER.x) = R := ⟨_, rfl⟩
  obtain ⟨⟨Lc, Ec⟩, hRc⟩ : ∃ R, resA (readR La) x = R := ⟨_, rfl⟩
  obtain ⟨S, hS⟩ : ∃ S, sameL (rs.map ER.x) (ms.map ER.x) = S := ⟨_, rfl⟩
  rw [hRa] at hL1 hL2 hsame
  rw [hRk, hS] at hsame
  rw [hS] at hsm
  dsimp only at hL1 hL2 hsame
  have HRA := Lib.hid hRa
  have HRK := Lib.hid hRk
  have HRC := Lib.hid hRc
  have HWL := Lib.hid hwl
  have HWR := Lib.hid hwr
  have HWM := Lib.hid hwm
  have HSM := Lib.hid hsm
  have HL1 := Lib.hid hL1
  have HL2 := Lib.hid hL2
  have HSAME := Lib.hid hsame
  obtain ⟨na, hna⟩ : ∃ n, La.length = n := ⟨_, rfl⟩
  obtain ⟨nk, hnk⟩ : ∃ n, Lk.length = n := ⟨_, rfl⟩
  obtain ⟨nc, hnc⟩ : ∃ n, Lc.length = n := ⟨_, rfl⟩
  have HNA := Lib.hid hna
  have HNK := Lib.hid hnk
  have HNC := Lib.hid hnc
  clear h1 h2 hfit hfitm hwl hwr hwm hsm hL1 hL2 hsame hRa hRk hRc hS hna hnk hnc
  go_wp2_with fail
  refine (HWL.out _ HO4.out).mono ?_
  rintro z w5 hpost
  obtain ⟨hO5, Aa, c1, rfl, hrs1⟩ := hpost.res
  rw [HRA.out] at hrs1 ⊢
  dsimp only at hrs1 ⊢
  rw [HNA.out]
  have HR1 := Lib.hid hrs1
  have HO5 := Lib.hid (HO4.out.thenNil hO5)
  clear hpost hO5 hrs1
  go_wp2_with fail
  refine (HWR.out _ HO5.out).mono ?_
  rintro z w6 hpost
  obtain ⟨hO6, Ab, c2, rfl, hrs2⟩ := hpost.res
  rw [HRA.out] at hrs2 ⊢
  dsimp only at hrs2 ⊢
  rw [HNA.out]
  have HR2 := Lib.hid hrs2
  have HR1 := Lib.hid (HR1.out.next hO6)
  have HO6 := Lib.hid (HO5.out.thenNil hO6)
  have k6 := HKW.out w6 HO6.out
  clear hpost hO6 hrs2
  have hap := HAPA.out w6 HO6.out Aa c1 La HR1.out HL1.out HL2.out
  rw [HNA.out] at hap
  have HAP := Lib.hid hap
  clear hap
  go_wp2_with fail
  refine HAP.out.mono ?_
  clear HAP
  rintro z w7 hpost
  obtain ⟨hO7, Ac, c3, rfl, hrs3⟩ := hpost.res
  rw [HRC.out] at hrs3 ⊢
  dsimp only at hrs3 ⊢
  rw [HNC.out]
  have HR3 := Lib.hid hrs3
  have HR1 := Lib.hid (HR1.out.next hO7)
  have HR2 := Lib.hid (HR2.out.next hO7)
  have HO7 := Lib.hid (HO6.out.thenNil hO7)
  have k7 := HKW.out w7 HO7.out
  clear hpost hO7 hrs3 k6
  have hap := HAPB.out w7 HO7.out Ab c2 La HR2.out HL1.out HL2.out
  rw [HNA.out] at hap
  have HAP := Lib.hid hap
  clear hap
  go_wp2_with fail
  refine HAP.out.mono ?_
  clear HAP
  rintro z w8 hpost
  obtain ⟨hO8, Ae, c4, rfl, hrs4⟩ := hpost.res
  rw [HRC.out] at hrs4 ⊢
  dsimp only at hrs4 ⊢
  rw [HNC.out]
  have HR4 := Lib.hid hrs4
  have HR1 := Lib.hid (HR1.out.next hO8)
  have HR2 := Lib.hid (HR2.out.next hO8)
  have HR3 := Lib.hid (HR3.out.next hO8)
  have HO8 := Lib.hid (HO7.out.thenNil hO8)
  clear hpost hO8 hrs4 k7
  have HST := Lib.hid (fun (u : World) (Ax : Option Addr) (cx n : Nat) (L : List UInt8) (hL : RSl u Ax cx L) (hn : L.length = n) => run_str (P := Try.prog) u 26 9 5 Try.underlying26 Try.underlying5 Try.underlying9 (c := cx) hL.bs hn.symm)
  go_upto_region 9 with fail
  go_cut [83] (fun v wd => v = .bool false ∧ Only Nil w8 wd)
  case first =>
    have HIN : Hid (∀ (L : Nat → Bool) (vs : Nat → Value) (u u' : World), Only Nil u u' → (fun _ _ u => Only Nil w8 u) L vs u → (fun _ _ u => Only Nil w8 u) L vs u') := Lib.hid (fun L vs u u' hO hI => by
      exact hI.thenNil hO)
    refine wp_region_any (by kernel_rfl) ?_
    change wpAny _ _ _ _ _ _ _ (World.drew _)
    refine take_first (i := 0) (v := ?v0_7) (some 55) rfl (by rfl) (by kernel_rfl) (by kernel_rfl) (by kernel_rfl) (fun _ _ _ h => h) (Or.inl ⟨by rfl, ?hy0_7⟩) ?rest0_7
    case hy0_7 => (intro w; go_simp <;> with_reducible rfl)
    refine take_first (i := 2) (v := ?v2_7) (some 57) rfl (by rfl) (by kernel_rfl) (by kernel_rfl) (by kernel_rfl) (fun _ _ _ h => h) (Or.inl ⟨by rfl, ?hy2_7⟩) ?rest2_7
    case hy2_7 => (intro w; go_simp <;> with_reducible rfl)
    refine wpAny_inv3 (X := [(1, some 56, []), (3, some 58, []), (4, some 59, [1, 3]), (5, some 60, [4]), (6, some 61, [5]), (7, some 62, [5]), (8, some 63, [5, 6, 7]), (9, some 64, [5, 8]), (10, some 65, [9]), (11, some 66, [10]), (12, some 67, [10, 11]), (13, some 68, [10]), (14, some 69, [10, 13]), (15, some 70, [10, 12, 14]), (16, some 71, [10, 15]), (17, some 72, [16]), (18, some 73, [17]), (19, some 74, [17]), (20, some 75, [17, 18, 19]), (21, some 76, [17, 20]), (22, some 77, [21]), (23, some 78, [22]), (24, some 79, [22, 23]), (25, some 80, [22]), (26, some 81, [22, 25]), (27, some 82, [22, 24, 26])]) (n := 26) (g := 1) (m := 28) (l0 := [true, false, true, false, false, false, false, false, false, false, false, false, false, false, false, false, false, false, false, false, false, false, false, false, false, false, false, false, false]) (T := Nil) (Ps := [Any, Cst (.string ⟨La.toArray⟩), Any, Cst (.string ⟨La.toArray⟩), Cst (.bool false), Cst (.bool false), Cst (.int .i64 Ea), Cst (.int .i64 Ea), Cst (.bool false), Cst (.bool false), Cst (.bool false), Cst (.slice Ac nc c3), Cst (.string ⟨Lc.toArray⟩), Cst (.slice Ae nc c4), Cst (.string ⟨Lc.toArray⟩), Cst (.bool false), Cst (.bool false), Cst (.bool false), Cst (.int .i64 Ec), Cst (.int .i64 Ec), Cst (.bool false), Cst (.bool false), Cst (.bool false), Cst (.agg #[.int .i64 kind, .int .i64 task, .int .i64 call, .int .i64 a0, .int .i64 a1, .int .i64 a2, .int .i64 result, .slice Ad D cd]), Cst (.bool V), Cst (.agg #[.int .i64 kind, .int .i64 task, .int .i64 call, .int .i64 a0, .int .i64 a1, .int .i64 a2, .int .i64 result, .slice Ad D cd]), Cst (.bool V), Cst (.bool false)])
      (I := fun _ _ u => Only Nil w8 u)
      (by kernel_rfl) rfl (by kernel_rfl) (by kernel_rfl) (by kernel_rfl) rfl ?h0_7 ?st_7 ?i0_7 ?step_7 ?fin_7
    case h0_7 =>
      intro j hj v u
      match j, hj with
      | 0, hj => trivial
      | 1, hj => exact absurd hj (by decide)
      | 2, hj => trivial
      | 3, hj => exact absurd hj (by decide)
      | 4, hj => exact absurd hj (by decide)
      | 5, hj => exact absurd hj (by decide)
      | 6, hj => exact absurd hj (by decide)
      | 7, hj => exact absurd hj (by decide)
      | 8, hj => exact absurd hj (by decide)
      | 9, hj => exact absurd hj (by decide)
      | 10, hj => exact absurd hj (by decide)
      | 11, hj => exact absurd hj (by decide)
      | 12, hj => exact absurd hj (by decide)
      | 13, hj => exact absurd hj (by decide)
      | 14, hj => exact absurd hj (by decide)
      | 15, hj => exact absurd hj (by decide)
      | 16, hj => exact absurd hj (by decide)
      | 17, hj => exact absurd hj (by decide)
      | 18, hj => exact absurd hj (by decide)
      | 19, hj => exact absurd hj (by decide)
      | 20, hj => exact absurd hj (by decide)
      | 21, hj => exact absurd hj (by decide)
      | 22, hj => exact absurd hj (by decide)
      | 23, hj => exact absurd hj (by decide)
      | 24, hj => exact absurd hj (by decide)
      | 25, hj => exact absurd hj (by decide)
      | 26, hj => exact absurd hj (by decide)
      | 27, hj => exact absurd hj (by decide)
      | 28, hj => exact absurd hj (by decide)
      | n + 29, hj => exact absurd hj (by simp)
    case st_7 =>
      have hT : ∀ x, (Nil) x → x < 0 := fun x h => h.elim
      intro p hp
      simp only [List.mem_cons, List.not_mem_nil, or_false] at hp
      rcases hp with rfl | rfl | rfl | rfl | rfl | rfl | rfl | rfl | rfl | rfl | rfl | rfl | rfl | rfl | rfl | rfl | rfl | rfl | rfl | rfl | rfl | rfl | rfl | rfl | rfl | rfl | rfl | rfl <;> first | exact Stays.cst _ | exact Stays.own hT | exact Stays.emp hT | exact Stays.any
    case i0_7 =>
      intro vs
      exact (Only.refl _ _).drew
    case step_7 =>
      refine List.forall_mem_cons.2 ⟨fun L vs u hI hA h0 hd => ?_, ?_⟩
      · as_aux_lemma =>
        refine inv_step3 _ (by rfl) (by rfl) (fun K' hK => ?_)
        simp only [putAll, Act.put, List.setIfInBounds_toArray, List.set_cons_succ, List.set_cons_zero] at hK ⊢
        have ks := HST.out u Aa c1 na La (HR1.out.next hI) HNA.out
        go_simp
        exact hK _ _ ⟨Only.refl _ _, hI, rfl⟩
      refine List.forall_mem_cons.2 ⟨fun L vs u hI hA h0 hd => ?_, ?_⟩
      · as_aux_lemma =>
        refine inv_step3 _ (by rfl) (by rfl) (fun K' hK => ?_)
        simp only [putAll, Act.put, List.setIfInBounds_toArray, List.set_cons_succ, List.set_cons_zero] at hK ⊢
        have ks := HST.out u Ab c2 na La (HR2.out.next hI) HNA.out
        go_simp
        exact hK _ _ ⟨Only.refl _ _, hI, rfl⟩
      refine List.forall_mem_cons.2 ⟨fun L vs u hI hA h0 hd => ?_, ?_⟩
      · as_aux_lemma =>
        refine inv_step3 _ (by rfl) (by rfl) (fun K' hK => ?_)
        simp only [putAll, Act.put, List.setIfInBounds_toArray, List.set_cons_succ, List.set_cons_zero] at hK ⊢
        have e1 := hA 1 (hd 1 (by simp))
        change vs 1 = (.string ⟨La.toArray⟩) at e1
        have e3 := hA 3 (hd 3 (by simp))
        change vs 3 = (.string ⟨La.toArray⟩) at e3
        simp only [e1, e3] at hK
        go_simp
        exact hK _ _ ⟨Only.refl _ _, hI, rfl⟩
      refine List.forall_mem_cons.2 ⟨fun L vs u hI hA h0 hd => ?_, ?_⟩
      · as_aux_lemma =>
        refine inv_step3 _ (by rfl) (by rfl) (fun K' hK => ?_)
        simp only [putAll, Act.put, List.setIfInBounds_toArray, List.set_cons_succ, List.set_cons_zero] at hK ⊢
        have e4 := hA 4 (hd 4 (by simp))
        change vs 4 = (.bool false) at e4
        simp only [e4] at hK
        go_simp
        exact hK _ _ ⟨Only.refl _ _, hI, rfl⟩
      refine List.forall_mem_cons.2 ⟨fun L vs u hI hA h0 hd => ?_, ?_⟩
      · as_aux_lemma =>
        refine inv_step3 _ (by rfl) (by rfl) (fun K' hK => ?_)
        simp only [putAll, Act.put, List.setIfInBounds_toArray, List.set_cons_succ, List.set_cons_zero] at hK ⊢
        have e5 := hA 5 (hd 5 (by simp))
        change vs 5 = (.bool false) at e5
        simp only [e5] at hK
        go_simp
        exact hK _ _ ⟨Only.refl _ _, hI, rfl⟩
      refine List.forall_mem_cons.2 ⟨fun L vs u hI hA h0 hd => ?_, ?_⟩
      · as_aux_lemma =>
        refine inv_step3 _ (by rfl) (by rfl) (fun K' hK => ?_)
        simp only [putAll, Act.put, List.setIfInBounds_toArray, List.set_cons_succ, List.set_cons_zero] at hK ⊢
        have e5 := hA 5 (hd 5 (by simp))
        change vs 5 = (.bool false) at e5
        simp only [e5] at hK
        go_simp
        exact hK _ _ ⟨Only.refl _ _, hI, rfl⟩
      refine List.forall_mem_cons.2 ⟨fun L vs u hI hA h0 hd => ?_, ?_⟩
      · as_aux_lemma =>
        refine inv_step3 _ (by rfl) (by rfl) (fun K' hK => ?_)
        simp only [putAll, Act.put, List.setIfInBounds_toArray, List.set_cons_succ, List.set_cons_zero] at hK ⊢
        have e5 := hA 5 (hd 5 (by simp))
        change vs 5 = (.bool false) at e5
        have e6 := hA 6 (hd 6 (by simp))
        change vs 6 = (.int .i64 Ea) at e6
        have e7 := hA 7 (hd 7 (by simp))
        change vs 7 = (.int .i64 Ea) at e7
        simp only [e5, e6, e7] at hK
        go_simp
        exact hK _ _ ⟨Only.refl _ _, hI, rfl⟩
      refine List.forall_mem_cons.2 ⟨fun L vs u hI hA h0 hd => ?_, ?_⟩
      · as_aux_lemma =>
        refine inv_step3 _ (by rfl) (by rfl) (fun K' hK => ?_)
        simp only [putAll, Act.put, List.setIfInBounds_toArray, List.set_cons_succ, List.set_cons_zero] at hK ⊢
        have e5 := hA 5 (hd 5 (by simp))
        change vs 5 = (.bool false) at e5
        have e8 := hA 8 (hd 8 (by simp))
        change vs 8 = (.bool false) at e8
        simp only [e5, e8] at hK
        go_simp
        exact hK _ _ ⟨Only.refl _ _, hI, rfl⟩
      refine List.forall_mem_cons.2 ⟨fun L vs u hI hA h0 hd => ?_, ?_⟩
      · as_aux_lemma =>
        refine inv_step3 _ (by rfl) (by rfl) (fun K' hK => ?_)
        simp only [putAll, Act.put, List.setIfInBounds_toArray, List.set_cons_succ, List.set_cons_zero] at hK ⊢
        have e9 := hA 9 (hd 9 (by simp))
        change vs 9 = (.bool false) at e9
        simp only [e9] at hK
        go_simp
        exact hK _ _ ⟨Only.refl _ _, hI, rfl⟩
      refine List.forall_mem_cons.2 ⟨fun L vs u hI hA h0 hd => ?_, ?_⟩
      · as_aux_lemma =>
        refine inv_step3 _ (by rfl) (by rfl) (fun K' hK => ?_)
        simp only [putAll, Act.put, List.setIfInBounds_toArray, List.set_cons_succ, List.set_cons_zero] at hK ⊢
        have e10 := hA 10 (hd 10 (by simp))
        change vs 10 = (.bool false) at e10
        simp only [e10] at hK
        go_simp
        exact hK _ _ ⟨Only.refl _ _, hI, rfl⟩
      refine List.forall_mem_cons.2 ⟨fun L vs u hI hA h0 hd => ?_, ?_⟩
      · as_aux_lemma =>
        refine inv_step3 _ (by rfl) (by rfl) (fun K' hK => ?_)
        simp only [putAll, Act.put, List.setIfInBounds_toArray, List.set_cons_succ, List.set_cons_zero] at hK ⊢
        have e10 := hA 10 (hd 10 (by simp))
        change vs 10 = (.bool false) at e10
        have e11 := hA 11 (hd 11 (by simp))
        change vs 11 = (.slice Ac nc c3) at e11
        simp only [e10, e11] at hK
        have ks := HST.out u Ac c3 nc Lc (HR3.out.next hI) HNC.out
        go_simp
        exact hK _ _ ⟨Only.refl _ _, hI, rfl⟩
      refine List.forall_mem_cons.2 ⟨fun L vs u hI hA h0 hd => ?_, ?_⟩
      · as_aux_lemma =>
        refine inv_step3 _ (by rfl) (by rfl) (fun K' hK => ?_)
        simp only [putAll, Act.put, List.setIfInBounds_toArray, List.set_cons_succ, List.set_cons_zero] at hK ⊢
        have e10 := hA 10 (hd 10 (by simp))
        change vs 10 = (.bool false) at e10
        simp only [e10] at hK
        go_simp
        exact hK _ _ ⟨Only.refl _ _, hI, rfl⟩
      refine List.forall_mem_cons.2 ⟨fun L vs u hI hA h0 hd => ?_, ?_⟩
      · as_aux_lemma =>
        refine inv_step3 _ (by rfl) (by rfl) (fun K' hK => ?_)
        simp only [putAll, Act.put, List.setIfInBounds_toArray, List.set_cons_succ, List.set_cons_zero] at hK ⊢
        have e10 := hA 10 (hd 10 (by simp))
        change vs 10 = (.bool false) at e10
        have e13 := hA 13 (hd 13 (by simp))
        change vs 13 = (.slice Ae nc c4) at e13
        simp only [e10, e13] at hK
        have ks := HST.out u Ae c4 nc Lc (HR4.out.next hI) HNC.out
        go_simp
        exact hK _ _ ⟨Only.refl _ _, hI, rfl⟩
      refine List.forall_mem_cons.2 ⟨fun L vs u hI hA h0 hd => ?_, ?_⟩
      · as_aux_lemma =>
        refine inv_step3 _ (by rfl) (by rfl) (fun K' hK => ?_)
        simp only [putAll, Act.put, List.setIfInBounds_toArray, List.set_cons_succ, List.set_cons_zero] at hK ⊢
        have e10 := hA 10 (hd 10 (by simp))
        change vs 10 = (.bool false) at e10
        have e12 := hA 12 (hd 12 (by simp))
        change vs 12 = (.string ⟨Lc.toArray⟩) at e12
        have e14 := hA 14 (hd 14 (by simp))
        change vs 14 = (.string ⟨Lc.toArray⟩) at e14
        simp only [e10, e12, e14] at hK
        go_simp
        exact hK _ _ ⟨Only.refl _ _, hI, rfl⟩
      refine List.forall_mem_cons.2 ⟨fun L vs u hI hA h0 hd => ?_, ?_⟩
      · as_aux_lemma =>
        refine inv_step3 _ (by rfl) (by rfl) (fun K' hK => ?_)
        simp only [putAll, Act.put, List.setIfInBounds_toArray, List.set_cons_succ, List.set_cons_zero] at hK ⊢
        have e10 := hA 10 (hd 10 (by simp))
        change vs 10 = (.bool false) at e10
        have e15 := hA 15 (hd 15 (by simp))
        change vs 15 = (.bool false) at e15
        simp only [e10, e15] at hK
        go_simp
        exact hK _ _ ⟨Only.refl _ _, hI, rfl⟩
      refine List.forall_mem_cons.2 ⟨fun L vs u hI hA h0 hd => ?_, ?_⟩
      · as_aux_lemma =>
        refine inv_step3 _ (by rfl) (by rfl) (fun K' hK => ?_)
        simp only [putAll, Act.put, List.setIfInBounds_toArray, List.set_cons_succ, List.set_cons_zero] at hK ⊢
        have e16 := hA 16 (hd 16 (by simp))
        change vs 16 = (.bool false) at e16
        simp only [e16] at hK
        go_simp
        exact hK _ _ ⟨Only.refl _ _, hI, rfl⟩
      refine List.forall_mem_cons.2 ⟨fun L vs u hI hA h0 hd => ?_, ?_⟩
      · as_aux_lemma =>
        refine inv_step3 _ (by rfl) (by rfl) (fun K' hK => ?_)
        simp only [putAll, Act.put, List.setIfInBounds_toArray, List.set_cons_succ, List.set_cons_zero] at hK ⊢
        have e17 := hA 17 (hd 17 (by simp))
        change vs 17 = (.bool false) at e17
        simp only [e17] at hK
        go_simp
        exact hK _ _ ⟨Only.refl _ _, hI, rfl⟩
      refine List.forall_mem_cons.2 ⟨fun L vs u hI hA h0 hd => ?_, ?_⟩
      · as_aux_lemma =>
        refine inv_step3 _ (by rfl) (by rfl) (fun K' hK => ?_)
        simp only [putAll, Act.put, List.setIfInBounds_toArray, List.set_cons_succ, List.set_cons_zero] at hK ⊢
        have e17 := hA 17 (hd 17 (by simp))
        change vs 17 = (.bool false) at e17
        simp only [e17] at hK
        go_simp
        exact hK _ _ ⟨Only.refl _ _, hI, rfl⟩
      refine List.forall_mem_cons.2 ⟨fun L vs u hI hA h0 hd => ?_, ?_⟩
      · as_aux_lemma =>
        refine inv_step3 _ (by rfl) (by rfl) (fun K' hK => ?_)
        simp only [putAll, Act.put, List.setIfInBounds_toArray, List.set_cons_succ, List.set_cons_zero] at hK ⊢
        have e17 := hA 17 (hd 17 (by simp))
        change vs 17 = (.bool false) at e17
        have e18 := hA 18 (hd 18 (by simp))
        change vs 18 = (.int .i64 Ec) at e18
        have e19 := hA 19 (hd 19 (by simp))
        change vs 19 = (.int .i64 Ec) at e19
        simp only [e17, e18, e19] at hK
        go_simp
        exact hK _ _ ⟨Only.refl _ _, hI, rfl⟩
      refine List.forall_mem_cons.2 ⟨fun L vs u hI hA h0 hd => ?_, ?_⟩
      · as_aux_lemma =>
        refine inv_step3 _ (by rfl) (by rfl) (fun K' hK => ?_)
        simp only [putAll, Act.put, List.setIfInBounds_toArray, List.set_cons_succ, List.set_cons_zero] at hK ⊢
        have e17 := hA 17 (hd 17 (by simp))
        change vs 17 = (.bool false) at e17
        have e20 := hA 20 (hd 20 (by simp))
        change vs 20 = (.bool false) at e20
        simp only [e17, e20] at hK
        go_simp
        exact hK _ _ ⟨Only.refl _ _, hI, rfl⟩
      refine List.forall_mem_cons.2 ⟨fun L vs u hI hA h0 hd => ?_, ?_⟩
      · as_aux_lemma =>
        refine inv_step3 _ (by rfl) (by rfl) (fun K' hK => ?_)
        simp only [putAll, Act.put, List.setIfInBounds_toArray, List.set_cons_succ, List.set_cons_zero] at hK ⊢
        have e21 := hA 21 (hd 21 (by simp))
        change vs 21 = (.bool false) at e21
        simp only [e21] at hK
        go_simp
        exact hK _ _ ⟨Only.refl _ _, hI, rfl⟩
      refine List.forall_mem_cons.2 ⟨fun L vs u hI hA h0 hd => ?_, ?_⟩
      · as_aux_lemma =>
        refine inv_step3 _ (by rfl) (by rfl) (fun K' hK => ?_)
        simp only [putAll, Act.put, List.setIfInBounds_toArray, List.set_cons_succ, List.set_cons_zero] at hK ⊢
        have e22 := hA 22 (hd 22 (by simp))
        change vs 22 = (.bool false) at e22
        simp only [e22] at hK
        have ks := HKW.out u (HO8.out.thenNil hI)
        go_simp
        exact hK _ _ ⟨Only.refl _ _, hI, rfl⟩
      refine List.forall_mem_cons.2 ⟨fun L vs u hI hA h0 hd => ?_, ?_⟩
      · as_aux_lemma =>
        refine inv_step3 _ (by rfl) (by rfl) (fun K' hK => ?_)
        simp only [putAll, Act.put, List.setIfInBounds_toArray, List.set_cons_succ, List.set_cons_zero] at hK ⊢
        have e22 := hA 22 (hd 22 (by simp))
        change vs 22 = (.bool false) at e22
        have e23 := hA 23 (hd 23 (by simp))
        change vs 23 = (.agg #[.int .i64 kind, .int .i64 task, .int .i64 call, .int .i64 a0, .int .i64 a1, .int .i64 a2, .int .i64 result, .slice Ad D cd]) at e23
        simp only [e22, e23] at hK
        simp only [e23] at hK ⊢
        go_simp
        go_at_call 16
        refine (HVA.out u).mono ?_
        rintro z u2 ⟨rfl, hO2⟩
        go_simp
        exact hK _ _ ⟨hO2, HIN.out L vs _ _ hO2 hI, rfl⟩
      refine List.forall_mem_cons.2 ⟨fun L vs u hI hA h0 hd => ?_, ?_⟩
      · as_aux_lemma =>
        refine inv_step3 _ (by rfl) (by rfl) (fun K' hK => ?_)
        simp only [putAll, Act.put, List.setIfInBounds_toArray, List.set_cons_succ, List.set_cons_zero] at hK ⊢
        have e22 := hA 22 (hd 22 (by simp))
        change vs 22 = (.bool false) at e22
        simp only [e22] at hK
        have ks := HKW.out u (HO8.out.thenNil hI)
        go_simp
        exact hK _ _ ⟨Only.refl _ _, hI, rfl⟩
      refine List.forall_mem_cons.2 ⟨fun L vs u hI hA h0 hd => ?_, ?_⟩
      · as_aux_lemma =>
        refine inv_step3 _ (by rfl) (by rfl) (fun K' hK => ?_)
        simp only [putAll, Act.put, List.setIfInBounds_toArray, List.set_cons_succ, List.set_cons_zero] at hK ⊢
        have e22 := hA 22 (hd 22 (by simp))
        change vs 22 = (.bool false) at e22
        have e25 := hA 25 (hd 25 (by simp))
        change vs 25 = (.agg #[.int .i64 kind, .int .i64 task, .int .i64 call, .int .i64 a0, .int .i64 a1, .int .i64 a2, .int .i64 result, .slice Ad D cd]) at e25
        simp only [e22, e25] at hK
        simp only [e25] at hK ⊢
        go_simp
        go_at_call 17
        refine (HVB.out u).mono ?_
        rintro z u2 ⟨rfl, hO2⟩
        go_simp
        exact hK _ _ ⟨hO2, HIN.out L vs _ _ hO2 hI, rfl⟩
      refine List.forall_mem_cons.2 ⟨fun L vs u hI hA h0 hd => ?_, ?_⟩
      rotate_left
      · exact fun x hx => absurd hx (List.not_mem_nil)
      · as_aux_lemma =>
        refine inv_step3 _ (by rfl) (by rfl) (fun K' hK => ?_)
        simp only [putAll, Act.put, List.setIfInBounds_toArray, List.set_cons_succ, List.set_cons_zero] at hK ⊢
        have e22 := hA 22 (hd 22 (by simp))
        change vs 22 = (.bool false) at e22
        have e24 := hA 24 (hd 24 (by simp))
        change vs 24 = (.bool V) at e24
        have e26 := hA 26 (hd 26 (by simp))
        change vs 26 = (.bool V) at e26
        simp only [e22, e24, e26] at hK
        go_simp
        exact hK _ _ ⟨Only.refl _ _, hI, rfl⟩
    case fin_7 =>
      intro L vs u hI hL hA
      simp only [putAll, Act.put, List.setIfInBounds_toArray, List.set_cons_succ, List.set_cons_zero, List.drop_succ_cons, List.drop_zero]
      have e22 := hA 22 (by omega)
      change vs 22 = .bool false at e22
      have e27 := hA 27 (by omega)
      change vs 27 = .bool false at e27
      simp only [e22, e27]
      have HI := Lib.hid hI
      clear hA hL hI e22 e27
      go_wp2_with fail
      go_meet
      case rel => exact ⟨rfl, HI.out⟩
  case rest =>
  obtain ⟨rfl, hOc⟩ := hcut
  have HR1 := Lib.hid (HR1.out.next hOc)
  have HOC := Lib.hid (HO8.out.thenNil hOc)
  clear hOc HR2 HR3 HR4
  go_wp2_with fail
  refine (HWM.out _ HOC.out).mono ?_
  rintro z w9 hpost
  obtain ⟨hO9, Ak, c5, rfl, hrs5⟩ := hpost.res
  rw [HRK.out] at hrs5 ⊢
  dsimp only at hrs5 ⊢
  rw [HNK.out]
  have HR5 := Lib.hid hrs5
  have HR1 := Lib.hid (HR1.out.next hO9)
  have HO9 := Lib.hid (HOC.out.thenNil hO9)
  clear hpost hO9 hrs5
  by_cases hEa : Ea = 0
  rotate_left
  · have b1 : (Ea == 0) = false := beq_false_of_ne hEa
    have b2 : (Ea != 0) = true := by simp [hEa]
    clear hEa
    go_wp2_with fail
    go_quiet (fail)
    go_wp2_with fail
    refine bodyPost_ret (v := .bool true) (by simp [results, Try.results5, go_sem]) rfl ?_
    exact ⟨rfl, (HO0.out.thenNil HO9.out).thenNil (by (repeat' (first | with_reducible exact Only.refl _ _ | with_reducible refine Only.setCell ?_ (Or.inl ?_) _ | with_reducible refine Only.drewN ?_ _ | with_reducible refine Only.drew ?_ | with_reducible refine Only.alloc ?_ _ | (fail))))⟩
  by_cases hEk : Ek = 0
  rotate_left
  · have b1 : (Ek == 0) = false := beq_false_of_ne hEk
    have b2 : (Ek != 0) = true := by simp [hEk]
    subst hEa
    clear hEk
    go_wp2_with fail
    go_quiet (fail)
    go_wp2_with fail
    refine bodyPost_ret (v := .bool true) (by simp [results, Try.results5, go_sem]) rfl ?_
    exact ⟨rfl, (HO0.out.thenNil HO9.out).thenNil (by (repeat' (first | with_reducible exact Only.refl _ _ | with_reducible refine Only.setCell ?_ (Or.inl ?_) _ | with_reducible refine Only.drewN ?_ _ | with_reducible refine Only.drew ?_ | with_reducible refine Only.alloc ?_ _ | (fail))))⟩
  subst hEa hEk
  have hbs : (La == Lk) = S := HSAME.out rfl rfl
  obtain ⟨q, hq⟩ : ∃ q, (La == Lk) = q := ⟨_, rfl⟩
  have hqS : q = S := hq.symm.trans hbs
  subst hqS
  clear hbs
  go_wp2_with fail
  have HIN : Hid (∀ (L : Nat → Bool) (vs : Nat → Value) (u u' : World), Only Nil u u' → (fun _ _ u => Only Nil w9 u) L vs u → (fun _ _ u => Only Nil w9 u) L vs u') := Lib.hid (fun L vs u u' hO hI => by
    exact hI.thenNil hO)
  refine wp_region_any (by kernel_rfl) ?_
  change wpAny _ _ _ _ _ _ _ (World.drew _)
  refine take_first (i := 0) (v := ?v0_8) (some 89) rfl (by rfl) (by kernel_rfl) (by kernel_rfl) (by kernel_rfl) (fun _ _ _ h => h) (Or.inl ⟨by rfl, ?hy0_8⟩) ?rest0_8
  case hy0_8 => (intro w; go_simp <;> with_reducible rfl)
  refine take_first (i := 1) (v := ?v1_8) (some 90) rfl (by rfl) (by kernel_rfl) (by kernel_rfl) (by kernel_rfl) (fun _ _ _ h => h) (Or.inl ⟨by rfl, ?hy1_8⟩) ?rest1_8
  case hy1_8 => (intro w; go_simp <;> with_reducible rfl)
  refine take_first (i := 2) (v := ?v2_8) (some 91) rfl (by rfl) (by kernel_rfl) (by kernel_rfl) (by kernel_rfl) (fun _ _ _ h => h) (Or.inl ⟨by rfl, ?hy2_8⟩) ?rest2_8
  case hy2_8 => (intro w; go_simp <;> with_reducible rfl)
  refine wpAny_inv3 (X := [(3, some 92, []), (4, some 93, [3]), (5, some 94, [4]), (6, some 95, [5]), (7, some 96, [6]), (8, some 97, [6, 7]), (9, some 98, [6]), (10, some 99, [6, 9]), (11, some 100, [6, 8, 10]), (12, some 101, [6]), (13, some 102, [6]), (14, some 103, [6, 12, 13]), (15, some 104, [6, 11, 14])]) (n := 13) (g := 2) (m := 16) (l0 := [true, true, true, false, false, false, false, false, false, false, false, false, false, false, false, false, false, false]) (T := Nil) (Ps := [Any, Any, Any, Cst (.int .i64 0), Cst (.bool false), Cst (.bool false), Cst (.bool false), Cst (.slice Aa na c1), Cst (.string ⟨La.toArray⟩), Cst (.slice Ak nk c5), Cst (.string ⟨Lk.toArray⟩), Cst (.bool q), Cst (.slice A N ca), Cst (.slice B M cb), Cst (.bool q), Cst (.bool true)])
    (I := fun _ _ u => Only Nil w9 u)
    (by kernel_rfl) rfl (by kernel_rfl) (by kernel_rfl) (by kernel_rfl) rfl ?h0_8 ?st_8 ?i0_8 ?step_8 ?fin_8
  case h0_8 =>
    intro j hj v u
    match j, hj with
    | 0, hj => trivial
    | 1, hj => trivial
    | 2, hj => trivial
    | 3, hj => exact absurd hj (by decide)
    | 4, hj => exact absurd hj (by decide)
    | 5, hj => exact absurd hj (by decide)
    | 6, hj => exact absurd hj (by decide)
    | 7, hj => exact absurd hj (by decide)
    | 8, hj => exact absurd hj (by decide)
    | 9, hj => exact absurd hj (by decide)
    | 10, hj => exact absurd hj (by decide)
    | 11, hj => exact absurd hj (by decide)
    | 12, hj => exact absurd hj (by decide)
    | 13, hj => exact absurd hj (by decide)
    | 14, hj => exact absurd hj (by decide)
    | 15, hj => exact absurd hj (by decide)
    | 16, hj => exact absurd hj (by decide)
    | 17, hj => exact absurd hj (by decide)
    | n + 18, hj => exact absurd hj (by simp)
  case st_8 =>
    have hT : ∀ x, (Nil) x → x < 0 := fun x h => h.elim
    intro p hp
    simp only [List.mem_cons, List.not_mem_nil, or_false] at hp
    rcases hp with rfl | rfl | rfl | rfl | rfl | rfl | rfl | rfl | rfl | rfl | rfl | rfl | rfl | rfl | rfl | rfl <;> first | exact Stays.cst _ | exact Stays.own hT | exact Stays.emp hT | exact Stays.any
  case i0_8 =>
    intro vs
    exact (Only.refl _ _).drew
  case step_8 =>
    refine List.forall_mem_cons.2 ⟨fun L vs u hI hA h0 hd => ?_, ?_⟩
    · as_aux_lemma =>
      refine inv_step3 _ (by rfl) (by rfl) (fun K' hK => ?_)
      simp only [putAll, Act.put, List.setIfInBounds_toArray, List.set_cons_succ, List.set_cons_zero] at hK ⊢
      go_simp
      exact hK _ _ ⟨Only.refl _ _, hI, rfl⟩
    refine List.forall_mem_cons.2 ⟨fun L vs u hI hA h0 hd => ?_, ?_⟩
    · as_aux_lemma =>
      refine inv_step3 _ (by rfl) (by rfl) (fun K' hK => ?_)
      simp only [putAll, Act.put, List.setIfInBounds_toArray, List.set_cons_succ, List.set_cons_zero] at hK ⊢
      have e3 := hA 3 (hd 3 (by simp))
      change vs 3 = (.int .i64 0) at e3
      simp only [e3] at hK
      go_simp
      exact hK _ _ ⟨Only.refl _ _, hI, rfl⟩
    refine List.forall_mem_cons.2 ⟨fun L vs u hI hA h0 hd => ?_, ?_⟩
    · as_aux_lemma =>
      refine inv_step3 _ (by rfl) (by rfl) (fun K' hK => ?_)
      simp only [putAll, Act.put, List.setIfInBounds_toArray, List.set_cons_succ, List.set_cons_zero] at hK ⊢
      have e4 := hA 4 (hd 4 (by simp))
      change vs 4 = (.bool false) at e4
      simp only [e4] at hK
      go_simp
      exact hK _ _ ⟨Only.refl _ _, hI, rfl⟩
    refine List.forall_mem_cons.2 ⟨fun L vs u hI hA h0 hd => ?_, ?_⟩
    · as_aux_lemma =>
      refine inv_step3 _ (by rfl) (by rfl) (fun K' hK => ?_)
      simp only [putAll, Act.put, List.setIfInBounds_toArray, List.set_cons_succ, List.set_cons_zero] at hK ⊢
      have e5 := hA 5 (hd 5 (by simp))
      change vs 5 = (.bool false) at e5
      simp only [e5] at hK
      go_simp
      exact hK _ _ ⟨Only.refl _ _, hI, rfl⟩
    refine List.forall_mem_cons.2 ⟨fun L vs u hI hA h0 hd => ?_, ?_⟩
    · as_aux_lemma =>
      refine inv_step3 _ (by rfl) (by rfl) (fun K' hK => ?_)
      simp only [putAll, Act.put, List.setIfInBounds_toArray, List.set_cons_succ, List.set_cons_zero] at hK ⊢
      have e6 := hA 6 (hd 6 (by simp))
      change vs 6 = (.bool false) at e6
      simp only [e6] at hK
      go_simp
      exact hK _ _ ⟨Only.refl _ _, hI, rfl⟩
    refine List.forall_mem_cons.2 ⟨fun L vs u hI hA h0 hd => ?_, ?_⟩
    · as_aux_lemma =>
      refine inv_step3 _ (by rfl) (by rfl) (fun K' hK => ?_)
      simp only [putAll, Act.put, List.setIfInBounds_toArray, List.set_cons_succ, List.set_cons_zero] at hK ⊢
      have e6 := hA 6 (hd 6 (by simp))
      change vs 6 = (.bool false) at e6
      have e7 := hA 7 (hd 7 (by simp))
      change vs 7 = (.slice Aa na c1) at e7
      simp only [e6, e7] at hK
      have ks := HST.out u Aa c1 na La (HR1.out.next hI) HNA.out
      go_simp
      exact hK _ _ ⟨Only.refl _ _, hI, rfl⟩
    refine List.forall_mem_cons.2 ⟨fun L vs u hI hA h0 hd => ?_, ?_⟩
    · as_aux_lemma =>
      refine inv_step3 _ (by rfl) (by rfl) (fun K' hK => ?_)
      simp only [putAll, Act.put, List.setIfInBounds_toArray, List.set_cons_succ, List.set_cons_zero] at hK ⊢
      have e6 := hA 6 (hd 6 (by simp))
      change vs 6 = (.bool false) at e6
      simp only [e6] at hK
      go_simp
      exact hK _ _ ⟨Only.refl _ _, hI, rfl⟩
    refine List.forall_mem_cons.2 ⟨fun L vs u hI hA h0 hd => ?_, ?_⟩
    · as_aux_lemma =>
      refine inv_step3 _ (by rfl) (by rfl) (fun K' hK => ?_)
      simp only [putAll, Act.put, List.setIfInBounds_toArray, List.set_cons_succ, List.set_cons_zero] at hK ⊢
      have e6 := hA 6 (hd 6 (by simp))
      change vs 6 = (.bool false) at e6
      have e9 := hA 9 (hd 9 (by simp))
      change vs 9 = (.slice Ak nk c5) at e9
      simp only [e6, e9] at hK
      have ks := HST.out u Ak c5 nk Lk (HR5.out.next hI) HNK.out
      go_simp
      exact hK _ _ ⟨Only.refl _ _, hI, rfl⟩
    refine List.forall_mem_cons.2 ⟨fun L vs u hI hA h0 hd => ?_, ?_⟩
    · as_aux_lemma =>
      refine inv_step3 _ (by rfl) (by rfl) (fun K' hK => ?_)
      simp only [putAll, Act.put, List.setIfInBounds_toArray, List.set_cons_succ, List.set_cons_zero] at hK ⊢
      have e6 := hA 6 (hd 6 (by simp))
      change vs 6 = (.bool false) at e6
      have e8 := hA 8 (hd 8 (by simp))
      change vs 8 = (.string ⟨La.toArray⟩) at e8
      have e10 := hA 10 (hd 10 (by simp))
      change vs 10 = (.string ⟨Lk.toArray⟩) at e10
      simp only [e6, e8, e10] at hK
      go_simp
      exact hK _ _ ⟨Only.refl _ _, hI, rfl⟩
    refine List.forall_mem_cons.2 ⟨fun L vs u hI hA h0 hd => ?_, ?_⟩
    · as_aux_lemma =>
      refine inv_step3 _ (by rfl) (by rfl) (fun K' hK => ?_)
      simp only [putAll, Act.put, List.setIfInBounds_toArray, List.set_cons_succ, List.set_cons_zero] at hK ⊢
      have e6 := hA 6 (hd 6 (by simp))
      change vs 6 = (.bool false) at e6
      simp only [e6] at hK
      go_simp
      exact hK _ _ ⟨Only.refl _ _, hI, rfl⟩
    refine List.forall_mem_cons.2 ⟨fun L vs u hI hA h0 hd => ?_, ?_⟩
    · as_aux_lemma =>
      refine inv_step3 _ (by rfl) (by rfl) (fun K' hK => ?_)
      simp only [putAll, Act.put, List.setIfInBounds_toArray, List.set_cons_succ, List.set_cons_zero] at hK ⊢
      have e6 := hA 6 (hd 6 (by simp))
      change vs 6 = (.bool false) at e6
      simp only [e6] at hK
      go_simp
      exact hK _ _ ⟨Only.refl _ _, hI, rfl⟩
    refine List.forall_mem_cons.2 ⟨fun L vs u hI hA h0 hd => ?_, ?_⟩
    · as_aux_lemma =>
      refine inv_step3 _ (by rfl) (by rfl) (fun K' hK => ?_)
      simp only [putAll, Act.put, List.setIfInBounds_toArray, List.set_cons_succ, List.set_cons_zero] at hK ⊢
      have e6 := hA 6 (hd 6 (by simp))
      change vs 6 = (.bool false) at e6
      have e12 := hA 12 (hd 12 (by simp))
      change vs 12 = (.slice A N ca) at e12
      have e13 := hA 13 (hd 13 (by simp))
      change vs 13 = (.slice B M cb) at e13
      simp only [e6, e12, e13] at hK
      simp only [e12, e13] at hK ⊢
      go_simp
      go_at_call 12
      refine (HSM.out u (HO9.out.thenNil hI)).mono ?_
      rintro z u2 ⟨rfl, hO2⟩
      go_simp
      exact hK _ _ ⟨hO2, HIN.out L vs _ _ hO2 hI, rfl⟩
    refine List.forall_mem_cons.2 ⟨fun L vs u hI hA h0 hd => ?_, ?_⟩
    rotate_left
    · exact fun x hx => absurd hx (List.not_mem_nil)
    · as_aux_lemma =>
      refine inv_step3 _ (by rfl) (by rfl) (fun K' hK => ?_)
      simp only [putAll, Act.put, List.setIfInBounds_toArray, List.set_cons_succ, List.set_cons_zero] at hK ⊢
      have e6 := hA 6 (hd 6 (by simp))
      change vs 6 = (.bool false) at e6
      have e11 := hA 11 (hd 11 (by simp))
      change vs 11 = (.bool q) at e11
      have e14 := hA 14 (hd 14 (by simp))
      change vs 14 = (.bool q) at e14
      simp only [e6, e11, e14] at hK
      go_simp
      exact hK _ _ ⟨Only.refl _ _, hI, rfl⟩
  case fin_8 =>
    intro L vs u hI hL hA
    simp only [putAll, Act.put, List.setIfInBounds_toArray, List.set_cons_succ, List.set_cons_zero, List.drop_succ_cons, List.drop_zero]
    have e15 := hA 15 (by omega)
    change vs 15 = .bool true at e15
    have e6 := hA 6 (by omega)
    change vs 6 = .bool false at e6
    simp only [e6, e15]
    have HI := Lib.hid hI
    clear hA hL hI e6 e15
    go_wp2_with fail
    refine bodyPost_ret (v := .bool true) (by simp [results, Try.results5, go_sem]) rfl ?_
    exact ⟨rfl, (HO0.out.thenNil HO9.out).thenNil (HI.out.thenNil (by (repeat' (first | with_reducible exact Only.refl _ _ | with_reducible refine Only.setCell ?_ (Or.inl ?_) _ | with_reducible refine Only.drewN ?_ _ | with_reducible refine Only.drew ?_ | with_reducible refine Only.alloc ?_ _ | (fail)))))⟩

set_option maxRecDepth 100000 in
theorem from_args {H : Type} {enc : TypeId × Value → H} (W : World) (base : Nat) (args : Array Value) (ds : List (DataW H)) (ps : List MemPlace)
    (hval0 : ∀ (j : Nat) t v, Try.f5.params[j]? = some t → args[j]? = some v → Value.okWide Try.prog W .any base t v)
    (hA : DataW.TrodAll enc Try.prog W 0 (fun _ => true) true Try.f5.params.toList args.toList ds ps) (_hlt : ∀ x ∈ ps, x.block < W.heap.size)
    (hsz : (DataW.weightsEach Try.prog Try.f5.params.toList ds).all (· ≤ reachBytes) = true) : Calls Try.prog 5 args W (LawPost W) := by
  have hval := hval0
  rw [Try.params5] at hA hval hsz
  obtain ⟨v0, vs0, d0, ds0, p0, q0, hargs, rfl, rfl, h0, r0⟩ := trodAll_cons hA
  obtain ⟨v1, vs1, d1, ds1, p1, q1, rfl, rfl, rfl, h1, r1⟩ := trodAll_cons r0
  obtain ⟨v2, vs2, d2, ds2, p2, q2, rfl, rfl, rfl, h2, r2⟩ := trodAll_cons r1
  obtain ⟨rfl, rfl, rfl⟩ := trodAll_nil r2
  obtain rfl : args = #[v0, v1, v2] := by cases args; simp_all
  obtain ⟨A, rs, ca, rfl, h1', h2', hE⟩ := open_entries (hval 0 _ v0 rfl rfl) h0
  obtain ⟨B, ms, cb, rfl, h3', h4', hM⟩ := open_entries (hval 1 _ v1 rfl rfl) h1
  obtain ⟨r, rfl, hr⟩ := open_entry (hval 2 _ v2 rfl rfl) h2
  exact walk A ca rs B cb ms r W hE hM hr (by omega) (by omega)

set_option maxRecDepth 100000 in
theorem over : Rows.recordWriteRow.holds Try.pinned (OpenSpec.ofChange Rows.recordWriteSpec) :=
  OpenClaim.holds_of_wide 5 Try.f5 rfl rfl rfl rfl rfl rfl rfl ⟨rfl, rfl, rfl, rfl, rfl⟩ rfl rfl rfl rfl rfl (by kernel_rfl) Try.func5 (by kernel_rfl)
    (of_decide_eq_true (by kernel_rfl)) (by unfold Func.isWrapper; first | (rw [if_pos (by decide +kernel)]; kernel_rfl) | (rw [if_neg (by decide +kernel)]; exact ⟨rfl, rfl⟩))
    (fun os started H enc _ => law_lifted (f := 5) (F := Try.f5) (s := Rows.recordWriteSpec) os started H enc (by kernel_rfl) Try.func5 rfl rfl (by kernel_rfl) (by kernel_rfl)
      (fun ds hd => by match ds, hd with | [_, _, _], _ => rfl)
      (ChangeSpec.witness6 (enc := enc) (C := Try.checked) false ⟨#[], #[.slice none 0 0, .slice none 0 0, .agg #[.int .i64 0, .int .i64 0, .int .i64 0, .int .i64 0, .int .i64 0, .int .i64 0, .int .i64 0, .slice none 0 0]], []⟩ 8 (by kernel_rfl) (by kernel_rfl) (by kernel_rfl) (by kernel_rfl))
      (fun W base args ds ps hv hA hlt hsz => from_args W base args ds ps hv hA hlt hsz))

/-- The statement. -/
theorem proved : Rows.RecordWriteSaid := over

end recordWrite
end Go.Proofs.Ytkcmdibpndkfbaa
