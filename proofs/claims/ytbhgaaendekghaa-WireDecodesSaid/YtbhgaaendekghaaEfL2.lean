/-
  The law WireDecodes: ReadMsg, ReadEffects and ReadEntry return the specified values or errors.
  No conditions.
-/
import Derived.Test.YtbhgaaendekghaaEfG
import Derived.Test.YtbhgaaendekghaaEfS
import Derived.Test.YtbhgaaendekghaaEfE
import Derived.Test.YtbhgaaendekghaaEfW
import Derived.Test.YtbhgaaendekghaaEfN2
import Derived.Laws.Externs
namespace Go.Proofs.Ytbhgaaendekghaa
open Go.ChangeShapes Go.WideShapes Go.ChangeAt Go.RowKit Go.Deep

theorem readMs_cases (l : List UInt8) : ∃ m err q f, readMs l = (m, err) ∧ rMsg l 0 false = ((rMsg l 0 false).1, q, f) ∧ (if f = true ∨ q ≠ l.length then (4 : Int) else 0) = err ∧ ((err = 0 ∧ sameM m (rMsg l 0 false).1 = true) ∨ (err = 4 ∧ sameM m zM = true)) := by
  obtain ⟨x, q, f, h⟩ : ∃ x q f, rMsg l 0 false = (x, q, f) := ⟨_, _, _, rfl⟩
  have e := readMs_eq l
  rw [h] at e ⊢
  dsimp only at e
  by_cases hc : f = true ∨ q ≠ l.length
  · rw [if_pos hc] at e
    exact ⟨_, _, q, f, e, rfl, by rw [if_pos hc], .inr ⟨rfl, sameM_iff.2 rfl⟩⟩
  · rw [if_neg hc] at e
    exact ⟨_, _, q, f, e, rfl, by rw [if_neg hc], .inl ⟨rfl, sameM_iff.2 rfl⟩⟩
theorem readE_cases (l : List UInt8) : ∃ m err q f, readE l = (m, err) ∧ rEnt l 0 false = ((rEnt l 0 false).1, q, f) ∧ (if f = true ∨ q ≠ l.length then (4 : Int) else 0) = err ∧ ((err = 0 ∧ sameE m (rEnt l 0 false).1 = true) ∨ (err = 4 ∧ sameE m zE = true)) := by
  obtain ⟨x, q, f, h⟩ : ∃ x q f, rEnt l 0 false = (x, q, f) := ⟨_, _, _, rfl⟩
  have e := readE_eq l
  rw [h] at e ⊢
  dsimp only at e
  by_cases hc : f = true ∨ q ≠ l.length
  · rw [if_pos hc] at e
    exact ⟨_, _, q, f, e, rfl, by rw [if_pos hc], .inr ⟨rfl, sameE_iff.2 rfl⟩⟩
  · rw [if_neg hc] at e
    exact ⟨_, _, q, f, e, rfl, by rw [if_neg hc], .inl ⟨rfl, sameE_iff.2 rfl⟩⟩
theorem readFs_cases (l : List UInt8) : ∃ m err q f, readFs l = (m, err) ∧ rEfs l 0 false = ((rEfs l 0 false).1, q, f) ∧ (if f = true ∨ q ≠ l.length then (4 : Int) else 0) = err ∧ ((err = 0 ∧ m = (rEfs l 0 false).1) ∨ (err = 4 ∧ m = [])) ∧ m.length ≤ 160 := by
  have hlen : (rEfs l 0 false).1.length ≤ 160 := by
    unfold rEfs
    split
    · simp
    · split
      · rename_i hd; exact (decFs_some hd).2.2.1
      · simp
  obtain ⟨x, q, f, h⟩ : ∃ x q f, rEfs l 0 false = (x, q, f) := ⟨_, _, _, rfl⟩
  have e := readFs_eq l
  rw [h] at e hlen ⊢
  dsimp only at e hlen
  by_cases hc : f = true ∨ q ≠ l.length
  · rw [if_pos hc] at e
    exact ⟨_, _, q, f, e, rfl, by rw [if_pos hc], .inr ⟨rfl, rfl⟩, by simp⟩
  · rw [if_neg hc] at e
    exact ⟨_, _, q, f, e, rfl, by rw [if_neg hc], .inl ⟨rfl, rfl⟩, hlen⟩

set_option maxRecDepth 100000 in
/-- Bytes as an argument. -/
theorem open_barg {H : Type} {enc : TypeId × Value → H} {W : World} {v : Value} {d : DataW H} {p : List MemPlace} {base : Nat}
    (hv : Value.okWide Try.prog W .any base 22 v) (h : DataW.Trod enc Try.prog W 0 (fun _ => true) true 22 v d p) :
    ∃ (A : Option Addr) (l : List UInt8) (c : Nat), v = .slice A l.length c ∧ l.length ≤ c ∧ c ≤ maxLen ∧ Bs W W.heap.size A l := by
  obtain ⟨a0, len, cap, rfl⟩ := okWide_slice Try.underlying22 hv
  obtain ⟨fuel, hf⟩ := h
  have hf' : DataW.trod enc Try.prog W 0 (fun _ => true) true fuel 22 [.slice a0 len cap] = some (d, p) := hf
  obtain ⟨A, l, c, h1, h2, h3, h4, _⟩ := open_bytes Try.underlying22 Try.underlying5 (by kernel_rfl) hf'
  exact ⟨A, l, c, h1, h2, h3, h4⟩

namespace wireDecodes
set_option maxRecDepth 100000 in
set_option maxHeartbeats 8000000 in
theorem walk (A : Option Addr) (c : Nat) (l : List UInt8) (w : World) (h : Bs w w.heap.size A l) (hlc : l.length ≤ c) (hc : c ≤ maxLen) :
    Calls Try.prog 3 #[.slice A l.length c] w (LawPost w) := by
  have HBY := Lib.hid h
  have HLC := Lib.hid hlc
  have HCM := Lib.hid hc
  obtain ⟨N, hN⟩ : ∃ N, l.length = N := ⟨_, rfl⟩
  have HN := Lib.hid hN
  rw [hN]
  clear h hlc hc hN
  go_enter Try.func3, Try.ntmps3
  go_wp2_with fail
  refine (awake_any _).mono ?_
  rintro x w1 ⟨rfl, hO1⟩
  have HO1 := Lib.hid hO1
  clear hO1
  by_cases hbig : N ≤ 2000
  rotate_left
  · have hb2 : (N : Int) > 2000 := by omega
    have hb3 : ¬ (N : Int) ≤ 2000 := by omega
    clear hbig
    go_wp2_with fail
    refine bodyPost_ret (v := .bool true) (by simp [results, Try.results3, go_sem]) rfl ?_
    exact ⟨rfl, HO1.out⟩
  have hb2 : ¬ (2000 : Int) < N := by omega
  have hlt : l.length ≤ 1099511627776 := by have := HN.out; omega
  have HLT := Lib.hid hlt
  -- what is read, on both sides
  obtain ⟨⟨m0, m1, m2, m3, m4, m5, m6, m7, md⟩, em, qm, fm, hrm, hqm, hem, hcm⟩ := readMs_cases l
  obtain ⟨es, ef, qf, ff, hrf, hqf, hef, hcf, hef160⟩ := readFs_cases l
  obtain ⟨⟨e0, e1, e2, e3, e4, e5, e6, ed⟩, ee, qe, fe, hre, hqe, hee, hce⟩ := readE_cases l
  obtain ⟨⟨mn0, mn1, mn2, mn3, mn4, mn5, mn6, mn7, mdn⟩, hmn⟩ : ∃ x, (rMsg l 0 false).1 = x := ⟨_, rfl⟩
  obtain ⟨fs, hfn⟩ : ∃ x, (rEfs l 0 false).1 = x := ⟨_, rfl⟩
  obtain ⟨⟨en0, en1, en2, en3, en4, en5, en6, edn⟩, hen⟩ : ∃ x, (rEnt l 0 false).1 = x := ⟨_, rfl⟩
  rw [hmn] at hqm hcm
  rw [hfn] at hqf hcf
  rw [hen] at hqe hce
  have hrdm := fun u (hO : Only Nil w u) => readMsg_any A c l u ((HBY.out.onlyNil hO (Nat.le_refl _)).up hO.size) hlt
  have hrdf := fun u (hO : Only Nil w u) => readEffects_any A c l u ((HBY.out.onlyNil hO (Nat.le_refl _)).up hO.size) hlt
  have hrde := fun u (hO : Only Nil w u) => readEntry_any A c l u ((HBY.out.onlyNil hO (Nat.le_refl _)).up hO.size) hlt
  rw [hrm] at hrdm
  rw [hrf] at hrdf
  rw [hre] at hrde
  rw [HN.out] at hrdm hrdf hrde
  have HRDM := Lib.hid hrdm
  have HRDF := Lib.hid hrdf
  have HRDE := Lib.hid hrde
  have HQM := Lib.hid hqm
  have HQF := Lib.hid hqf
  have HQE := Lib.hid hqe
  have HEM := Lib.hid hem
  have HEF := Lib.hid hef
  have HEE := Lib.hid hee
  have HCMM := Lib.hid hcm
  have HCF := Lib.hid hcf
  have HCE := Lib.hid hce
  have HE160 := Lib.hid hef160
  clear hrm hqm hem hcm hrf hqf hef hcf hre hqe hee hce hmn hfn hen hrdm hrdf hrde hlt hef160 hbig
  go_wp2_with fail
  with_reducible refine (HRDM.out _ HO1.out).mono ?_
  clear HRDM
  rintro x w2 ⟨Am, cm, rfl, _, hom, hO2⟩
  obtain ⟨g1, hg1⟩ : ∃ g, g = w2.heap.size := ⟨_, rfl⟩
  obtain ⟨w3, hw3⟩ : ∃ w3, w3 = w2.alloc (.cells #[Value.int .i64 m0, .int .i64 m1, .int .i64 m2, .int .i64 m3, .int .i64 m4, .int .i64 m5, .int .i64 m6, .int .i64 m7, .slice Am md.length cm] 26) := ⟨_, rfl⟩
  have hO3 : Only Nil w2 w3 := by rw [hw3]; exact (Only.refl _ _).alloc _
  have B1 : Hid (Blk w3 g1 26 #[Value.int .i64 m0, .int .i64 m1, .int .i64 m2, .int .i64 m3, .int .i64 m4, .int .i64 m5, .int .i64 m6, .int .i64 m7, .slice Am md.length cm]) := Lib.hid (by rw [hw3, hg1]; exact Blk.new _ _ _)
  have OM := Lib.hid (own_onlyNil hom hO3)
  have HO3 := Lib.hid ((HO1.out.thenNil hO2).thenNil hO3)
  have HW3 := Lib.hid hw3
  have HG1 := Lib.hid hg1
  have HZ1 := Lib.hid (HO1.out.thenNil hO2).size
  clear hom hO2 hO3 hw3 hg1
  unfold mcells
  dsimp only
  go_upto_region 6 with fail
  rw [← HW3.out, ← HG1.out]
  go_wp2_with fail
  with_reducible refine (HRDF.out _ HO3.out).mono ?_
  clear HRDF
  rintro x w4 ⟨Af, cf, rs, hmap, rfl, _, hfl, hO4⟩
  dsimp only at hmap
  have hrl : rs.length ≤ 160 := by have := congrArg List.length hmap; rw [List.length_map] at this; have := HE160.out; omega
  obtain ⟨NF, hNF⟩ : ∃ n, rs.length = n := ⟨_, rfl⟩
  rw [hNF]
  have HNF := Lib.hid hNF
  have HRL := Lib.hid hrl
  have HMAP := Lib.hid hmap
  have FLA := Lib.hid hfl
  have B1 := Lib.hid (B1.out.onlyNil hO4)
  have OM := Lib.hid (own_onlyNil OM.out hO4)
  have HZ34 := Lib.hid hO4.size
  have HO4 := Lib.hid (HO3.out.thenNil hO4)
  clear hmap hfl hO4 hrl hNF
  go_wp2_with fail
  with_reducible refine (HRDE.out _ HO4.out).mono ?_
  clear HRDE
  rintro x w5 ⟨Ae, ce, rfl, _, hoe, hO5⟩
  obtain ⟨g2, hg2⟩ : ∃ g, g = w5.heap.size := ⟨_, rfl⟩
  obtain ⟨w6, hw6⟩ : ∃ w6, w6 = w5.alloc (.cells #[Value.int .i64 e0, .int .i64 e1, .int .i64 e2, .int .i64 e3, .int .i64 e4, .int .i64 e5, .int .i64 e6, .slice Ae ed.length ce] 35) := ⟨_, rfl⟩
  have hO6 : Only Nil w5 w6 := by rw [hw6]; exact (Only.refl _ _).alloc _
  have B2 : Hid (Blk w6 g2 35 #[Value.int .i64 e0, .int .i64 e1, .int .i64 e2, .int .i64 e3, .int .i64 e4, .int .i64 e5, .int .i64 e6, .slice Ae ed.length ce]) := Lib.hid (by rw [hw6, hg2]; exact Blk.new _ _ _)
  have OE := Lib.hid (own_onlyNil hoe hO6)
  have hO56 := hO5.thenNil hO6
  have B1 := Lib.hid (B1.out.onlyNil hO56)
  have OM := Lib.hid (own_onlyNil OM.out hO56)
  have FLA := Lib.hid (FLA.out.onlyNil hO56)
  have n12 : g1 < g2 := by have := B1.out.lt; have h4 := HO4.out; have := hO5.size; have := HG1.out; have h3 : g1 < w4.heap.size := Nat.lt_of_lt_of_le (by rw [HW3.out, World.size_alloc, ← HG1.out]; exact Nat.lt_succ_self _ : g1 < w3.heap.size) HZ34.out; omega
  have HZ2 : Hid (w.heap.size ≤ g1 ∧ g1 < g2) := Lib.hid ⟨by rw [HG1.out]; exact HZ1.out, n12⟩
  have HB2LT := Lib.hid B2.out.lt
  have HO6 := Lib.hid (HO4.out.thenNil hO56)
  have HW6 := Lib.hid hw6
  have HG2 := Lib.hid hg2
  clear hoe hO5 hO6 hw6 hg2 hO56 n12 HW3
  unfold ecl ER.cells
  dsimp only
  go_upto_region 8 with fail
  rw [← HW6.out, ← HG2.out]
  clear HW6
  obtain ⟨p1, hp1⟩ : ∃ p, p = w6.heap.size := ⟨_, rfl⟩
  obtain ⟨p2, hp2⟩ : ∃ p, p = p1 + 1 := ⟨_, rfl⟩
  obtain ⟨p3, hp3⟩ : ∃ p, p = p2 + 1 := ⟨_, rfl⟩
  obtain ⟨w7, hw7⟩ : ∃ w7, w7 = ((w6.alloc (.cells #[Value.slice A N c, .int .i64 0, .bool false] 40)).alloc (.cells #[Value.slice A N c, .int .i64 0, .bool false] 40)).alloc (.cells #[Value.slice A N c, .int .i64 0, .bool false] 40) := ⟨_, rfl⟩
  have hO7 : Only Nil w6 w7 := by rw [hw7]; exact (((Only.refl _ _).alloc _).alloc _).alloc _
  have hrf : ∀ p, Blk w7 p 40 #[Value.slice A N c, .int .i64 0, .bool false] → RF w7 p A c l 0 false := fun p hb => by
    have hO := HO6.out.thenNil hO7
    exact ⟨by rw [HN.out]; exact hb, (HBY.out.onlyNil hO (Nat.le_refl _)).up hO.size, HLC.out⟩
  have R1 : Hid (RF w7 p1 A c l 0 false) := Lib.hid (hrf p1 (by rw [hw7, hp1]; exact ((Blk.new _ _ _).alloc _).alloc _))
  have R2 : Hid (RF w7 p2 A c l 0 false) := Lib.hid (hrf p2 (by
    rw [hw7, hp2, hp1]
    have := Blk.new (w6.alloc (.cells #[Value.slice A N c, .int .i64 0, .bool false] 40)) 40 #[Value.slice A N c, .int .i64 0, .bool false]
    rw [World.size_alloc] at this
    exact this.alloc _))
  have R3 : Hid (RF w7 p3 A c l 0 false) := Lib.hid (hrf p3 (by
    rw [hw7, hp3, hp2, hp1]
    have := Blk.new ((w6.alloc (.cells #[Value.slice A N c, .int .i64 0, .bool false] 40)).alloc (.cells #[Value.slice A N c, .int .i64 0, .bool false] 40)) 40 #[Value.slice A N c, .int .i64 0, .bool false]
    rw [World.size_alloc, World.size_alloc] at this
    exact this))
  have OM := Lib.hid (own_onlyNil OM.out hO7)
  have FLA := Lib.hid (FLA.out.onlyNil hO7)
  have OE := Lib.hid (own_onlyNil OE.out hO7)
  have B1 := Lib.hid (B1.out.onlyNil hO7)
  have B2 := Lib.hid (B2.out.onlyNil hO7)
  have hz := HZ2.out
  have hb2lt : g2 < p1 := by
    have h1 : g2 < w6.heap.size := HB2LT.out
    omega
  have m12 : p1 < p2 := by omega
  have m23 : p2 < p3 := by omega
  have HO7 := Lib.hid (HO6.out.thenNil hO7)
  have HW7 : Hid (w7 = ((w6.alloc (.cells #[Value.slice A N c, .int .i64 0, .bool false] 40)).alloc (.cells #[Value.slice A N c, .int .i64 0, .bool false] 40)).alloc (.cells #[Value.slice A N c, .int .i64 0, .bool false] 40)) := Lib.hid hw7
  have HP1 := Lib.hid hp1
  have HP2 := Lib.hid hp2
  have HP3 := Lib.hid hp3
  have HNE : Hid (w.heap.size ≤ g1 ∧ g1 < g2 ∧ g2 < p1 ∧ p1 < p2 ∧ p2 < p3) := Lib.hid ⟨hz.1, hz.2, hb2lt, m12, m23⟩
  clear hO7 hrf hz hb2lt m12 m23 hw7 hp1 hp2 hp3
  go_upto_region 9 with fail
  rw [← HW7.out, ← HP1.out, ← HP2.out, ← HP3.out]
  clear HW7
  have HM1 := Lib.hid (rfMsg_any p1 A c l 0 false w7 R1.out (Nat.zero_le _) HLT.out HCM.out)
  rw [HQM.out] at HM1
  go_wp2_with fail
  with_reducible refine HM1.out.mono ?_
  clear HM1
  rintro x w8 ⟨An, cn, rfl, _, hon, hR, hO⟩
  have hne := HNE.out
  have OM := Lib.hid (own_only OM.out hO (fun q hq hx => own_blk_ne OM.out R1.out.box (by decide) (by rw [hq, hx])))
  have FLA := Lib.hid (FLA.out.blk R1.out.box (by decide) (by decide) hO)
  have OE := Lib.hid (own_only OE.out hO (fun q hq hx => own_blk_ne OE.out R1.out.box (by decide) (by rw [hq, hx])))
  have B1 := Lib.hid (B1.out.only hO (fun hx => by unfold One at hx; omega))
  have B2 := Lib.hid (B2.out.only hO (fun hx => by unfold One at hx; omega))
  have R2 := Lib.hid (R2.out.far R1.out.box (rr_no _ _ _ _ _) (by omega) hO)
  have R3 := Lib.hid (R3.out.far R1.out.box (rr_no _ _ _ _ _) (by omega) hO)
  have R1 := Lib.hid hR
  have OMN := Lib.hid hon
  have HO8 := Lib.hid ((HO7.out.any (S := One p1)).then_ hO)
  clear hon hR hO hne
  have HM2 := Lib.hid (rfEfs_any p2 A c l 0 false w8 R2.out (Nat.zero_le _) HLT.out HCM.out)
  rw [HQF.out] at HM2
  unfold mcells
  dsimp only
  go_wp2_with fail
  with_reducible refine HM2.out.mono ?_
  clear HM2
  rintro x w9 ⟨qs, Ag, cg, hmap2, rfl, _, hfl, hR, hO⟩
  dsimp only at hmap2 hR
  obtain ⟨NG, hNG⟩ : ∃ n, qs.length = n := ⟨_, rfl⟩
  rw [hNG]
  have HNG := Lib.hid hNG
  have HMAP2 := Lib.hid hmap2
  have hne := HNE.out
  have OM := Lib.hid (own_only OM.out hO (fun q hq hx => own_blk_ne OM.out R2.out.box (by decide) (by rw [hq, hx])))
  have FLA := Lib.hid (FLA.out.blk R2.out.box (by decide) (by decide) hO)
  have OE := Lib.hid (own_only OE.out hO (fun q hq hx => own_blk_ne OE.out R2.out.box (by decide) (by rw [hq, hx])))
  have B1 := Lib.hid (B1.out.only hO (fun hx => by unfold One at hx; omega))
  have B2 := Lib.hid (B2.out.only hO (fun hx => by unfold One at hx; omega))
  have R1 := Lib.hid (R1.out.far R2.out.box (rr_no _ _ _ _ _) (by omega) hO)
  have R3 := Lib.hid (R3.out.far R2.out.box (rr_no _ _ _ _ _) (by omega) hO)
  have OMN := Lib.hid (own_only OMN.out hO (fun q hq hx => own_blk_ne OMN.out R2.out.box (by decide) (by rw [hq, hx])))
  have R2 := Lib.hid hR
  have FLB := Lib.hid hfl
  have HO9 : Hid (Only (fun z => w.heap.size ≤ z) w w9) := Lib.hid ((HO8.out.more (fun x hx => by unfold One at hx; omega)).then_ (hO.more (fun x hx => by unfold One at hx; omega)))
  clear hfl hR hO hne hmap2 hNG HO8
  have HM3 := Lib.hid (rfEnt_any p3 A c l 0 false w9 R3.out (Nat.zero_le _) HLT.out HCM.out)
  rw [HQE.out] at HM3
  go_wp2_with fail
  with_reducible refine HM3.out.mono ?_
  clear HM3
  rintro x w10 ⟨Ax, cx, rfl, _, hox, hR, hO⟩
  have hne := HNE.out
  have OM := Lib.hid (own_only OM.out hO (fun q hq hx => own_blk_ne OM.out R3.out.box (by decide) (by rw [hq, hx])))
  have FLA := Lib.hid (FLA.out.blk R3.out.box (by decide) (by decide) hO)
  have OE := Lib.hid (own_only OE.out hO (fun q hq hx => own_blk_ne OE.out R3.out.box (by decide) (by rw [hq, hx])))
  have B1 := Lib.hid (B1.out.only hO (fun hx => by unfold One at hx; omega))
  have B2 := Lib.hid (B2.out.only hO (fun hx => by unfold One at hx; omega))
  have R1 := Lib.hid (R1.out.far R3.out.box (rr_no _ _ _ _ _) (by omega) hO)
  have R2 := Lib.hid (R2.out.far R3.out.box (rr_no _ _ _ _ _) (by omega) hO)
  have OMN := Lib.hid (own_only OMN.out hO (fun q hq hx => own_blk_ne OMN.out R3.out.box (by decide) (by rw [hq, hx])))
  have FLB := Lib.hid (FLB.out.blk R3.out.box (by decide) (by decide) hO)
  have R3 := Lib.hid hR
  have OEN := Lib.hid hox
  have HO10 := Lib.hid (HO9.out.then_ (hO.more (fun x hx => by unfold One at hx; omega)))
  have HP3L := Lib.hid hR.box.lt
  clear hox hR hO hne
  unfold ecl ER.cells
  dsimp only
  go_upto_region 10 with fail
  obtain ⟨g3, hg3⟩ : ∃ g, g = w10.heap.size := ⟨_, rfl⟩
  obtain ⟨g4, hg4⟩ : ∃ g, g = g3 + 1 := ⟨_, rfl⟩
  obtain ⟨w11, hw11⟩ : ∃ w11, w11 = (w10.alloc (.cells #[Value.int .i64 mn0, .int .i64 mn1, .int .i64 mn2, .int .i64 mn3, .int .i64 mn4, .int .i64 mn5, .int .i64 mn6, .int .i64 mn7, .slice An mdn.length cn] 26)).alloc (.cells #[Value.int .i64 en0, .int .i64 en1, .int .i64 en2, .int .i64 en3, .int .i64 en4, .int .i64 en5, .int .i64 en6, .slice Ax edn.length cx] 35) := ⟨_, rfl⟩
  have hO11 : Only Nil w10 w11 := by rw [hw11]; exact ((Only.refl _ _).alloc _).alloc _
  have B3 : Hid (Blk w11 g3 26 #[Value.int .i64 mn0, .int .i64 mn1, .int .i64 mn2, .int .i64 mn3, .int .i64 mn4, .int .i64 mn5, .int .i64 mn6, .int .i64 mn7, .slice An mdn.length cn]) := Lib.hid (by rw [hw11, hg3]; exact (Blk.new _ _ _).alloc _)
  have B4 : Hid (Blk w11 g4 35 #[Value.int .i64 en0, .int .i64 en1, .int .i64 en2, .int .i64 en3, .int .i64 en4, .int .i64 en5, .int .i64 en6, .slice Ax edn.length cx]) := Lib.hid (by
    rw [hw11, hg4, hg3]
    have := Blk.new (w10.alloc (.cells #[Value.int .i64 mn0, .int .i64 mn1, .int .i64 mn2, .int .i64 mn3, .int .i64 mn4, .int .i64 mn5, .int .i64 mn6, .int .i64 mn7, .slice An mdn.length cn] 26)) 35 #[Value.int .i64 en0, .int .i64 en1, .int .i64 en2, .int .i64 en3, .int .i64 en4, .int .i64 en5, .int .i64 en6, .slice Ax edn.length cx]
    rw [World.size_alloc] at this
    exact this)
  have OM := Lib.hid (own_onlyNil OM.out hO11)
  have FLA := Lib.hid (FLA.out.onlyNil hO11)
  have OE := Lib.hid (own_onlyNil OE.out hO11)
  have B1 := Lib.hid (B1.out.onlyNil hO11)
  have B2 := Lib.hid (B2.out.onlyNil hO11)
  have R1 := Lib.hid (R1.out.onlyNil hO11)
  have R2 := Lib.hid (R2.out.onlyNil hO11)
  have R3 := Lib.hid (R3.out.onlyNil hO11)
  have OMN := Lib.hid (own_onlyNil OMN.out hO11)
  have FLB := Lib.hid (FLB.out.onlyNil hO11)
  have OEN := Lib.hid (own_onlyNil OEN.out hO11)
  have HO11 := Lib.hid (HO10.out.thenNil hO11)
  have e3 : w10.heap.size = g3 := hg3.symm
  have e4 : g3 + 1 = g4 := hg4.symm
  have HE3 := Lib.hid e3
  have HE4 := Lib.hid e4
  have HW11 : Hid (w11 = (w10.alloc (.cells #[Value.int .i64 mn0, .int .i64 mn1, .int .i64 mn2, .int .i64 mn3, .int .i64 mn4, .int .i64 mn5, .int .i64 mn6, .int .i64 mn7, .slice An mdn.length cn] 26)).alloc (.cells #[Value.int .i64 en0, .int .i64 en1, .int .i64 en2, .int .i64 en3, .int .i64 en4, .int .i64 en5, .int .i64 en6, .slice Ax edn.length cx] 35)) := Lib.hid hw11
  clear hO11 hw11 hg3 hg4 e3 e4
  rw [← HW11.out, HE3.out, HE4.out]
  clear HW11 HE3 HE4
  have K1 : Hid (∀ u, Only Nil w11 u → ∀ i, u.cell? ⟨g1, i, none⟩ = #[Value.int .i64 m0, .int .i64 m1, .int .i64 m2, .int .i64 m3, .int .i64 m4, .int .i64 m5, .int .i64 m6, .int .i64 m7, .slice Am md.length cm][i]?) := Lib.hid (fun u hu i => (B1.out.onlyNil hu).cell i)
  have K2 : Hid (∀ u, Only Nil w11 u → ∀ i, u.cell? ⟨g2, i, none⟩ = #[Value.int .i64 e0, .int .i64 e1, .int .i64 e2, .int .i64 e3, .int .i64 e4, .int .i64 e5, .int .i64 e6, .slice Ae ed.length ce][i]?) := Lib.hid (fun u hu i => (B2.out.onlyNil hu).cell i)
  have K3 : Hid (∀ u, Only Nil w11 u → ∀ i, u.cell? ⟨g3, i, none⟩ = #[Value.int .i64 mn0, .int .i64 mn1, .int .i64 mn2, .int .i64 mn3, .int .i64 mn4, .int .i64 mn5, .int .i64 mn6, .int .i64 mn7, .slice An mdn.length cn][i]?) := Lib.hid (fun u hu i => (B3.out.onlyNil hu).cell i)
  have K4 : Hid (∀ u, Only Nil w11 u → ∀ i, u.cell? ⟨g4, i, none⟩ = #[Value.int .i64 en0, .int .i64 en1, .int .i64 en2, .int .i64 en3, .int .i64 en4, .int .i64 en5, .int .i64 en6, .slice Ax edn.length cx][i]?) := Lib.hid (fun u hu i => (B4.out.onlyNil hu).cell i)
  have EN1 : Hid (∀ u, Only Nil w11 u → Calls Try.prog 16 #[.pointer (some ⟨p1, 0, none⟩)] u fun e w' => e = .returned (.int .i64 em) ∧ Only Nil u w') := Lib.hid (fun u hu => by
    have := rfEnd_any p1 A c l qm fm u (R1.out.onlyNil hu)
    rwa [HEM.out] at this)
  have EN2 : Hid (∀ u, Only Nil w11 u → Calls Try.prog 16 #[.pointer (some ⟨p2, 0, none⟩)] u fun e w' => e = .returned (.int .i64 ef) ∧ Only Nil u w') := Lib.hid (fun u hu => by
    have := rfEnd_any p2 A c l qf ff u (R2.out.onlyNil hu)
    rwa [HEF.out] at this)
  have EN3 : Hid (∀ u, Only Nil w11 u → Calls Try.prog 16 #[.pointer (some ⟨p3, 0, none⟩)] u fun e w' => e = .returned (.int .i64 ee) ∧ Only Nil u w') := Lib.hid (fun u hu => by
    have := rfEnd_any p3 A c l qe fe u (R3.out.onlyNil hu)
    rwa [HEE.out] at this)
  have SMA := Lib.hid (fun (u : World) (hu : Only Nil w11 u) => same_msg Am cm ⟨m0, m1, m2, m3, m4, m5, m6, m7, md⟩ An cn ⟨mn0, mn1, mn2, mn3, mn4, mn5, mn6, mn7, mdn⟩ u (Bs.of_own (own_onlyNil OM.out hu)).1 (Bs.of_own (own_onlyNil OMN.out hu)).1)
  have SMB := Lib.hid (fun (u : World) (hu : Only Nil w11 u) => same_msg Am cm ⟨m0, m1, m2, m3, m4, m5, m6, m7, md⟩ none 0 zM u (Bs.of_own (own_onlyNil OM.out hu)).1 (Bs.nil _ _ _))
  have SEA := Lib.hid (fun (u : World) (hu : Only Nil w11 u) => same_entry ⟨Ae, ce, ⟨e0, e1, e2, e3, e4, e5, e6, ed⟩⟩ ⟨Ax, cx, ⟨en0, en1, en2, en3, en4, en5, en6, edn⟩⟩ u (Bs.of_own (own_onlyNil OE.out hu)).1 (Bs.of_own (own_onlyNil OEN.out hu)).1)
  have SEB := Lib.hid (fun (u : World) (hu : Only Nil w11 u) => same_entry ⟨Ae, ce, ⟨e0, e1, e2, e3, e4, e5, e6, ed⟩⟩ ⟨none, 0, zE⟩ u (Bs.of_own (own_onlyNil OE.out hu)).1 (Bs.nil _ _ _))
  have SFA := Lib.hid (fun (u : World) (hu : Only Nil w11 u) => Ref.same_effects Af Ag cf cg rs qs u ((FLA.out.onlyNil hu).fs) ((FLB.out.onlyNil hu).fs) (by have := HRL.out; omega))
  rw [HMAP.out, HMAP2.out, HNF.out, HNG.out] at SFA
  have HNE0 : Hid (es = [] → NF = 0) := Lib.hid (fun e => by rw [← HNF.out, ← List.length_map (f := FR.x), HMAP.out, e]; rfl)
  dsimp only at SEA SEB
  have HFIN : Hid (∀ u, Only Nil w11 u → Only Nil w u) := Lib.hid (fun u hu => (HO11.out.less (fun x hx => .inr hx)).thenNil hu)
  clear HBY HLC HCM HN HO1 HLT HQM HQF HQE HEM HEF HEE HE160 HNF HRL HMAP HNG HMAP2 B1 B2 B3 B4 R1 R2 R3 OM OMN OE OEN FLA FLB HO3 HO4 HO6 HO7 HO9 HO10 HO11 HNE
  go_wp2_with fail
  with_reducible refine (EN1.out _ (Only.refl _ _)).mono ?_
  rintro x w12 ⟨rfl, hO12⟩
  have HO12 := Lib.hid hO12
  clear hO12
  go_wp2_with fail
  with_reducible refine (EN2.out _ HO12.out).mono ?_
  rintro x w13 ⟨rfl, hO13⟩
  have HO13 := Lib.hid (HO12.out.thenNil hO13)
  clear hO13
  go_wp2_with fail
  with_reducible refine (EN3.out _ HO13.out).mono ?_
  rintro x w14 ⟨rfl, hO14⟩
  have HO14 := Lib.hid (HO13.out.thenNil hO14)
  clear hO14
  rcases HCMM.out with ⟨hem, hsm⟩ | ⟨hem, hsm⟩
  · subst hem
    rcases HCF.out with ⟨hef, hsf0⟩ | ⟨hef, hsf⟩
    · subst hef
      have hsf : sameFs es fs = true := sameFs_iff.2 hsf0
      clear hsf0
      rcases HCE.out with ⟨hee, hse⟩ | ⟨hee, hse⟩
      · subst hee
        have SM := SMA
        have SE := SEA
        rw [hsm] at SM
        rw [hse] at SE
        unfold mcells at SM
        unfold ER.cells at SE
        dsimp only at SM SE
        clear SMA SMB SEA SEB EN1 EN2 EN3 HCMM HCF HCE hsm hse
        have SF := SFA
        rw [hsf] at SF
        clear SFA HNE0 hsf
        have k1 := K1.out w14 HO14.out
        have k2 := K2.out w14 HO14.out
        have k3 := K3.out w14 HO14.out
        have k4 := K4.out w14 HO14.out
        go_wp2_with fail
        with_reducible refine (SM.out _ HO14.out).mono ?_
        clear k1 k2 k3 k4 SM
        rintro x w15 ⟨rfl, hO15⟩
        have HO15 := Lib.hid (HO14.out.thenNil hO15)
        clear hO15
        have k1 := K1.out w15 HO15.out
        have k2 := K2.out w15 HO15.out
        have k3 := K3.out w15 HO15.out
        have k4 := K4.out w15 HO15.out
        go_wp2_with fail
        with_reducible refine (SF.out _ HO15.out).mono ?_
        clear k1 k2 k3 k4 SF
        rintro x w16 ⟨rfl, hO16⟩
        have HO16 := Lib.hid (HO15.out.thenNil hO16)
        clear hO16
        have k1 := K1.out w16 HO16.out
        have k2 := K2.out w16 HO16.out
        have k3 := K3.out w16 HO16.out
        have k4 := K4.out w16 HO16.out
        go_wp2_with fail
        with_reducible refine (SE.out _ HO16.out).mono ?_
        clear k1 k2 k3 k4 SE
        rintro x w17 ⟨rfl, hO17⟩
        have HO17 := Lib.hid (HO16.out.thenNil hO17)
        clear hO17
        go_wp2_with fail
        refine bodyPost_ret (v := .bool true) (by simp [results, Try.results3, go_sem]) rfl ?_
        exact ⟨rfl, HFIN.out _ HO17.out⟩
      · subst hee
        have SM := SMA
        have SE := SEB
        rw [hsm] at SM
        rw [hse] at SE
        unfold mcells at SM
        unfold ER.cells at SE
        unfold zE at SE
        dsimp only at SM SE
        rw [List.length_nil] at SE
        clear SMA SMB SEA SEB EN1 EN2 EN3 HCMM HCF HCE hsm hse
        have SF := SFA
        rw [hsf] at SF
        clear SFA HNE0 hsf
        have k1 := K1.out w14 HO14.out
        have k2 := K2.out w14 HO14.out
        have k3 := K3.out w14 HO14.out
        have k4 := K4.out w14 HO14.out
        go_wp2_with fail
        with_reducible refine (SM.out _ HO14.out).mono ?_
        clear k1 k2 k3 k4 SM
        rintro x w15 ⟨rfl, hO15⟩
        have HO15 := Lib.hid (HO14.out.thenNil hO15)
        clear hO15
        have k1 := K1.out w15 HO15.out
        have k2 := K2.out w15 HO15.out
        have k3 := K3.out w15 HO15.out
        have k4 := K4.out w15 HO15.out
        go_wp2_with fail
        with_reducible refine (SF.out _ HO15.out).mono ?_
        clear k1 k2 k3 k4 SF
        rintro x w16 ⟨rfl, hO16⟩
        have HO16 := Lib.hid (HO15.out.thenNil hO16)
        clear hO16
        have k1 := K1.out w16 HO16.out
        have k2 := K2.out w16 HO16.out
        have k3 := K3.out w16 HO16.out
        have k4 := K4.out w16 HO16.out
        go_wp2_with fail
        with_reducible refine (SE.out _ HO16.out).mono ?_
        clear k1 k2 k3 k4 SE
        rintro x w17 ⟨rfl, hO17⟩
        have HO17 := Lib.hid (HO16.out.thenNil hO17)
        clear hO17
        go_wp2_with fail
        refine bodyPost_ret (v := .bool true) (by simp [results, Try.results3, go_sem]) rfl ?_
        exact ⟨rfl, HFIN.out _ HO17.out⟩
    · subst hef
      rcases HCE.out with ⟨hee, hse⟩ | ⟨hee, hse⟩
      · subst hee
        have SM := SMA
        have SE := SEA
        rw [hsm] at SM
        rw [hse] at SE
        unfold mcells at SM
        unfold ER.cells at SE
        dsimp only at SM SE
        clear SMA SMB SEA SEB EN1 EN2 EN3 HCMM HCF HCE hsm hse
        obtain rfl : NF = 0 := HNE0.out hsf
        clear SFA HNE0 hsf
        have k1 := K1.out w14 HO14.out
        have k2 := K2.out w14 HO14.out
        have k3 := K3.out w14 HO14.out
        have k4 := K4.out w14 HO14.out
        go_wp2_with fail
        with_reducible refine (SM.out _ HO14.out).mono ?_
        clear k1 k2 k3 k4 SM
        rintro x w15 ⟨rfl, hO15⟩
        have HO15 := Lib.hid (HO14.out.thenNil hO15)
        clear hO15
        have k1 := K1.out w15 HO15.out
        have k2 := K2.out w15 HO15.out
        have k3 := K3.out w15 HO15.out
        have k4 := K4.out w15 HO15.out
        go_wp2_with fail
        with_reducible refine (SE.out _ HO15.out).mono ?_
        clear k1 k2 k3 k4 SE
        rintro x w17 ⟨rfl, hO17⟩
        have HO17 := Lib.hid (HO15.out.thenNil hO17)
        clear hO17
        go_wp2_with fail
        refine bodyPost_ret (v := .bool true) (by simp [results, Try.results3, go_sem]) rfl ?_
        exact ⟨rfl, HFIN.out _ HO17.out⟩
      · subst hee
        have SM := SMA
        have SE := SEB
        rw [hsm] at SM
        rw [hse] at SE
        unfold mcells at SM
        unfold ER.cells at SE
        unfold zE at SE
        dsimp only at SM SE
        rw [List.length_nil] at SE
        clear SMA SMB SEA SEB EN1 EN2 EN3 HCMM HCF HCE hsm hse
        obtain rfl : NF = 0 := HNE0.out hsf
        clear SFA HNE0 hsf
        have k1 := K1.out w14 HO14.out
        have k2 := K2.out w14 HO14.out
        have k3 := K3.out w14 HO14.out
        have k4 := K4.out w14 HO14.out
        go_wp2_with fail
        with_reducible refine (SM.out _ HO14.out).mono ?_
        clear k1 k2 k3 k4 SM
        rintro x w15 ⟨rfl, hO15⟩
        have HO15 := Lib.hid (HO14.out.thenNil hO15)
        clear hO15
        have k1 := K1.out w15 HO15.out
        have k2 := K2.out w15 HO15.out
        have k3 := K3.out w15 HO15.out
        have k4 := K4.out w15 HO15.out
        go_wp2_with fail
        with_reducible refine (SE.out _ HO15.out).mono ?_
        clear k1 k2 k3 k4 SE
        rintro x w17 ⟨rfl, hO17⟩
        have HO17 := Lib.hid (HO15.out.thenNil hO17)
        clear hO17
        go_wp2_with fail
        refine bodyPost_ret (v := .bool true) (by simp [results, Try.results3, go_sem]) rfl ?_
        exact ⟨rfl, HFIN.out _ HO17.out⟩
  · subst hem
    rcases HCF.out with ⟨hef, hsf0⟩ | ⟨hef, hsf⟩
    · subst hef
      have hsf : sameFs es fs = true := sameFs_iff.2 hsf0
      clear hsf0
      rcases HCE.out with ⟨hee, hse⟩ | ⟨hee, hse⟩
      · subst hee
        have SM := SMB
        have SE := SEA
        rw [hsm] at SM
        rw [hse] at SE
        unfold mcells at SM
        unfold ER.cells at SE
        unfold zM at SM
        dsimp only at SM SE
        rw [List.length_nil] at SM
        clear SMA SMB SEA SEB EN1 EN2 EN3 HCMM HCF HCE hsm hse
        have SF := SFA
        rw [hsf] at SF
        clear SFA HNE0 hsf
        have k1 := K1.out w14 HO14.out
        have k2 := K2.out w14 HO14.out
        have k3 := K3.out w14 HO14.out
        have k4 := K4.out w14 HO14.out
        go_wp2_with fail
        with_reducible refine (SM.out _ HO14.out).mono ?_
        clear k1 k2 k3 k4 SM
        rintro x w15 ⟨rfl, hO15⟩
        have HO15 := Lib.hid (HO14.out.thenNil hO15)
        clear hO15
        have k1 := K1.out w15 HO15.out
        have k2 := K2.out w15 HO15.out
        have k3 := K3.out w15 HO15.out
        have k4 := K4.out w15 HO15.out
        go_wp2_with fail
        with_reducible refine (SF.out _ HO15.out).mono ?_
        clear k1 k2 k3 k4 SF
        rintro x w16 ⟨rfl, hO16⟩
        have HO16 := Lib.hid (HO15.out.thenNil hO16)
        clear hO16
        have k1 := K1.out w16 HO16.out
        have k2 := K2.out w16 HO16.out
        have k3 := K3.out w16 HO16.out
        have k4 := K4.out w16 HO16.out
        go_wp2_with fail
        with_reducible refine (SE.out _ HO16.out).mono ?_
        clear k1 k2 k3 k4 SE
        rintro x w17 ⟨rfl, hO17⟩
        have HO17 := Lib.hid (HO16.out.thenNil hO17)
        clear hO17
        go_wp2_with fail
        refine bodyPost_ret (v := .bool true) (by simp [results, Try.results3, go_sem]) rfl ?_
        exact ⟨rfl, HFIN.out _ HO17.out⟩
      · subst hee
        have SM := SMB
        have SE := SEB
        rw [hsm] at SM
        rw [hse] at SE
        unfold mcells at SM
        unfold ER.cells at SE
        unfold zM at SM
        unfold zE at SE
        dsimp only at SM SE
        rw [List.length_nil] at SM
        rw [List.length_nil] at SE
        clear SMA SMB SEA SEB EN1 EN2 EN3 HCMM HCF HCE hsm hse
        have SF := SFA
        rw [hsf] at SF
        clear SFA HNE0 hsf
        have k1 := K1.out w14 HO14.out
        have k2 := K2.out w14 HO14.out
        have k3 := K3.out w14 HO14.out
        have k4 := K4.out w14 HO14.out
        go_wp2_with fail
        with_reducible refine (SM.out _ HO14.out).mono ?_
        clear k1 k2 k3 k4 SM
        rintro x w15 ⟨rfl, hO15⟩
        have HO15 := Lib.hid (HO14.out.thenNil hO15)
        clear hO15
        have k1 := K1.out w15 HO15.out
        have k2 := K2.out w15 HO15.out
        have k3 := K3.out w15 HO15.out
        have k4 := K4.out w15 HO15.out
        go_wp2_with fail
        with_reducible refine (SF.out _ HO15.out).mono ?_
        clear k1 k2 k3 k4 SF
        rintro x w16 ⟨rfl, hO16⟩
        have HO16 := Lib.hid (HO15.out.thenNil hO16)
        clear hO16
        have k1 := K1.out w16 HO16.out
        have k2 := K2.out w16 HO16.out
        have k3 := K3.out w16 HO16.out
        have k4 := K4.out w16 HO16.out
        go_wp2_with fail
        with_reducible refine (SE.out _ HO16.out).mono ?_
        clear k1 k2 k3 k4 SE
        rintro x w17 ⟨rfl, hO17⟩
        have HO17 := Lib.hid (HO16.out.thenNil hO17)
        clear hO17
        go_wp2_with fail
        refine bodyPost_ret (v := .bool true) (by simp [results, Try.results3, go_sem]) rfl ?_
        exact ⟨rfl, HFIN.out _ HO17.out⟩
    · subst hef
      rcases HCE.out with ⟨hee, hse⟩ | ⟨hee, hse⟩
      · subst hee
        have SM := SMB
        have SE := SEA
        rw [hsm] at SM
        rw [hse] at SE
        unfold mcells at SM
        unfold ER.cells at SE
        unfold zM at SM
        dsimp only at SM SE
        rw [List.length_nil] at SM
        clear SMA SMB SEA SEB EN1 EN2 EN3 HCMM HCF HCE hsm hse
        obtain rfl : NF = 0 := HNE0.out hsf
        clear SFA HNE0 hsf
        have k1 := K1.out w14 HO14.out
        have k2 := K2.out w14 HO14.out
        have k3 := K3.out w14 HO14.out
        have k4 := K4.out w14 HO14.out
        go_wp2_with fail
        with_reducible refine (SM.out _ HO14.out).mono ?_
        clear k1 k2 k3 k4 SM
        rintro x w15 ⟨rfl, hO15⟩
        have HO15 := Lib.hid (HO14.out.thenNil hO15)
        clear hO15
        have k1 := K1.out w15 HO15.out
        have k2 := K2.out w15 HO15.out
        have k3 := K3.out w15 HO15.out
        have k4 := K4.out w15 HO15.out
        go_wp2_with fail
        with_reducible refine (SE.out _ HO15.out).mono ?_
        clear k1 k2 k3 k4 SE
        rintro x w17 ⟨rfl, hO17⟩
        have HO17 := Lib.hid (HO15.out.thenNil hO17)
        clear hO17
        go_wp2_with fail
        refine bodyPost_ret (v := .bool true) (by simp [results, Try.results3, go_sem]) rfl ?_
        exact ⟨rfl, HFIN.out _ HO17.out⟩
      · subst hee
        have SM := SMB
        have SE := SEB
        rw [hsm] at SM
        rw [hse] at SE
        unfold mcells at SM
        unfold ER.cells at SE
        unfold zM at SM
        unfold zE at SE
        dsimp only at SM SE
        rw [List.length_nil] at SM
        rw [List.length_nil] at SE
        clear SMA SMB SEA SEB EN1 EN2 EN3 HCMM HCF HCE hsm hse
        obtain rfl : NF = 0 := HNE0.out hsf
        clear SFA HNE0 hsf
        have k1 := K1.out w14 HO14.out
        have k2 := K2.out w14 HO14.out
        have k3 := K3.out w14 HO14.out
        have k4 := K4.out w14 HO14.out
        go_wp2_with fail
        with_reducible refine (SM.out _ HO14.out).mono ?_
        clear k1 k2 k3 k4 SM
        rintro x w15 ⟨rfl, hO15⟩
        have HO15 := Lib.hid (HO14.out.thenNil hO15)
        clear hO15
        have k1 := K1.out w15 HO15.out
        have k2 := K2.out w15 HO15.out
        have k3 := K3.out w15 HO15.out
        have k4 := K4.out w15 HO15.out
        go_wp2_with fail
        with_reducible refine (SE.out _ HO15.out).mono ?_
        clear k1 k2 k3 k4 SE
        rintro x w17 ⟨rfl, hO17⟩
        have HO17 := Lib.hid (HO15.out.thenNil hO17)
        clear hO17
        go_wp2_with fail
        refine bodyPost_ret (v := .bool true) (by simp [results, Try.results3, go_sem]) rfl ?_
        exact ⟨rfl, HFIN.out _ HO17.out⟩

set_option maxRecDepth 100000 in
theorem from_args {H : Type} {enc : TypeId × Value → H} (W : World) (base : Nat) (args : Array Value) (ds : List (DataW H)) (ps : List MemPlace)
    (hval0 : ∀ (j : Nat) t v, Try.f3.params[j]? = some t → args[j]? = some v → Value.okWide Try.prog W .any base t v)
    (hA : DataW.TrodAll enc Try.prog W 0 (fun _ => true) true Try.f3.params.toList args.toList ds ps) (_hlt : ∀ x ∈ ps, x.block < W.heap.size)
    (hsz : (DataW.weightsEach Try.prog Try.f3.params.toList ds).all (· ≤ reachBytes) = true) : Calls Try.prog 3 args W (LawPost W) := by
  have hval := hval0
  rw [Try.params3] at hA hval hsz
  obtain ⟨v0, vs0, d0, ds0, p0, q0, hargs, rfl, rfl, h0, r0⟩ := trodAll_cons hA
  obtain ⟨rfl, rfl, rfl⟩ := trodAll_nil r0
  obtain rfl : args = #[v0] := by cases args; simp_all
  obtain ⟨A, l, c, rfl, h1', h2', hB⟩ := open_barg (hval 0 _ v0 rfl rfl) h0
  exact walk A c l W hB h1' h2'

set_option maxRecDepth 100000 in
theorem over : Rows.wireDecodesRow.holds Try.pinned (OpenSpec.ofChange Rows.wireDecodesSpec) :=
  OpenClaim.holds_of_wide 3 Try.f3 rfl rfl rfl rfl rfl rfl rfl ⟨rfl, rfl, rfl, rfl, rfl⟩ rfl rfl rfl rfl rfl (by kernel_rfl) Try.func3 (by kernel_rfl)
    (of_decide_eq_true (by kernel_rfl)) (by unfold Func.isWrapper; first | (rw [if_pos (by decide +kernel)]; kernel_rfl) | (rw [if_neg (by decide +kernel)]; exact ⟨rfl, rfl⟩))
    (fun os started H enc _ => law_lifted (f := 3) (F := Try.f3) (s := Rows.wireDecodesSpec) os started H enc (by kernel_rfl) Try.func3 rfl rfl (by kernel_rfl) (by kernel_rfl)
      (fun ds hd => by match ds, hd with | [_], _ => rfl)
      (ChangeSpec.witness6 (enc := enc) (C := Try.checked) false ⟨#[], #[.slice none 0 0], []⟩ 8 (by kernel_rfl) (by kernel_rfl) (by kernel_rfl) (by kernel_rfl))
      (fun W base args ds ps hv hA hlt hsz => from_args W base args ds ps hv hA hlt hsz))

/-- The statement. -/
theorem proved : Rows.WireDecodesSaid := over

end wireDecodes
end Go.Proofs.Ytbhgaaendekghaa
