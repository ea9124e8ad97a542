/-
  The law WireCanonical: bytes that are read to the end are the encoding of what was read.
  No conditions.
-/
import Derived.Test.YtbhgaaendekghaaEfX
import Derived.Test.YtbhgaaendekghaaEfY
import Derived.Test.YtbhgaaendekghaaEfA
import Derived.Test.YtbhgaaendekghaaEfW
import Derived.Test.YtbhgaaendekghaaEfN4
import Derived.Laws.Externs
namespace Go.Proofs.Ytbhgaaendekghaa
open Go.ChangeShapes Go.WideShapes Go.ChangeAt Go.RowKit Go.Deep

theorem end_all {α : Type} {e : α → List UInt8} {x : α} {l : List UInt8} {n : Nat} (h1 : l = e x ++ l.drop n) (h : n = l.length) : e x = l := by
  rw [h, List.drop_length, List.append_nil] at h1
  exact h1.symm
theorem readMs_canon (l : List UInt8) : ∃ m em, readMs l = (m, em) ∧ ((em = 0 ∧ encM m = l ∧ m.fits ∧ m.data.length ≤ 1536) ∨ (em = 4 ∧ True)) := by
  unfold readMs
  cases h : decM l with
  | none => exact ⟨_, _, rfl, .inr ⟨rfl, trivial⟩⟩
  | some q =>
    obtain ⟨m, n⟩ := q
    obtain ⟨_, h2, h3, h4, _⟩ := decM_some h
    dsimp only
    by_cases hn : n = l.length
    · exact ⟨_, _, if_pos hn, .inl ⟨rfl, end_all h2 hn, h3, h4⟩⟩
    · exact ⟨_, _, if_neg hn, .inr ⟨rfl, trivial⟩⟩
theorem readE_canon (l : List UInt8) : ∃ m em, readE l = (m, em) ∧ ((em = 0 ∧ encE m = l ∧ m.fits ∧ m.data.length ≤ 1536) ∨ (em = 4 ∧ True)) := by
  unfold readE
  cases h : decE l with
  | none => exact ⟨_, _, rfl, .inr ⟨rfl, trivial⟩⟩
  | some q =>
    obtain ⟨m, n⟩ := q
    obtain ⟨_, h2, h3, h4, _⟩ := decE_some h
    dsimp only
    by_cases hn : n = l.length
    · exact ⟨_, _, if_pos hn, .inl ⟨rfl, end_all h2 hn, h3, h4⟩⟩
    · exact ⟨_, _, if_neg hn, .inr ⟨rfl, trivial⟩⟩
theorem readFs_canon (l : List UInt8) : ∃ m em, readFs l = (m, em) ∧ ((em = 0 ∧ encFs m = l ∧ m.length ≤ 160 ∧ ∀ x ∈ m, x.fits ∧ x.msg.data.length ≤ 1536 ∧ x.data.length ≤ 1536) ∨ (em = 4 ∧ True)) := by
  unfold readFs
  cases h : decFs l with
  | none => exact ⟨_, _, rfl, .inr ⟨rfl, trivial⟩⟩
  | some q =>
    obtain ⟨m, n⟩ := q
    obtain ⟨_, h2, h3, _, h4⟩ := decFs_some h
    dsimp only
    by_cases hn : n = l.length
    · exact ⟨_, _, if_pos hn, .inl ⟨rfl, end_all h2 hn, h3, h4⟩⟩
    · exact ⟨_, _, if_neg hn, .inr ⟨rfl, trivial⟩⟩
theorem rStrs_canon (l : List UInt8) : ∃ ss q f er, rStrs 600 l 0 false = (ss, q, f) ∧ q ≤ l.length ∧ (if f = true ∨ q ≠ l.length then (4 : Int) else 0) = er ∧ ((er = 0 ∧ encSs ss = l ∧ ss.length ≤ 600 ∧ ∀ s ∈ ss, s.length ≤ l.length) ∨ (er = 4 ∧ True)) := by
  have hp := rStrs_pos (most := 600) (l := l) (pos := 0) false (Nat.zero_le _)
  obtain ⟨ss, q, f, hr⟩ : ∃ ss q f, rStrs 600 l 0 false = (ss, q, f) := ⟨_, _, _, rfl⟩
  rw [hr] at hp
  refine ⟨ss, q, f, _, hr, hp, rfl, ?_⟩
  by_cases hc : f = true ∨ q ≠ l.length
  · rw [if_pos hc]
    exact .inr ⟨rfl, trivial⟩
  · rw [if_neg hc]
    unfold rStrs at hr
    rw [if_neg (by simp), List.drop_zero] at hr
    cases h : decSs 600 l.length l with
    | none =>
      rw [h] at hr
      injection hr with _ hr
      injection hr with _ hr
      exact absurd (.inl hr.symm) hc
    | some r =>
      obtain ⟨xs, n⟩ := r
      rw [h] at hr
      injection hr with e1 e2
      injection e2 with e2 e3
      subst e1
      obtain ⟨_, h2, h3, _, h5⟩ := decSs_some h
      have hn : n = l.length := by
        have : ¬ q ≠ l.length := fun h => hc (.inr h)
        omega
      exact .inl ⟨rfl, end_all h2 hn, by omega, fun s hs => by have := h5 s hs; omega⟩

set_option maxRecDepth 100000 in
/-- Bytes as an argument. -/
theorem open_barg {H : Type} {enc : TypeId × Value → H} {W : World} {v : Value} {d : DataW H} {p : List MemPlace} {base : Nat}
    (hv : Value.okWide Try.prog W .any base 22 v) (h : DataW.Trod enc Try.prog W 0 (fun _ => true) true 22 v d p) :
    ∃ (A : Option Addr) (l : List UInt8) (c : Nat), v = .slice A l.length c ∧ l.length ≤ c ∧ c ≤ maxLen ∧ Bs W W.heap.size A l := by
  obtain ⟨a0, len, cap, rfl⟩ := okWide_slice Try.underlying22 hv
  obtain ⟨fuel, hf⟩ := h
  have hf' : DataW.trod enc Try.prog W 0 (fun _ => true) true fuel 22 [.slice a0 len cap] = some (d, p) := hf
  obtain ⟨A, l, c, h1, h2, h3, h4, _⟩ := open_bytes Try.underlying22 Try.underlying5 (by kernel_rfl) hf'
  exact ⟨A, l, c, h1, h2, h3, h4⟩

namespace wireCanonical
set_option maxRecDepth 100000 in
set_option maxHeartbeats 8000000 in
theorem walk (A : Option Addr) (c : Nat) (l : List UInt8) (w : World) (h : Bs w w.heap.size A l) :
    Calls Try.prog 7 #[.slice A l.length c] w (LawPost w) := by
  have HBY := Lib.hid h
  obtain ⟨N, hN⟩ : ∃ N, l.length = N := ⟨_, rfl⟩
  have HN := Lib.hid hN
  rw [hN]
  clear h hN
  go_enter Try.func7, Try.ntmps7
  go_wp2_with fail
  refine (awake_any _).mono ?_
  rintro x w1 ⟨rfl, hO1⟩
  have HO1 := Lib.hid hO1
  clear hO1
  by_cases hbig : N ≤ 600
  rotate_left
  · have hb2 : (600 : Int) < (N : Int) := by omega
    clear hbig
    go_wp2_with fail
    refine bodyPost_ret (v := .bool true) (by simp [results, Try.results7, go_sem]) rfl ?_
    exact ⟨rfl, HO1.out⟩
  have hb2 : ¬ (600 : Int) < (N : Int) := by omega
  have hlt : l.length ≤ 1099511627776 := by have := HN.out; omega
  have hbs : ∀ u, Only Nil w u → Bs u u.heap.size A l := fun u hO => (HBY.out.onlyNil hO (Nat.le_refl _)).up hO.size
  obtain ⟨⟨m0, m1, m2, m3, m4, m5, m6, m7, md⟩, em, hrm, hcm⟩ := readMs_canon l
  obtain ⟨es, ef, hrf, hcf⟩ := readFs_canon l
  obtain ⟨⟨e0, e1, e2, e3, e4, e5, e6, ed⟩, ee, hre, hce⟩ := readE_canon l
  obtain ⟨ss, qs, fs, er, hrs, hqs, her, hcs⟩ := rStrs_canon l
  have hrd := rread_any A c l w1 (hbs w1 HO1.out) hlt
  have hrdm := fun u (hO : Only Nil w u) => readMsg_any A c l u (hbs u hO) hlt
  have hrdf := fun u (hO : Only Nil w u) => readEffects_any A c l u (hbs u hO) hlt
  have hrde := fun u (hO : Only Nil w u) => readEntry_any A c l u (hbs u hO) hlt
  rw [hrm] at hrdm
  rw [hrf] at hrdf
  rw [hre] at hrde
  have hsame : ∀ (u : World) (A6 : Option Addr) (c6 : Nat), Only Nil w u → Bs u u.heap.size A6 l → Calls Try.prog 44 #[.slice A6 N c6, .slice A N c] u fun e w' => e = .returned (.bool true) ∧ w' = u := fun u A6 c6 hu hb => by
    have := same_bytes A6 A c6 c l l u hb (hbs u hu)
    rwa [HN.out, beq_self_eq_true] at this
  rw [HN.out] at hrd hrdm hrdf hrde
  have HRD := Lib.hid hrd
  have HRDM := Lib.hid hrdm
  have HRDF := Lib.hid hrdf
  have HRDE := Lib.hid hrde
  have HSAME := Lib.hid hsame
  have HCMM := Lib.hid hcm
  have HCF := Lib.hid hcf
  have HCE := Lib.hid hce
  have HCS := Lib.hid hcs
  have HRS := Lib.hid hrs
  have HQS := Lib.hid hqs
  have HER := Lib.hid her
  have HLT := Lib.hid hlt
  clear hrm hcm hrf hcf hre hce hrs hqs her hcs hrd hrdm hrdf hrde hsame hlt hbs hbig HBY
  go_wp2_with fail
  with_reducible refine HRD.out.mono ?_
  clear HRD
  rintro x w2 ⟨p, Ap, cp, rfl, hp, hrr, hcp, hO2⟩
  have HP := Lib.hid hp
  have hst := rStrs_any 600 p Ap cp l 0 false w2 hrr (Nat.zero_le _) HLT.out hcp
  rw [HRS.out] at hst
  have HST := Lib.hid hst
  have HO2 := Lib.hid hO2
  clear hp hrr hcp hst hO2
  go_wp2_with fail
  with_reducible refine HST.out.mono ?_
  clear HST
  rintro x w3 ⟨As, cs, rfl, _, hos, hrr, hO3⟩
  dsimp only at hos hrr
  have hre := rEnd_any p Ap cp l qs fs w3 hrr HQS.out
  rw [HER.out] at hre
  have HRE := Lib.hid hre
  have HOS := Lib.hid hos
  have HO3 := Lib.hid (HO1.out.thenNil (((HO2.out.any (S := One p)).then_ hO3).less (fun x hx => .inr (by unfold One at hx; rw [hx]; exact HP.out)) : Only Nil w1 w3))
  clear hre hos hrr hO3
  obtain ⟨NS, hNS⟩ : ∃ n, ss.length = n := ⟨_, rfl⟩
  rw [hNS]
  have HNS := Lib.hid hNS
  clear hNS
  go_upto_region 9 with fail
  go_cut [31] (fun v wd => v = .bool false ∧ Only Nil w3 wd)
  case first =>
    go_wp2_with fail
    with_reducible refine HRE.out.mono ?_
    clear HRE
    rintro x w4 ⟨rfl, hO4⟩
    have HO4 := Lib.hid hO4
    have HOS := Lib.hid (own_onlyNil HOS.out hO4)
    clear hO4
    rcases HCS.out with ⟨her, hen, hsl, hse⟩ | ⟨her, _⟩
    rotate_left
    · subst her
      go_wp2_with fail
      go_meet
      case rel => exact ⟨rfl, HO4.out⟩
    subst her
    have hst := wStrings_any none 0 w4.heap.size [] As cs ss w4 (Nat.le_refl _) (World.ownsRow_nil _ _ _ _) (by simp) (fun u hu => Rd.of_own (own_onlyNil HOS.out (hu.less (fun x hx => .inr hx)))) (by omega) (fun s hs => by have := hse s hs; have := HN.out; omega)
    rw [List.nil_append, hen, HNS.out, List.length_nil] at hst
    have HST := Lib.hid hst
    clear hst hse hsl hen
    go_wp2_with fail
    with_reducible refine HST.out.mono ?_
    clear HST
    rintro x w5 ⟨A5, c5, rfl, _, hown5, hO5⟩
    have hb5 := (Bs.of_own hown5).1
    have hO5 : Only Nil w4 w5 := hO5.less (fun x hx => .inr hx)
    have HS := Lib.hid (HSAME.out w5 A5 c5 ((HO3.out.thenNil HO4.out).thenNil hO5) hb5)
    have HO5 := Lib.hid (HO4.out.thenNil hO5)
    clear hown5 hb5 hO5
    rw [HN.out]
    go_wp2_with fail
    with_reducible refine HS.out.mono ?_
    rintro x w6 ⟨rfl, rfl⟩
    go_wp2_with fail
    go_meet
    case rel => exact ⟨rfl, HO5.out⟩
  case rest =>
  obtain ⟨rfl, hOc⟩ := hcut
  have HO4 := Lib.hid (HO3.out.thenNil hOc)
  clear hOc HRE HOS HCS HRS HQS HER HNS
  go_wp2_with fail
  with_reducible refine (HRDM.out _ HO4.out).mono ?_
  clear HRDM
  rintro x w5 ⟨Am, cm, rfl, _, hom, hO5⟩
  obtain ⟨g1, hg1⟩ : ∃ g, g = w5.heap.size := ⟨_, rfl⟩
  obtain ⟨w6, hw6⟩ : ∃ w6, w6 = w5.alloc (.cells #[Value.int .i64 m0, .int .i64 m1, .int .i64 m2, .int .i64 m3, .int .i64 m4, .int .i64 m5, .int .i64 m6, .int .i64 m7, .slice Am md.length cm] 26) := ⟨_, rfl⟩
  have hO6 : Only Nil w5 w6 := by rw [hw6]; exact (Only.refl _ _).alloc _
  have B1 : Hid (Blk w6 g1 26 #[Value.int .i64 m0, .int .i64 m1, .int .i64 m2, .int .i64 m3, .int .i64 m4, .int .i64 m5, .int .i64 m6, .int .i64 m7, .slice Am md.length cm]) := Lib.hid (by rw [hw6, hg1]; exact Blk.new _ _ _)
  have OM := Lib.hid (own_onlyNil hom hO6)
  have HO6 := Lib.hid ((HO4.out.thenNil hO5).thenNil hO6)
  have HW6 := Lib.hid hw6
  have HG1 := Lib.hid hg1
  clear hom hO5 hO6 hw6 hg1
  unfold mcells
  dsimp only
  go_upto_region 12 with fail
  rw [← HW6.out, ← HG1.out]
  clear HW6 HG1
  go_wp2_with fail
  with_reducible refine (HRDF.out _ HO6.out).mono ?_
  clear HRDF
  rintro x w7 ⟨Af, cf, rs, hmap, rfl, _, hfl, hO7⟩
  dsimp only at hmap
  obtain ⟨NF, hNF⟩ : ∃ n, rs.length = n := ⟨_, rfl⟩
  rw [hNF]
  have HNF := Lib.hid hNF
  have HMAP := Lib.hid hmap
  have FLA := Lib.hid hfl
  have B1 := Lib.hid (B1.out.onlyNil hO7)
  have OM := Lib.hid (own_onlyNil OM.out hO7)
  have HO7 := Lib.hid (HO6.out.thenNil hO7)
  clear hmap hfl hO7 hNF
  go_wp2_with fail
  with_reducible refine (HRDE.out _ HO7.out).mono ?_
  clear HRDE
  rintro x w8 ⟨Ae, ce, rfl, hoel, hoe, hO8⟩
  obtain ⟨g2, hg2⟩ : ∃ g, g = w8.heap.size := ⟨_, rfl⟩
  obtain ⟨w9, hw9⟩ : ∃ w9, w9 = w8.alloc (.cells #[Value.int .i64 e0, .int .i64 e1, .int .i64 e2, .int .i64 e3, .int .i64 e4, .int .i64 e5, .int .i64 e6, .slice Ae ed.length ce] 35) := ⟨_, rfl⟩
  have hO9 : Only Nil w8 w9 := by rw [hw9]; exact (Only.refl _ _).alloc _
  have hO89 := hO8.thenNil hO9
  have B2 : Hid (Blk w9 g2 35 #[Value.int .i64 e0, .int .i64 e1, .int .i64 e2, .int .i64 e3, .int .i64 e4, .int .i64 e5, .int .i64 e6, .slice Ae ed.length ce]) := Lib.hid (by rw [hw9, hg2]; exact Blk.new _ _ _)
  have OE := Lib.hid (own_onlyNil hoe hO9)
  have B1 := Lib.hid (B1.out.onlyNil hO89)
  have OM := Lib.hid (own_onlyNil OM.out hO89)
  have FLA := Lib.hid (FLA.out.onlyNil hO89)
  have HO9 := Lib.hid (HO7.out.thenNil hO89)
  have HW9 := Lib.hid hw9
  have HG2 := Lib.hid hg2
  have HOEC := Lib.hid (cap_of_own hoe)
  have HOEL := Lib.hid hoel
  clear hoe hO8 hO9 hO89 hw9 hg2 hoel
  unfold ecl ER.cells
  dsimp only
  go_upto_region 14 with fail
  rw [← HW9.out, ← HG2.out]
  clear HW9 HG2
  have K1 : Hid (∀ u, Only Nil w9 u → ∀ i, u.cell? ⟨g1, i, none⟩ = #[Value.int .i64 m0, .int .i64 m1, .int .i64 m2, .int .i64 m3, .int .i64 m4, .int .i64 m5, .int .i64 m6, .int .i64 m7, .slice Am md.length cm][i]?) := Lib.hid (fun u hu i => (B1.out.onlyNil hu).cell i)
  have K2 : Hid (∀ u, Only Nil w9 u → ∀ i, u.cell? ⟨g2, i, none⟩ = #[Value.int .i64 e0, .int .i64 e1, .int .i64 e2, .int .i64 e3, .int .i64 e4, .int .i64 e5, .int .i64 e6, .slice Ae ed.length ce][i]?) := Lib.hid (fun u hu i => (B2.out.onlyNil hu).cell i)
  have k1 := K1.out w9 (Only.refl _ _)
  have k2 := K2.out w9 (Only.refl _ _)
  have HZ : Hid (Only Nil w9 w9) := Lib.hid (Only.refl _ _)
  rcases HCMM.out with ⟨hem, hme, hmf, hmd⟩ | ⟨hem, _⟩
  · subst hem
    rcases HCF.out with ⟨hef0, hfe, hfl, hfd⟩ | ⟨hef0, _⟩
    · subst hef0
      rcases HCE.out with ⟨hee, hee1, hef, hed1⟩ | ⟨hee, _⟩
      · subst hee
        have CM : Hid (∀ u, Only Nil w9 u → Calls Try.prog 26 #[.slice none 0 0, .agg #[Value.int .i64 m0, .int .i64 m1, .int .i64 m2, .int .i64 m3, .int .i64 m4, .int .i64 m5, .int .i64 m6, .int .i64 m7, .slice Am md.length cm]] u fun e w' => ∃ A6 c6, e = .returned (.slice A6 N c6) ∧ Bs w' w'.heap.size A6 l ∧ Only Nil u w') := Lib.hid (fun u hu => by
          have := wmsg_any none 0 u.heap.size [] Am cm ⟨m0, m1, m2, m3, m4, m5, m6, m7, md⟩ u (Nat.le_refl _) (World.ownsRow_nil _ _ _ _) (Nat.le_refl _) hmf (Bs.of_own (own_onlyNil OM.out hu)).1 (by dsimp only at hmd ⊢; omega) (by simp)
          rw [List.nil_append, hme] at this
          refine this.mono ?_
          rintro x u' ⟨A2, c2, rfl, _, h2, _, h3⟩
          exact ⟨A2, c2, by rw [HN.out], (Bs.of_own h2).1, h3.more (fun x hx => by have h0 : (none : Option Nat) = some x := hx; cases h0)⟩)
        have CF : Hid (∀ u, Only Nil w9 u → Calls Try.prog 22 #[.slice none 0 0, .slice Af NF cf] u fun e w' => ∃ A6 c6, e = .returned (.slice A6 N c6) ∧ Bs w' w'.heap.size A6 l ∧ Only Nil u w') := Lib.hid (fun u hu => by
          have hrl : rs.length ≤ 160 := by have := congrArg List.length HMAP.out; rw [List.length_map] at this; omega
          have := weffects_any Af cf rs u ((FLA.out.onlyNil hu).fs) (by omega) (fun r hr => by
            have h1 := hfd r.x (by rw [← HMAP.out]; exact List.mem_map.2 ⟨r, hr, rfl⟩)
            exact ⟨by have := h1.2.1; omega, by have := h1.2.2; omega⟩)
          rw [HMAP.out, hfe, HNF.out] at this
          refine this.mono ?_
          rintro x u' ⟨A2, c2, rfl, _, h2, h3⟩
          exact ⟨A2, c2, by rw [HN.out], (Bs.of_own h2).1, h3⟩)
        have CE : Hid (∀ u, Only Nil w9 u → Calls Try.prog 43 #[.slice none 0 0, .agg #[Value.int .i64 e0, .int .i64 e1, .int .i64 e2, .int .i64 e3, .int .i64 e4, .int .i64 e5, .int .i64 e6, .slice Ae ed.length ce]] u fun e w' => ∃ A6 c6, e = .returned (.slice A6 N c6) ∧ Bs w' w'.heap.size A6 l ∧ Only Nil u w') := Lib.hid (fun u hu => by
          have := entry_enc ⟨Ae, ce, ⟨e0, e1, e2, e3, e4, e5, e6, ed⟩⟩ u ⟨hef, HOEL.out, HOEC.out, (Bs.of_own (own_onlyNil OE.out hu)).1⟩ (by dsimp only at hed1 ⊢; omega)
          dsimp only at this
          rw [hee1] at this
          refine this.mono ?_
          rintro x u' ⟨A2, c2, rfl, _, h2, h3⟩
          exact ⟨A2, c2, by rw [HN.out], (Bs.of_own h2).1, h3⟩)
        clear HCMM HCF HCE OM OE FLA HMAP HNF B1 B2 hme hmf hmd hfe hfl hfd hee1 hef hed1
        go_wp2_with fail
        with_reducible refine (CM.out _ HZ.out).mono ?_
        clear k1 k2 CM
        rintro x w10 ⟨A6, c6, rfl, hb6, hO6⟩
        have HOX10 := Lib.hid (HZ.out.thenNil hO6)
        have HS := Lib.hid (HSAME.out w10 A6 c6 (HO9.out.thenNil HOX10.out) hb6)
        clear hb6 hO6
        have k1 := K1.out w10 HOX10.out
        have k2 := K2.out w10 HOX10.out
        go_wp2_with fail
        with_reducible refine HS.out.mono ?_
        clear HS
        rintro x w60 ⟨rfl, rfl⟩
        go_wp2_with fail
        with_reducible refine (CF.out _ HOX10.out).mono ?_
        clear k1 k2 CF
        rintro x w11 ⟨A6, c6, rfl, hb6, hO6⟩
        have HOX11 := Lib.hid (HOX10.out.thenNil hO6)
        have HS := Lib.hid (HSAME.out w11 A6 c6 (HO9.out.thenNil HOX11.out) hb6)
        clear hb6 hO6
        have k1 := K1.out w11 HOX11.out
        have k2 := K2.out w11 HOX11.out
        go_wp2_with fail
        with_reducible refine HS.out.mono ?_
        clear HS
        rintro x w61 ⟨rfl, rfl⟩
        go_wp2_with fail
        with_reducible refine (CE.out _ HOX11.out).mono ?_
        clear k1 k2 CE
        rintro x w12 ⟨A6, c6, rfl, hb6, hO6⟩
        have HOX12 := Lib.hid (HOX11.out.thenNil hO6)
        have HS := Lib.hid (HSAME.out w12 A6 c6 (HO9.out.thenNil HOX12.out) hb6)
        clear hb6 hO6
        have k1 := K1.out w12 HOX12.out
        have k2 := K2.out w12 HOX12.out
        go_wp2_with fail
        with_reducible refine HS.out.mono ?_
        clear HS
        rintro x w62 ⟨rfl, rfl⟩
        go_wp2_with fail
        refine bodyPost_ret (v := .bool true) (by simp [results, Try.results7, go_sem]) rfl ?_
        exact ⟨rfl, HO9.out.thenNil HOX12.out⟩
      · subst hee
        have CM : Hid (∀ u, Only Nil w9 u → Calls Try.prog 26 #[.slice none 0 0, .agg #[Value.int .i64 m0, .int .i64 m1, .int .i64 m2, .int .i64 m3, .int .i64 m4, .int .i64 m5, .int .i64 m6, .int .i64 m7, .slice Am md.length cm]] u fun e w' => ∃ A6 c6, e = .returned (.slice A6 N c6) ∧ Bs w' w'.heap.size A6 l ∧ Only Nil u w') := Lib.hid (fun u hu => by
          have := wmsg_any none 0 u.heap.size [] Am cm ⟨m0, m1, m2, m3, m4, m5, m6, m7, md⟩ u (Nat.le_refl _) (World.ownsRow_nil _ _ _ _) (Nat.le_refl _) hmf (Bs.of_own (own_onlyNil OM.out hu)).1 (by dsimp only at hmd ⊢; omega) (by simp)
          rw [List.nil_append, hme] at this
          refine this.mono ?_
          rintro x u' ⟨A2, c2, rfl, _, h2, _, h3⟩
          exact ⟨A2, c2, by rw [HN.out], (Bs.of_own h2).1, h3.more (fun x hx => by have h0 : (none : Option Nat) = some x := hx; cases h0)⟩)
        have CF : Hid (∀ u, Only Nil w9 u → Calls Try.prog 22 #[.slice none 0 0, .slice Af NF cf] u fun e w' => ∃ A6 c6, e = .returned (.slice A6 N c6) ∧ Bs w' w'.heap.size A6 l ∧ Only Nil u w') := Lib.hid (fun u hu => by
          have hrl : rs.length ≤ 160 := by have := congrArg List.length HMAP.out; rw [List.length_map] at this; omega
          have := weffects_any Af cf rs u ((FLA.out.onlyNil hu).fs) (by omega) (fun r hr => by
            have h1 := hfd r.x (by rw [← HMAP.out]; exact List.mem_map.2 ⟨r, hr, rfl⟩)
            exact ⟨by have := h1.2.1; omega, by have := h1.2.2; omega⟩)
          rw [HMAP.out, hfe, HNF.out] at this
          refine this.mono ?_
          rintro x u' ⟨A2, c2, rfl, _, h2, h3⟩
          exact ⟨A2, c2, by rw [HN.out], (Bs.of_own h2).1, h3⟩)
        clear HCMM HCF HCE OM OE FLA HMAP HNF B1 B2 hme hmf hmd hfe hfl hfd
        go_wp2_with fail
        with_reducible refine (CM.out _ HZ.out).mono ?_
        clear k1 k2 CM
        rintro x w10 ⟨A6, c6, rfl, hb6, hO6⟩
        have HOX10 := Lib.hid (HZ.out.thenNil hO6)
        have HS := Lib.hid (HSAME.out w10 A6 c6 (HO9.out.thenNil HOX10.out) hb6)
        clear hb6 hO6
        have k1 := K1.out w10 HOX10.out
        have k2 := K2.out w10 HOX10.out
        go_wp2_with fail
        with_reducible refine HS.out.mono ?_
        clear HS
        rintro x w60 ⟨rfl, rfl⟩
        go_wp2_with fail
        with_reducible refine (CF.out _ HOX10.out).mono ?_
        clear k1 k2 CF
        rintro x w11 ⟨A6, c6, rfl, hb6, hO6⟩
        have HOX11 := Lib.hid (HOX10.out.thenNil hO6)
        have HS := Lib.hid (HSAME.out w11 A6 c6 (HO9.out.thenNil HOX11.out) hb6)
        clear hb6 hO6
        have k1 := K1.out w11 HOX11.out
        have k2 := K2.out w11 HOX11.out
        go_wp2_with fail
        with_reducible refine HS.out.mono ?_
        clear HS
        rintro x w61 ⟨rfl, rfl⟩
        go_wp2_with fail
        refine bodyPost_ret (v := .bool true) (by simp [results, Try.results7, go_sem]) rfl ?_
        exact ⟨rfl, HO9.out.thenNil HOX11.out⟩
    · subst hef0
      rcases HCE.out with ⟨hee, hee1, hef, hed1⟩ | ⟨hee, _⟩
      · subst hee
        have CM : Hid (∀ u, Only Nil w9 u → Calls Try.prog 26 #[.slice none 0 0, .agg #[Value.int .i64 m0, .int .i64 m1, .int .i64 m2, .int .i64 m3, .int .i64 m4, .int .i64 m5, .int .i64 m6, .int .i64 m7, .slice Am md.length cm]] u fun e w' => ∃ A6 c6, e = .returned (.slice A6 N c6) ∧ Bs w' w'.heap.size A6 l ∧ Only Nil u w') := Lib.hid (fun u hu => by
          have := wmsg_any none 0 u.heap.size [] Am cm ⟨m0, m1, m2, m3, m4, m5, m6, m7, md⟩ u (Nat.le_refl _) (World.ownsRow_nil _ _ _ _) (Nat.le_refl _) hmf (Bs.of_own (own_onlyNil OM.out hu)).1 (by dsimp only at hmd ⊢; omega) (by simp)
          rw [List.nil_append, hme] at this
          refine this.mono ?_
          rintro x u' ⟨A2, c2, rfl, _, h2, _, h3⟩
          exact ⟨A2, c2, by rw [HN.out], (Bs.of_own h2).1, h3.more (fun x hx => by have h0 : (none : Option Nat) = some x := hx; cases h0)⟩)
        have CE : Hid (∀ u, Only Nil w9 u → Calls Try.prog 43 #[.slice none 0 0, .agg #[Value.int .i64 e0, .int .i64 e1, .int .i64 e2, .int .i64 e3, .int .i64 e4, .int .i64 e5, .int .i64 e6, .slice Ae ed.length ce]] u fun e w' => ∃ A6 c6, e = .returned (.slice A6 N c6) ∧ Bs w' w'.heap.size A6 l ∧ Only Nil u w') := Lib.hid (fun u hu => by
          have := entry_enc ⟨Ae, ce, ⟨e0, e1, e2, e3, e4, e5, e6, ed⟩⟩ u ⟨hef, HOEL.out, HOEC.out, (Bs.of_own (own_onlyNil OE.out hu)).1⟩ (by dsimp only at hed1 ⊢; omega)
          dsimp only at this
          rw [hee1] at this
          refine this.mono ?_
          rintro x u' ⟨A2, c2, rfl, _, h2, h3⟩
          exact ⟨A2, c2, by rw [HN.out], (Bs.of_own h2).1, h3⟩)
        clear HCMM HCF HCE OM OE FLA HMAP HNF B1 B2 hme hmf hmd hee1 hef hed1
        go_wp2_with fail
        with_reducible refine (CM.out _ HZ.out).mono ?_
        clear k1 k2 CM
        rintro x w10 ⟨A6, c6, rfl, hb6, hO6⟩
        have HOX10 := Lib.hid (HZ.out.thenNil hO6)
        have HS := Lib.hid (HSAME.out w10 A6 c6 (HO9.out.thenNil HOX10.out) hb6)
        clear hb6 hO6
        have k1 := K1.out w10 HOX10.out
        have k2 := K2.out w10 HOX10.out
        go_wp2_with fail
        with_reducible refine HS.out.mono ?_
        clear HS
        rintro x w60 ⟨rfl, rfl⟩
        go_wp2_with fail
        with_reducible refine (CE.out _ HOX10.out).mono ?_
        clear k1 k2 CE
        rintro x w11 ⟨A6, c6, rfl, hb6, hO6⟩
        have HOX11 := Lib.hid (HOX10.out.thenNil hO6)
        have HS := Lib.hid (HSAME.out w11 A6 c6 (HO9.out.thenNil HOX11.out) hb6)
        clear hb6 hO6
        have k1 := K1.out w11 HOX11.out
        have k2 := K2.out w11 HOX11.out
        go_wp2_with fail
        with_reducible refine HS.out.mono ?_
        clear HS
        rintro x w61 ⟨rfl, rfl⟩
        go_wp2_with fail
        refine bodyPost_ret (v := .bool true) (by simp [results, Try.results7, go_sem]) rfl ?_
        exact ⟨rfl, HO9.out.thenNil HOX11.out⟩
      · subst hee
        have CM : Hid (∀ u, Only Nil w9 u → Calls Try.prog 26 #[.slice none 0 0, .agg #[Value.int .i64 m0, .int .i64 m1, .int .i64 m2, .int .i64 m3, .int .i64 m4, .int .i64 m5, .int .i64 m6, .int .i64 m7, .slice Am md.length cm]] u fun e w' => ∃ A6 c6, e = .returned (.slice A6 N c6) ∧ Bs w' w'.heap.size A6 l ∧ Only Nil u w') := Lib.hid (fun u hu => by
          have := wmsg_any none 0 u.heap.size [] Am cm ⟨m0, m1, m2, m3, m4, m5, m6, m7, md⟩ u (Nat.le_refl _) (World.ownsRow_nil _ _ _ _) (Nat.le_refl _) hmf (Bs.of_own (own_onlyNil OM.out hu)).1 (by dsimp only at hmd ⊢; omega) (by simp)
          rw [List.nil_append, hme] at this
          refine this.mono ?_
          rintro x u' ⟨A2, c2, rfl, _, h2, _, h3⟩
          exact ⟨A2, c2, by rw [HN.out], (Bs.of_own h2).1, h3.more (fun x hx => by have h0 : (none : Option Nat) = some x := hx; cases h0)⟩)
        clear HCMM HCF HCE OM OE FLA HMAP HNF B1 B2 hme hmf hmd
        go_wp2_with fail
        with_reducible refine (CM.out _ HZ.out).mono ?_
        clear k1 k2 CM
        rintro x w10 ⟨A6, c6, rfl, hb6, hO6⟩
        have HOX10 := Lib.hid (HZ.out.thenNil hO6)
        have HS := Lib.hid (HSAME.out w10 A6 c6 (HO9.out.thenNil HOX10.out) hb6)
        clear hb6 hO6
        have k1 := K1.out w10 HOX10.out
        have k2 := K2.out w10 HOX10.out
        go_wp2_with fail
        with_reducible refine HS.out.mono ?_
        clear HS
        rintro x w60 ⟨rfl, rfl⟩
        go_wp2_with fail
        refine bodyPost_ret (v := .bool true) (by simp [results, Try.results7, go_sem]) rfl ?_
        exact ⟨rfl, HO9.out.thenNil HOX10.out⟩
  · subst hem
    rcases HCF.out with ⟨hef0, hfe, hfl, hfd⟩ | ⟨hef0, _⟩
    · subst hef0
      rcases HCE.out with ⟨hee, hee1, hef, hed1⟩ | ⟨hee, _⟩
      · subst hee
        have CF : Hid (∀ u, Only Nil w9 u → Calls Try.prog 22 #[.slice none 0 0, .slice Af NF cf] u fun e w' => ∃ A6 c6, e = .returned (.slice A6 N c6) ∧ Bs w' w'.heap.size A6 l ∧ Only Nil u w') := Lib.hid (fun u hu => by
          have hrl : rs.length ≤ 160 := by have := congrArg List.length HMAP.out; rw [List.length_map] at this; omega
          have := weffects_any Af cf rs u ((FLA.out.onlyNil hu).fs) (by omega) (fun r hr => by
            have h1 := hfd r.x (by rw [← HMAP.out]; exact List.mem_map.2 ⟨r, hr, rfl⟩)
            exact ⟨by have := h1.2.1; omega, by have := h1.2.2; omega⟩)
          rw [HMAP.out, hfe, HNF.out] at this
          refine this.mono ?_
          rintro x u' ⟨A2, c2, rfl, _, h2, h3⟩
          exact ⟨A2, c2, by rw [HN.out], (Bs.of_own h2).1, h3⟩)
        have CE : Hid (∀ u, Only Nil w9 u → Calls Try.prog 43 #[.slice none 0 0, .agg #[Value.int .i64 e0, .int .i64 e1, .int .i64 e2, .int .i64 e3, .int .i64 e4, .int .i64 e5, .int .i64 e6, .slice Ae ed.length ce]] u fun e w' => ∃ A6 c6, e = .returned (.slice A6 N c6) ∧ Bs w' w'.heap.size A6 l ∧ Only Nil u w') := Lib.hid (fun u hu => by
          have := entry_enc ⟨Ae, ce, ⟨e0, e1, e2, e3, e4, e5, e6, ed⟩⟩ u ⟨hef, HOEL.out, HOEC.out, (Bs.of_own (own_onlyNil OE.out hu)).1⟩ (by dsimp only at hed1 ⊢; omega)
          dsimp only at this
          rw [hee1] at this
          refine this.mono ?_
          rintro x u' ⟨A2, c2, rfl, _, h2, h3⟩
          exact ⟨A2, c2, by rw [HN.out], (Bs.of_own h2).1, h3⟩)
        clear HCMM HCF HCE OM OE FLA HMAP HNF B1 B2 hfe hfl hfd hee1 hef hed1
        go_wp2_with fail
        with_reducible refine (CF.out _ HZ.out).mono ?_
        clear k1 k2 CF
        rintro x w10 ⟨A6, c6, rfl, hb6, hO6⟩
        have HOX10 := Lib.hid (HZ.out.thenNil hO6)
        have HS := Lib.hid (HSAME.out w10 A6 c6 (HO9.out.thenNil HOX10.out) hb6)
        clear hb6 hO6
        have k1 := K1.out w10 HOX10.out
        have k2 := K2.out w10 HOX10.out
        go_wp2_with fail
        with_reducible refine HS.out.mono ?_
        clear HS
        rintro x w60 ⟨rfl, rfl⟩
        go_wp2_with fail
        with_reducible refine (CE.out _ HOX10.out).mono ?_
        clear k1 k2 CE
        rintro x w11 ⟨A6, c6, rfl, hb6, hO6⟩
        have HOX11 := Lib.hid (HOX10.out.thenNil hO6)
        have HS := Lib.hid (HSAME.out w11 A6 c6 (HO9.out.thenNil HOX11.out) hb6)
        clear hb6 hO6
        have k1 := K1.out w11 HOX11.out
        have k2 := K2.out w11 HOX11.out
        go_wp2_with fail
        with_reducible refine HS.out.mono ?_
        clear HS
        rintro x w61 ⟨rfl, rfl⟩
        go_wp2_with fail
        refine bodyPost_ret (v := .bool true) (by simp [results, Try.results7, go_sem]) rfl ?_
        exact ⟨rfl, HO9.out.thenNil HOX11.out⟩
      · subst hee
        have CF : Hid (∀ u, Only Nil w9 u → Calls Try.prog 22 #[.slice none 0 0, .slice Af NF cf] u fun e w' => ∃ A6 c6, e = .returned (.slice A6 N c6) ∧ Bs w' w'.heap.size A6 l ∧ Only Nil u w') := Lib.hid (fun u hu => by
          have hrl : rs.length ≤ 160 := by have := congrArg List.length HMAP.out; rw [List.length_map] at this; omega
          have := weffects_any Af cf rs u ((FLA.out.onlyNil hu).fs) (by omega) (fun r hr => by
            have h1 := hfd r.x (by rw [← HMAP.out]; exact List.mem_map.2 ⟨r, hr, rfl⟩)
            exact ⟨by have := h1.2.1; omega, by have := h1.2.2; omega⟩)
          rw [HMAP.out, hfe, HNF.out] at this
          refine this.mono ?_
          rintro x u' ⟨A2, c2, rfl, _, h2, h3⟩
          exact ⟨A2, c2, by rw [HN.out], (Bs.of_own h2).1, h3⟩)
        clear HCMM HCF HCE OM OE FLA HMAP HNF B1 B2 hfe hfl hfd
        go_wp2_with fail
        with_reducible refine (CF.out _ HZ.out).mono ?_
        clear k1 k2 CF
        rintro x w10 ⟨A6, c6, rfl, hb6, hO6⟩
        have HOX10 := Lib.hid (HZ.out.thenNil hO6)
        have HS := Lib.hid (HSAME.out w10 A6 c6 (HO9.out.thenNil HOX10.out) hb6)
        clear hb6 hO6
        have k1 := K1.out w10 HOX10.out
        have k2 := K2.out w10 HOX10.out
        go_wp2_with fail
        with_reducible refine HS.out.mono ?_
        clear HS
        rintro x w60 ⟨rfl, rfl⟩
        go_wp2_with fail
        refine bodyPost_ret (v := .bool true) (by simp [results, Try.results7, go_sem]) rfl ?_
        exact ⟨rfl, HO9.out.thenNil HOX10.out⟩
    · subst hef0
      rcases HCE.out with ⟨hee, hee1, hef, hed1⟩ | ⟨hee, _⟩
      · subst hee
        have CE : Hid (∀ u, Only Nil w9 u → Calls Try.prog 43 #[.slice none 0 0, .agg #[Value.int .i64 e0, .int .i64 e1, .int .i64 e2, .int .i64 e3, .int .i64 e4, .int .i64 e5, .int .i64 e6, .slice Ae ed.length ce]] u fun e w' => ∃ A6 c6, e = .returned (.slice A6 N c6) ∧ Bs w' w'.heap.size A6 l ∧ Only Nil u w') := Lib.hid (fun u hu => by
          have := entry_enc ⟨Ae, ce, ⟨e0, e1, e2, e3, e4, e5, e6, ed⟩⟩ u ⟨hef, HOEL.out, HOEC.out, (Bs.of_own (own_onlyNil OE.out hu)).1⟩ (by dsimp only at hed1 ⊢; omega)
          dsimp only at this
          rw [hee1] at this
          refine this.mono ?_
          rintro x u' ⟨A2, c2, rfl, _, h2, h3⟩
          exact ⟨A2, c2, by rw [HN.out], (Bs.of_own h2).1, h3⟩)
        clear HCMM HCF HCE OM OE FLA HMAP HNF B1 B2 hee1 hef hed1
        go_wp2_with fail
        with_reducible refine (CE.out _ HZ.out).mono ?_
        clear k1 k2 CE
        rintro x w10 ⟨A6, c6, rfl, hb6, hO6⟩
        have HOX10 := Lib.hid (HZ.out.thenNil hO6)
        have HS := Lib.hid (HSAME.out w10 A6 c6 (HO9.out.thenNil HOX10.out) hb6)
        clear hb6 hO6
        have k1 := K1.out w10 HOX10.out
        have k2 := K2.out w10 HOX10.out
        go_wp2_with fail
        with_reducible refine HS.out.mono ?_
        clear HS
        rintro x w60 ⟨rfl, rfl⟩
        go_wp2_with fail
        refine bodyPost_ret (v := .bool true) (by simp [results, Try.results7, go_sem]) rfl ?_
        exact ⟨rfl, HO9.out.thenNil HOX10.out⟩
      · subst hee
        clear HCMM HCF HCE OM OE FLA HMAP HNF B1 B2
        go_wp2_with fail
        refine bodyPost_ret (v := .bool true) (by simp [results, Try.results7, go_sem]) rfl ?_
        exact ⟨rfl, HO9.out.thenNil HZ.out⟩

set_option maxRecDepth 100000 in
theorem from_args {H : Type} {enc : TypeId × Value → H} (W : World) (base : Nat) (args : Array Value) (ds : List (DataW H)) (ps : List MemPlace)
    (hval0 : ∀ (j : Nat) t v, Try.f7.params[j]? = some t → args[j]? = some v → Value.okWide Try.prog W .any base t v)
    (hA : DataW.TrodAll enc Try.prog W 0 (fun _ => true) true Try.f7.params.toList args.toList ds ps) (_hlt : ∀ x ∈ ps, x.block < W.heap.size)
    (hsz : (DataW.weightsEach Try.prog Try.f7.params.toList ds).all (· ≤ reachBytes) = true) : Calls Try.prog 7 args W (LawPost W) := by
  have hval := hval0
  rw [Try.params7] at hA hval hsz
  obtain ⟨v0, vs0, d0, ds0, p0, q0, hargs, rfl, rfl, h0, r0⟩ := trodAll_cons hA
  obtain ⟨rfl, rfl, rfl⟩ := trodAll_nil r0
  obtain rfl : args = #[v0] := by cases args; simp_all
  obtain ⟨A, l, c, rfl, h1', h2', hB⟩ := open_barg (hval 0 _ v0 rfl rfl) h0
  exact walk A c l W hB

set_option maxRecDepth 100000 in
theorem over : Rows.wireCanonicalRow.holds Try.pinned (OpenSpec.ofChange Rows.wireCanonicalSpec) :=
  OpenClaim.holds_of_wide 7 Try.f7 rfl rfl rfl rfl rfl rfl rfl ⟨rfl, rfl, rfl, rfl, rfl⟩ rfl rfl rfl rfl rfl (by kernel_rfl) Try.func7 (by kernel_rfl)
    (of_decide_eq_true (by kernel_rfl)) (by unfold Func.isWrapper; first | (rw [if_pos (by decide +kernel)]; kernel_rfl) | (rw [if_neg (by decide +kernel)]; exact ⟨rfl, rfl⟩))
    (fun os started H enc _ => law_lifted (f := 7) (F := Try.f7) (s := Rows.wireCanonicalSpec) os started H enc (by kernel_rfl) Try.func7 rfl rfl (by kernel_rfl) (by kernel_rfl)
      (fun ds hd => by match ds, hd with | [_], _ => rfl)
      (ChangeSpec.witness6 (enc := enc) (C := Try.checked) false ⟨#[], #[.slice none 0 0], []⟩ 8 (by kernel_rfl) (by kernel_rfl) (by kernel_rfl) (by kernel_rfl))
      (fun W base args ds ps hv hA hlt hsz => from_args W base args ds ps hv hA hlt hsz))

/-- The statement. -/
theorem proved : Rows.WireCanonicalSaid := over

end wireCanonical
end Go.Proofs.Ytbhgaaendekghaa
