/-
  The walk of ratoonref01's peek: the number with which the bytes at the position begin.
  Conditions: the reader stands within its bytes; they are at most 2 to the power 40.
-/
import Derived.Test.YtbhgaaendekghaaRfR
import Derived.Laws.Bits64b
namespace Go.Proofs.Ytbhgaaendekghaa
open Go.RowKit

def PeekPost (l : List UInt8) (pos : Nat) (w : World) (e : Ending) (w' : World) : Prop :=
  ∃ (z : Int) (b : Bool), e = .returned (.tuple #[.int .i64 z, .bool b]) ∧ (-9223372036854775808 ≤ z ∧ z ≤ 9223372036854775807) ∧ (∀ y k, dec (l.drop pos) = some (y, k) → z = y ∧ b = true) ∧ (dec (l.drop pos) = none → b = false) ∧ Only Nil w w'

theorem pv_step {a m b W : Nat} : (a + m * b) % W = (a % W + m * (b % W) % W) % W := by
  rw [Nat.add_mod, Nat.mul_mod]
  simp [Nat.mul_mod]

set_option maxRecDepth 100000 in
set_option maxHeartbeats 4000000 in
theorem rfPeek_any (p : Nat) (A : Option Addr) (c : Nat) (l : List UInt8) (pos : Nat) (f : Bool) (w : World) (h : RF w p A c l pos f) (hp : pos ≤ l.length) (hl : l.length ≤ 1099511627776) :
    Calls Try.prog 80 #[.pointer (some ⟨p, 0, none⟩)] w (PeekPost l pos w) := by
  have H := Lib.hid h
  clear h
  obtain ⟨L, hL⟩ : ∃ L, l.drop pos = L := ⟨_, rfl⟩
  obtain ⟨N, hN⟩ : ∃ N, l.length = N := ⟨_, rfl⟩
  have hLN : L.length = N - pos := by rw [← hL, List.length_drop, hN]
  have HL := Lib.hid hL
  have HN := Lib.hid hN
  have HLN := Lib.hid hLN
  have HPL := Lib.hid hp
  have HLL := Lib.hid hl
  rw [hN] at hp hl
  clear hL hN hLN
  unfold PeekPost
  rw [HL.out]
  go_enter Try.func80, Try.ntmps80
  go_wp2_with fail
  go_loopw [4, 5, 6] (fun u pl k wr => ∃ i U PL : Nat, k = .int .i64 i ∧ u = .int .u64 U ∧ pl = .int .u64 PL ∧ i ≤ 10 ∧ pos + i ≤ N ∧ U = pv (L.take i) % 18446744073709551616 ∧ PL = 128 ^ i % 18446744073709551616 ∧ Going L i ∧ Only Nil w wr) (fun _ _ k _ => 10 - (intOf k).toNat)
  case atStart => exact ⟨0, 0, 1, rfl, rfl, rfl, by omega, by omega, rfl, rfl, Going.zero L, Only.refl _ _⟩
  case round =>
    obtain ⟨i, U, PL, rfl, rfl, rfl, hi, hpi, hU, hPL, hg, hO⟩ := hrel
    have HU := Lib.hid hU
    have HPLc := Lib.hid hPL
    have HG := Lib.hid hg
    have HO := Lib.hid hO
    have hU64 : U < 18446744073709551616 := by rw [hU]; exact Nat.mod_lt _ (by omega)
    have hP64 : PL < 18446744073709551616 := by rw [hPL]; exact Nat.mod_lt _ (by omega)
    obtain ⟨P, hP⟩ : ∃ P, pos + i = P := ⟨_, rfl⟩
    rw [hP] at hpi
    have HP := Lib.hid hP
    have hbx := (H.out.onlyNil hO).box
    rw [HN.out] at hbx
    have HBX := Lib.hid hbx
    have kb : ∀ i, wr.cell? ⟨p, i, none⟩ = #[Value.slice A N c, .int .i64 pos, .bool f][i]? := fun i => hbx.cell i
    have hadd : IntKind.i64.wrap ((pos : Int) + i) = (P : Int) := by rw [IntWalk.i64_in _ (by omega)]; omega
    have hadd2 : (pos : Int) + i = (P : Int) := by omega
    clear hU hPL hg hO hP hbx
    obtain ⟨w3, rfl⟩ : ∃ w3, w3 = wr := ⟨_, rfl⟩
    obtain ⟨T, hT⟩ : ∃ T, decide (i < 10 ∧ P < N) = T := ⟨_, rfl⟩
    have HT := Lib.hid hT
    clear hT
    go_upto_region 4 with fail
    go_cut [24] (fun x wd => x = .bool T ∧ Only Nil w3 wd)
    case first =>
      by_cases h10 : i < 10
      · have h10i : (i : Int) < 10 := by omega
        have hd1 : decide ((i : Int) < 10) = true := decide_eq_true h10i
        by_cases hPN : P < N
        · have hd2 : decide ((P : Int) < (N : Int)) = true := by rw [decide_eq_true_eq]; omega
          have hd3 : decide (P < N) = true := decide_eq_true hPN
          have hT : T = true := by rw [← HT.out]; exact decide_eq_true ⟨h10, hPN⟩
          have HTT := Lib.hid hT
          clear hT
          go_quiet (fail)
          go_wp2_with fail
          go_meet
          case rel => exact ⟨by rw [HTT.out], by (repeat' (first | with_reducible exact Only.refl _ _ | with_reducible refine Only.setCell ?_ (Or.inl ?_) _ | with_reducible refine Only.drewN ?_ _ | with_reducible refine Only.drew ?_ | with_reducible refine Only.alloc ?_ _ | (fail)))⟩
        · have hd2 : decide ((P : Int) < (N : Int)) = false := by rw [decide_eq_false_iff_not]; omega
          have hd3 : decide (P < N) = false := decide_eq_false hPN
          have hT : T = false := by rw [← HT.out]; exact decide_eq_false (fun h => hPN h.2)
          have HTT := Lib.hid hT
          clear hT
          go_quiet (fail)
          go_wp2_with fail
          go_meet
          case rel => exact ⟨by rw [HTT.out], by (repeat' (first | with_reducible exact Only.refl _ _ | with_reducible refine Only.setCell ?_ (Or.inl ?_) _ | with_reducible refine Only.drewN ?_ _ | with_reducible refine Only.drew ?_ | with_reducible refine Only.alloc ?_ _ | (fail)))⟩
      · have hd1 : decide ((i : Int) < 10) = false := by rw [decide_eq_false_iff_not]; omega
        have hT : T = false := by rw [← HT.out]; exact decide_eq_false (fun h => h10 h.1)
        have HTT := Lib.hid hT
        clear hT
        go_quiet (fail)
        go_wp2_with fail
        go_meet
        case rel => exact ⟨by rw [HTT.out], by (repeat' (first | with_reducible exact Only.refl _ _ | with_reducible refine Only.setCell ?_ (Or.inl ?_) _ | with_reducible refine Only.drewN ?_ _ | with_reducible refine Only.drew ?_ | with_reducible refine Only.alloc ?_ _ | (fail)))⟩
    case rest =>
    obtain ⟨rfl, hOc⟩ := hcut
    have HBC := Lib.hid (HBX.out.onlyNil hOc)
    have HOC := Lib.hid (HO.out.thenNil hOc)
    clear kb hOc
    cases T
    · go_wp2_with fail
      go_ret2
      have h1 := of_decide_eq_false HT.out
      have hnone : dec L = none := dec_none_going HG.out (by have := HP.out; have := HLN.out; omega)
      exact ⟨0, false, rfl, by omega, (fun y k hd => by rw [hnone] at hd; cases hd), fun _ => rfl, HOC.out⟩
    obtain ⟨h10, hPN⟩ := of_decide_eq_true HT.out
    obtain ⟨cb, hcb⟩ : ∃ b, l[P]? = some b := ⟨l[P]'(by rw [HN.out]; exact hPN), List.getElem?_eq_getElem _⟩
    have hcL : L[i]? = some cb := by rw [← HL.out, List.getElem?_drop, HP.out]; exact hcb
    obtain ⟨g, off, hA, _, hc0⟩ := (H.out.onlyNil HOC.out).bytes.at_ hcb
    subst hA
    have kb0 : ∀ i, wc.cell? ⟨p, i, none⟩ = #[Value.slice (some ⟨g, off, none⟩) N c, .int .i64 pos, .bool f][i]? := fun i => HBC.out.cell i
    have kb1 : ∀ i, wc.drew.cell? ⟨p, i, none⟩ = #[Value.slice (some ⟨g, off, none⟩) N c, .int .i64 pos, .bool f][i]? := fun i => HBC.out.drew.cell i
    have c1 : wc.drew.cell? ⟨g, off + P, none⟩ = some (.int .u8 (cb.toNat : Int)) := hc0
    have hPi : (P : Int) < N := by omega
    have HCL := Lib.hid hcL
    clear hcb hcL
    obtain ⟨w4, rfl⟩ : ∃ w4, w4 = wc := ⟨_, rfl⟩
    go_upto_region 6 with fail
    go_cut [7] (fun x wd => x = .int .u8 (cb.toNat : Int) ∧ Only Nil w4 wd)
    case first =>
      go_quiet (fail)
      go_wp2_with fail
      go_meet
      case rel => exact ⟨rfl, by (repeat' (first | with_reducible exact Only.refl _ _ | with_reducible refine Only.setCell ?_ (Or.inl ?_) _ | with_reducible refine Only.drewN ?_ _ | with_reducible refine Only.drew ?_ | with_reducible refine Only.alloc ?_ _ | (fail)))⟩
    case rest =>
    obtain ⟨rfl, hO6⟩ := hcut
    have HO6 := Lib.hid (HOC.out.thenNil hO6)
    clear hO6 kb0 kb1 c1 hc0 hadd hadd2
    have hc256 := cb.toNat_lt
    obtain ⟨C, hC⟩ : ∃ C, cb.toNat = C := ⟨_, rfl⟩
    rw [hC] at hc256 ⊢
    have HC := Lib.hid hC
    obtain ⟨m, hm⟩ : ∃ m, C % 128 = m := ⟨_, rfl⟩
    obtain ⟨Q, hQ⟩ : ∃ Q, m * PL = Q := ⟨_, rfl⟩
    obtain ⟨V, hV⟩ : ∃ V, (U + Q % 18446744073709551616) % 18446744073709551616 = V := ⟨_, rfl⟩
    have hVp : V = pv (L.take (i + 1)) % 18446744073709551616 := by
      obtain ⟨hil, hie⟩ := List.getElem?_eq_some_iff.1 HCL.out
      rw [List.take_succ_eq_append_getElem hil, pv_snoc, hie, hC, hm, List.length_take, Nat.min_eq_left (by omega), pv_step, ← HU.out, ← HPLc.out, hQ, hV]
    have hm128 : m < 128 := by omega
    have hV64 : V < 18446744073709551616 := by rw [← hV]; exact Nat.mod_lt _ (by omega)
    have hrm : Int.tmod (C : Int) 128 = (m : Int) := by rw [Int.tmod_eq_emod_of_nonneg (by omega)]; omega
    have hw0 : IntKind.u8.wrap (m : Int) = m := IntWalk.u8_in _ (by omega)
    have hw1 : IntKind.u64.wrap (m : Int) = m := IntWalk.u64_in _ (by omega)
    have hmul : (m : Int) * (PL : Int) = (Q : Int) := by rw [← hQ]; push_cast; rfl
    have hw2 : IntKind.u64.wrap (Q : Int) = ((Q % 18446744073709551616 : Nat) : Int) := by rw [IntKind.wrap_u64]; omega
    obtain ⟨Q2, hQ2⟩ : ∃ Q2, Q % 18446744073709551616 = Q2 := ⟨_, rfl⟩
    rw [hQ2] at hw2 hV
    have hw3 : IntKind.u64.wrap ((U : Int) + Q2) = (V : Int) := by rw [IntKind.wrap_u64]; omega
    obtain ⟨PL2, hPL2⟩ : ∃ PL2, PL * 128 % 18446744073709551616 = PL2 := ⟨_, rfl⟩
    have hw4 : IntKind.u64.wrap ((PL : Int) * 128) = (PL2 : Int) := by rw [IntKind.wrap_u64]; omega
    have hPLn : PL2 = 128 ^ (i + 1) % 18446744073709551616 := by rw [← hPL2, HPLc.out, Nat.pow_succ, Nat.mod_mul_mod]
    have HVP := Lib.hid hVp
    have HPLN := Lib.hid hPLn
    have HV64 := Lib.hid hV64
    clear hVp hPLn hC hm hQ hQ2 hPL2 hV
    by_cases hC128 : C < 128
    rotate_left
    · have hci : ¬ (C : Int) < 128 := by omega
      have HNX := Lib.hid (HG.out.more HCL.out (by rw [HC.out]; exact hC128))
      go_wp2_with fail
      go_roundw
      case rel => exact ⟨i + 1, V, PL2, by go_num, rfl, rfl, by omega, by have := HP.out; omega, HVP.out, HPLN.out, HNX.out, HO6.out⟩
      case measure => simp [intOf] <;> omega
    have hci : (C : Int) < 128 := by omega
    obtain ⟨Z, hZ⟩ : ∃ Z, zag V = Z := ⟨_, rfl⟩
    have hZr := zag_range hV64
    rw [hZ] at hZr
    have hq1 : Int.tdiv (V : Int) 2 = ((V / 2 : Nat) : Int) := by rw [Int.tdiv_eq_ediv_of_nonneg (by omega)]; omega
    have hq2 : Int.tmod (V : Int) 2 = ((V % 2 : Nat) : Int) := by rw [Int.tmod_eq_emod_of_nonneg (by omega)]; omega
    obtain ⟨X, hX⟩ : ∃ X, V / 2 = X := ⟨_, rfl⟩
    obtain ⟨Y, hY⟩ : ∃ Y, V % 2 = Y := ⟨_, rfl⟩
    rw [hX] at hq1
    rw [hY] at hq2
    have hw5 : IntKind.u64.wrap (X : Int) = X := IntWalk.u64_in _ (by omega)
    have hw6 : IntKind.i64.wrap (X : Int) = X := IntWalk.i64_in _ (by omega)
    have hw7 : IntKind.u64.wrap (Y : Int) = Y := IntWalk.u64_in _ (by omega)
    have hZX : Z = if Y = 1 then -(X : Int) - 1 else (X : Int) := by rw [← hZ]; unfold zag; rw [hY, hX]
    have HZX := Lib.hid hZX
    have HZ := Lib.hid hZ
    have HZR := Lib.hid hZr
    have hX63 : X ≤ 9223372036854775807 := by omega
    obtain ⟨w6, rfl⟩ : ∃ w6, w6 = wc := ⟨_, rfl⟩
    clear hZX hZ hX hY
    go_upto_if 55 with fail
    go_cut [8] (fun x wd => x = .int .i64 Z ∧ wd = w6)
    case first =>
      by_cases hy : Y = 1
      · subst hy
        have HZZ := Lib.hid (show -(X : Int) - 1 = Z by rw [HZX.out, if_pos rfl])
        go_wp2_with fail
        go_meet
        case rel => exact ⟨by rw [← HZZ.out], rfl⟩
      · have hyb : ((Y : Int) == 1) = false := beq_false_of_ne (by omega)
        have HZZ := Lib.hid (show (X : Int) = Z by rw [HZX.out, if_neg hy])
        go_wp2_with fail
        go_meet
        case rel => exact ⟨by rw [← HZZ.out], rfl⟩
    case rest =>
    obtain ⟨rfl, rfl⟩ := hcut
    have HI := Lib.hid (fun u => Ref.int_any Z u HZR.out)
    unfold BytesPost at HI
    obtain ⟨E, hE⟩ : ∃ E, (encI Z).length = E := ⟨_, rfl⟩
    obtain ⟨ez, hez⟩ : ∃ ez, encI Z = ez := ⟨_, rfl⟩
    rw [hez] at HI hE
    rw [hE] at HI
    have HE := Lib.hid hE
    have HEZ := Lib.hid hez
    have hE10 : E ≤ 10 := by rw [← hE, ← hez]; exact encI_len _ (zig_lt HZR.out)
    have hyes : ∀ y k, dec L = some (y, k) → Z = y ∧ i + 1 = E ∧ (L.take E == ez) = true := fun y k hd => by
      obtain ⟨e1, e2, e3⟩ := dec_going hd HG.out HCL.out (by rw [HC.out]; exact hC128)
      have hVz : V = zig y := by rw [HVP.out, e1, e2, Nat.mod_eq_of_lt e3]
      have hZy : Z = y := by rw [← HZ.out, hVz, zag_zig]
      obtain ⟨h1, h2, h3, h4⟩ := dec_some hd
      have hEk : E = k := by rw [← hE, ← hez, hZy, h1]
      refine ⟨hZy, by omega, ?_⟩
      rw [hEk, h2, ← hez, hZy, List.take_append_of_le_length (by omega), ← h1, List.take_length]
      simp
    have hno : dec L = none → (L.take E == ez) = false := fun hd => by
      cases hb : (L.take E == ez) with
      | false => rfl
      | true =>
        rw [← hE, ← hez] at hb
        rw [dec_of_begin HZR.out hb] at hd
        cases hd
    have HYES := Lib.hid hyes
    have HNO := Lib.hid hno
    clear hE hez hyes hno
    go_wp2_with fail
    refine (HI.out _).mono ?_
    rintro e w7 ⟨A7, c7, rfl, hc7, hown7, hO7⟩
    have HO7 := Lib.hid (HO6.out.thenNil hO7)
    clear hc7 hown7 hO7
    have hi1 : IntKind.i64.wrap ((i : Int) + 1) = (i : Int) + 1 := IntWalk.i64_in _ (by omega)
    by_cases hq : E = i + 1
    rotate_left
    · have hqb : ((E : Int) == (i : Int) + 1) = false := beq_false_of_ne (by omega)
      go_wp2_with fail
      go_ret2
      exact ⟨Z, false, rfl, HZR.out, (fun y k hd => by have := (HYES.out y k hd).2.1; omega), fun _ => rfl, HO7.out⟩
    have hqb : ((E : Int) == (i : Int) + 1) = true := by rw [hq]; simp
    have HQ := Lib.hid hq
    clear hq
    go_wp2_with fail
    refine (HI.out _).mono ?_
    rintro e w8 ⟨A8, c8, rfl, hc8, hown8, hO8⟩
    have hbs : Bs w8 w8.heap.size A8 ez := (Bs.of_own (by rw [HE.out] at *; exact hown8)).1
    have hRF := (H.out.onlyNil HO7.out).onlyNil hO8
    have HBG := Lib.hid (begins_any p (some ⟨g, off, none⟩) c l pos f A8 c8 ez w8 hRF hbs HPL.out HLL.out (by rw [HE.out]; omega))
    rw [HE.out, HL.out] at HBG
    have HO8 := Lib.hid (HO7.out.thenNil hO8)
    obtain ⟨R, hR⟩ : ∃ R, (L.take E == ez) = R := ⟨_, rfl⟩
    rw [hR] at HBG HYES HNO
    clear hc8 hown8 hO8 hbs hRF hR
    go_wp2_with fail
    refine HBG.out.mono ?_
    rintro e w9 ⟨rfl, hO9⟩
    have HO9 := Lib.hid (HO8.out.thenNil hO9)
    clear hO9
    go_wp2_with fail
    go_ret2
    exact ⟨Z, R, rfl, HZR.out, (fun y k hd => ⟨(HYES.out y k hd).1, (HYES.out y k hd).2.2⟩), fun hd => HNO.out hd, HO9.out⟩

end Go.Proofs.Ytbhgaaendekghaa
