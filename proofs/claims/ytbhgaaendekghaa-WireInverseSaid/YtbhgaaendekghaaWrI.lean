/-
  The walk of wire's int: an integer is read from a reader.
  Conditions: the reader stands within its bytes; they are at most 2 to the power 40.
-/
import Derived.Test.YtbhgaaendekghaaWrP
import Derived.Test.YtbhgaaendekghaaInv
import Derived.BigQuiet
import Derived.Laws.Bits64b
import Derived.Deep.QuietTactic
namespace Go.Proofs.Ytbhgaaendekghaa
open Go.RowKit

/-- A reader: its box, its bytes. -/
structure RR (w : World) (p : Nat) (A : Option Addr) (c : Nat) (l : List UInt8) (pos : Nat) (failed : Bool) : Prop where
  box : Blk w p 96 #[.slice A l.length c, .int .i64 pos, .bool failed]
  bytes : Bs w w.heap.size A l
  cap : l.length ≤ c
theorem rr_no (A : Option Addr) (n c : Nat) (z : Int) (b : Bool) : NoU8 #[.slice A n c, .int .i64 z, .bool b] := by
  intro i z
  match i with
  | 0 => simp
  | 1 => simp
  | 2 => simp
  | n + 3 => simp
theorem RR.onlyNil {w w' : World} {p : Nat} {A : Option Addr} {c : Nat} {l : List UInt8} {pos : Nat} {f : Bool} (h : RR w p A c l pos f) (hO : Only Nil w w') : RR w' p A c l pos f :=
  ⟨h.box.onlyNil hO, (h.bytes.onlyNil hO (Nat.le_refl _)).up hO.size, h.cap⟩
/-- Only the reader's box has turned. -/
theorem RR.move {w w' : World} {p : Nat} {A : Option Addr} {c : Nat} {l : List UInt8} {pos pos' : Nat} {f f' : Bool} (h : RR w p A c l pos f) (hO : Only (One p) w w') (hb : Blk w' p 96 #[.slice A l.length c, .int .i64 pos', .bool f']) : RR w' p A c l pos' f' :=
  ⟨hb, (h.bytes.box h.box (rr_no _ _ _ _ _) hO (Nat.le_refl _)).up hO.size, h.cap⟩

theorem and127 {n : Nat} (h : n < 256) : bits .and .u8 (n : Int) 127 = ((n % 128 : Nat) : Int) := by
  have h1 : ∀ k : Fin 256, bits .and .u8 (k.val : Int) 127 = ((k.val % 128 : Nat) : Int) := by decide +kernel
  exact h1 ⟨n, h⟩
theorem or128 {v m i : Nat} (hv : v < 128 ^ i) (hm : m * 128 ^ i < 18446744073709551616) (hm1 : m < 128) (hi : i ≤ 9) : bits .or .u64 (v : Int) (IntKind.u64.wrap (IntKind.u64.wrap (m : Int) * 2 ^ (7 * i))) = ((v + m * 128 ^ i : Nat) : Int) := by
  have h1 : (2 : Int) ^ (7 * i) = ((128 ^ i : Nat) : Int) := by rw [Int.pow_mul]; norm_cast
  have h2 : IntKind.u64.wrap (m : Int) = m := IntWalk.u64_in _ (by omega)
  have h3 : (m : Int) * ((128 ^ i : Nat) : Int) = ((m * 128 ^ i : Nat) : Int) := by norm_cast
  have h4 : IntKind.u64.wrap ((m * 128 ^ i : Nat) : Int) = ((m * 128 ^ i : Nat) : Int) := IntWalk.u64_in _ (by omega)
  have h5 := pow_le hi
  rw [h1, h2, h3, h4, bits_or_u64_nat _ _ (by omega) hm]
  have h6 : (128 : Nat) ^ i = 2 ^ (7 * i) := by rw [Nat.pow_mul]
  rw [h6] at hv ⊢
  have h7 := Nat.shiftLeft_add_eq_or_of_lt hv m
  rw [Nat.shiftLeft_eq] at h7
  rw [Nat.or_comm, ← h7, Nat.add_comm]

theorem not_i64 {x : Nat} (h : x < 9223372036854775808) : bits .xor .i64 (-1) (x : Int) = -(x : Int) - 1 := by
  have h2 : (BitVec.ofInt 64 (x : Int)) = BitVec.ofNat 64 x := BitVec.ofInt_natCast 64 x
  have h1 : BitVec.ofInt 64 (-1) = BitVec.allOnes 64 := by decide
  show IntKind.i64.wrap ((BitVec.ofInt 64 (-1) ^^^ BitVec.ofInt 64 (x : Int)).toNat : Int) = _
  rw [h1, h2, BitVec.allOnes_xor, BitVec.toNat_not, BitVec.toNat_ofNat, Nat.mod_eq_of_lt (by omega)]
  have hp : (2 : Nat) ^ 64 = 18446744073709551616 := by decide
  rw [hp]
  have e : ((18446744073709551616 - 1 - x : Nat) : Int) = 18446744073709551615 - (x : Int) := by omega
  rw [e]
  simp [IntKind.wrap, IntKind.bits, IntKind.signed]
  omega

/-- What int answers. -/
def IntPost (p : Nat) (A : Option Addr) (c : Nat) (l : List UInt8) (pos : Nat) (f : Bool) (w : World) (e : Ending) (w' : World) : Prop :=
  ∃ pos' : Nat, RR w' p A c l pos' f ∧ pos' ≤ l.length ∧ Only (One p) w w' ∧
    ((∃ (z : Int) (n : Nat), dec (l.drop pos) = some (z, n) ∧ pos' = pos + n ∧ e = .returned (.tuple #[.int .i64 z, .bool true])) ∨ (dec (l.drop pos) = none ∧ e = .returned (.tuple #[.int .i64 0, .bool false])))

set_option maxRecDepth 100000 in
set_option maxHeartbeats 4000000 in
theorem rdint_any (p : Nat) (A : Option Addr) (c : Nat) (l : List UInt8) (pos : Nat) (f : Bool) (w : World) (h : RR w p A c l pos f) (hp : pos ≤ l.length) (hl : l.length ≤ 1099511627776) :
    Calls Try.prog 62 #[.pointer (some ⟨p, 0, none⟩)] w (IntPost p A c l pos f w) := by
  have H := Lib.hid h
  clear h
  obtain ⟨L, hL⟩ : ∃ L, l.drop pos = L := ⟨_, rfl⟩
  obtain ⟨N, hN⟩ : ∃ N, l.length = N := ⟨_, rfl⟩
  have hLN : L.length = N - pos := by rw [← hL, List.length_drop, hN]
  have HL := Lib.hid hL
  have HN := Lib.hid hN
  have HLN := Lib.hid hLN
  rw [hN] at hp hl
  clear hL hN hLN
  go_enter Try.func62, Try.ntmps62
  go_wp2_with fail
  go_loopw [4, 5] (fun u k wr => ∃ i v : Nat, k = .int .i64 i ∧ u = .int .u64 v ∧ i ≤ 10 ∧ pos + i ≤ N ∧ RR wr p A c l (pos + i) f ∧ Only (One p) w wr ∧ Rest L i v) (fun _ k _ => 10 - (intOf k).toNat)
  case atStart => exact ⟨0, 0, rfl, rfl, by omega, by omega, H.out, Only.refl _ _, Rest.zero L⟩
  case round =>
    obtain ⟨i, v, rfl, rfl, hi, hpi, hR, hO, hV⟩ := hrel
    have HR := Lib.hid hR
    have HO := Lib.hid hO
    have HV := Lib.hid hV
    obtain ⟨P, hP⟩ : ∃ P, pos + i = P := ⟨_, rfl⟩
    rw [hP] at hpi
    have HP := Lib.hid hP
    have hbx := HR.out.box
    rw [hP, HN.out] at hbx
    have HBX := Lib.hid hbx
    have kb : ∀ i, wr.cell? ⟨p, i, none⟩ = #[Value.slice A N c, .int .i64 P, .bool f][i]? := fun i => hbx.cell i
    clear hR hO hV hP hbx
    obtain ⟨T, hT⟩ : ∃ T, decide (i < 10 ∧ P < N) = T := ⟨_, rfl⟩
    have HT := Lib.hid hT
    clear hT
    go_upto_region 3 with fail
    go_cut [21] (fun x wd => x = .bool T ∧ Only Nil wr wd)
    case first =>
      by_cases h10 : i < 10
      · have h10i : (i : Int) < 10 := by omega
        have hd1 : decide ((i : Int) < 10) = true := decide_eq_true h10i
        by_cases hPN : P < N
        · have hd2 : decide ((P : Int) < (N : Int)) = true := by rw [decide_eq_true_eq]; omega
          have hd3 : decide (P < N) = true := decide_eq_true hPN
          have hT : T = true := by rw [← HT.out]; exact decide_eq_true ⟨h10, hPN⟩
          have HTT := Lib.hid hT
          clear hT
          go_quiet (fail)
          go_wp2_with fail
          go_meet
          case rel => exact ⟨by rw [HTT.out], by (repeat' (first | with_reducible exact Only.refl _ _ | with_reducible refine Only.setCell ?_ (Or.inl ?_) _ | with_reducible refine Only.drewN ?_ _ | with_reducible refine Only.drew ?_ | with_reducible refine Only.alloc ?_ _ | (fail)))⟩
        · have hd2 : decide ((P : Int) < (N : Int)) = false := by rw [decide_eq_false_iff_not]; omega
          have hd3 : decide (P < N) = false := decide_eq_false hPN
          have hT : T = false := by rw [← HT.out]; exact decide_eq_false (fun h => hPN h.2)
          have HTT := Lib.hid hT
          clear hT
          go_quiet (fail)
          go_wp2_with fail
          go_meet
          case rel => exact ⟨by rw [HTT.out], by (repeat' (first | with_reducible exact Only.refl _ _ | with_reducible refine Only.setCell ?_ (Or.inl ?_) _ | with_reducible refine Only.drewN ?_ _ | with_reducible refine Only.drew ?_ | with_reducible refine Only.alloc ?_ _ | (fail)))⟩
      · have hd1 : decide ((i : Int) < 10) = false := by rw [decide_eq_false_iff_not]; omega
        have hT : T = false := by rw [← HT.out]; exact decide_eq_false (fun h => h10 h.1)
        have HTT := Lib.hid hT
        clear hT
        go_quiet (fail)
        go_wp2_with fail
        go_meet
        case rel => exact ⟨by rw [HTT.out], by (repeat' (first | with_reducible exact Only.refl _ _ | with_reducible refine Only.setCell ?_ (Or.inl ?_) _ | with_reducible refine Only.drewN ?_ _ | with_reducible refine Only.drew ?_ | with_reducible refine Only.alloc ?_ _ | (fail)))⟩
    case rest =>
      obtain ⟨rfl, hOc⟩ := hcut
      have HBC := Lib.hid (HBX.out.onlyNil hOc)
      have HRC := Lib.hid (HR.out.onlyNil hOc)
      have HOC := Lib.hid (HO.out.thenNil hOc)
      clear kb hOc
      cases T
      · go_wp2_with fail
        go_ret2
        refine ⟨pos + i, HRC.out, by rw [HP.out, HN.out]; exact hpi, HOC.out, .inr ⟨?_, rfl⟩⟩
        have h1 := of_decide_eq_false HT.out
        rw [HL.out]
        by_cases h10 : i < 10
        · exact HV.out.none_end (by rw [HLN.out]; have := HP.out; omega)
        · obtain rfl : i = 10 := by omega
          exact HV.out.none_ten
      · obtain ⟨h10, hPN⟩ := of_decide_eq_true HT.out
        obtain ⟨cb, hcb⟩ : ∃ b, l[P]? = some b := ⟨l[P]'(by rw [HN.out]; exact hPN), List.getElem?_eq_getElem _⟩
        have hcL : L[i]? = some cb := by rw [← HL.out, List.getElem?_drop, HP.out]; exact hcb
        obtain ⟨g, off, hA, _, hcell⟩ := HRC.out.bytes.at_ hcb
        obtain ⟨cn, hcn⟩ : ∃ n : Nat, cb.toNat = n := ⟨_, rfl⟩
        rw [hcn] at hcell
        have hcn8 : cn < 256 := by rw [← hcn]; exact cb.toNat_lt
        have hb2 := HBC.out
        rw [hA] at hb2
        have kb : ∀ i, wc.cell? ⟨p, i, none⟩ = #[Value.slice (some ⟨g, off, none⟩) N c, .int .i64 P, .bool f][i]? := fun i => hb2.cell i
        have HCL := Lib.hid hcL
        have HCN := Lib.hid hcn
        have hPNi : (P : Int) < N := by omega
        clear hcb hcL hA hb2 hcn
        go_upto_region 5 with fail
        go_cut [6] (fun x wd => x = .int .u8 cn ∧ Only Nil wc wd)
        case first =>
          go_quiet (fail)
          go_wp2_with fail
          go_meet
          case rel => exact ⟨rfl, by (repeat' (first | with_reducible exact Only.refl _ _ | with_reducible refine Only.setCell ?_ (Or.inl ?_) _ | with_reducible refine Only.drewN ?_ _ | with_reducible refine Only.drew ?_ | with_reducible refine Only.alloc ?_ _ | (fail)))⟩
        case rest =>
          obtain ⟨rfl, hOc⟩ := hcut
          have HB5 := Lib.hid (HBC.out.onlyNil hOc)
          have HR5 := Lib.hid (HRC.out.onlyNil hOc)
          have HO5 := Lib.hid (HOC.out.thenNil hOc)
          clear kb hOc hcell
          have kb : ∀ i, wc.cell? ⟨p, i, none⟩ = #[Value.slice A N c, .int .i64 P, .bool f][i]? := fun i => HB5.out.cell i
          have fb : ∀ i, wc.frozen? ⟨p, i, none⟩ = false := fun i => HB5.out.frozen i
          have hw1 : IntKind.i64.wrap ((P : Int) + 1) = ((P + 1 : Nat) : Int) := by rw [IntWalk.i64_in _ (by omega)]; omega
          obtain ⟨bd, hbd⟩ : ∃ b, decide (10 ≤ i ∨ (i = 9 ∧ 1 < cn) ∨ (0 < i ∧ cn = 0)) = b := ⟨_, rfl⟩
          have HBD := Lib.hid hbd
          clear hbd
          go_upto_region 6 with fail
          go_cut [] (fun wd => RR wd p A c l (P + 1) f ∧ Only (One p) w wd)
          case first =>
            go_wp2_with fail
            go_meet
            case rel =>
              have hO6 : Only (One p) wc (wc.setCell ⟨p, 1, none⟩ (.int .i64 ((P + 1 : Nat) : Int))) := by (repeat' (first | with_reducible exact Only.refl _ _ | with_reducible refine Only.setCell ?_ (Or.inl ?_) _ | with_reducible refine Only.drewN ?_ _ | with_reducible refine Only.drew ?_ | with_reducible refine Only.alloc ?_ _ | (exact rfl)))
              have hb6 := HB5.out.set_ 1 (.int .i64 ((P + 1 : Nat) : Int))
              rw [← HN.out] at hb6
              exact ⟨HR5.out.move hO6 hb6, HO5.out.then_ hO6⟩
          case rest =>
            obtain ⟨hR6, hO6⟩ := hcut
            have HR6 := Lib.hid hR6
            have HO6 := Lib.hid hO6
            clear kb fb hw1 hR6 hO6
            go_upto_region 7 with fail
            go_cut [54] (fun x wd => x = .bool bd ∧ wd = wc)
            case first =>
              by_cases h9 : i = 9
              · subst h9
                have hb : bd = (decide (1 < cn) || decide (cn = 0)) := by
                  rw [← HBD.out]
                  by_cases e1 : 1 < cn
                  · rw [decide_eq_true e1, decide_eq_true (.inr (.inl ⟨rfl, e1⟩))]; rfl
                  · by_cases e0 : cn = 0
                    · rw [decide_eq_true e0, Bool.or_true, decide_eq_true (.inr (.inr ⟨by omega, e0⟩))]
                    · rw [decide_eq_false e1, decide_eq_false e0, decide_eq_false (by omega)]; rfl
                by_cases e1 : 1 < cn
                · have hd : decide (1 < cn) = true := decide_eq_true e1
                  have hdi : decide ((1 : Int) < (cn : Int)) = true := by rw [decide_eq_true_eq]; omega
                  have hB : bd = true := by rw [hb, hd]; rfl
                  have HB := Lib.hid hB
                  clear hB hb
                  go_wp2_with fail
                  go_meet
                  case rel => exact ⟨by rw [HB.out], rfl⟩
                · have hd : decide (1 < cn) = false := decide_eq_false e1
                  have hdi : decide ((1 : Int) < (cn : Int)) = false := by rw [decide_eq_false_iff_not]; omega
                  have hB : bd = ((cn : Int) == 0) := by
                    rw [hb, hd, Bool.false_or]
                    show decide (cn = 0) = decide ((cn : Int) = 0)
                    rw [decide_eq_decide]; omega
                  have HB := Lib.hid hB
                  clear hB hb
                  go_wp2_with fail
                  go_meet
                  case rel => exact ⟨by rw [HB.out], rfl⟩
              · have h9i : ((i : Int) == 9) = false := by rw [beq_eq_false_iff_ne]; omega
                by_cases h0 : i = 0
                · subst h0
                  have hB : bd = false := by rw [← HBD.out]; exact decide_eq_false (by omega)
                  have HB := Lib.hid hB
                  clear hB
                  go_wp2_with fail
                  go_meet
                  case rel => exact ⟨by rw [HB.out], rfl⟩
                · have h0i : 0 < i := by omega
                  have hd0 : decide (0 < i) = true := decide_eq_true h0i
                  have hd0i : decide ((0 : Int) < (i : Int)) = true := by rw [decide_eq_true_eq]; omega
                  have hB : bd = ((cn : Int) == 0) := by
                    rw [← HBD.out]
                    show _ = decide ((cn : Int) = 0)
                    rw [decide_eq_decide]; omega
                  have HB := Lib.hid hB
                  clear hB
                  go_wp2_with fail
                  go_meet
                  case rel => exact ⟨by rw [HB.out], rfl⟩
            case rest =>
              obtain ⟨rfl, rfl⟩ := hcut
              have HP1 : Hid (pos + i + 1 = P + 1) := Lib.hid (by rw [HP.out])
              cases bd
              rotate_left
              · go_wp2_with fail
                go_ret2
                exact ⟨P + 1, HR6.out, by rw [HN.out]; omega, HO6.out, .inr ⟨by rw [HL.out]; exact HV.out.none_bad HCL.out (by rw [HCN.out]; exact of_decide_eq_true HBD.out), rfl⟩⟩
              · have hnb := of_decide_eq_false HBD.out
                have hm8 : cn % 128 * 128 ^ i < 18446744073709551616 := by
                  by_cases h9 : i = 9
                  · subst h9
                    have h9 : (128 : Nat) ^ 9 = 9223372036854775808 := by decide
                    rw [h9]; omega
                  · have h8 : 128 ^ i ≤ 128 ^ 8 := Nat.pow_le_pow_right (by omega) (by omega)
                    have h9 : (128 : Nat) ^ 8 = 72057594037927936 := by decide
                    have h3 : cn % 128 * 128 ^ i ≤ 127 * 72057594037927936 := Nat.mul_le_mul (by omega) (by omega)
                    omega
                have hor := or128 HV.out.1 hm8 (by omega) (by omega)
                rw [← and127 hcn8] at hor
                obtain ⟨v2, hv2⟩ : ∃ v2, v + cn % 128 * 128 ^ i = v2 := ⟨_, rfl⟩
                rw [hv2] at hor
                have hv2b : v2 < 18446744073709551616 := by
                  have h5 := pow_le (k := i) (by omega)
                  have h1 := HV.out.1
                  by_cases h9 : i = 9
                  · subst h9
                    have h9 : (128 : Nat) ^ 9 = 9223372036854775808 := by decide
                    rw [h9] at hm8 hv2 h1; omega
                  · have h8 : 128 ^ i ≤ 128 ^ 8 := Nat.pow_le_pow_right (by omega) (by omega)
                    have h9 : (128 : Nat) ^ 8 = 72057594037927936 := by decide
                    have h3 : cn % 128 * 128 ^ i ≤ 127 * 72057594037927936 := Nat.mul_le_mul (by omega) (by omega)
                    omega
                have HNB := Lib.hid hnb
                have HOR := Lib.hid hor
                have HV2 := Lib.hid hv2
                have HV2B := Lib.hid hv2b
                clear hnb hor hv2 hm8 hv2b
                go_upto_region 9 with fail
                go_cut [4] (fun x wd => x = .int .u64 v2 ∧ wd = wc)
                case first =>
                  go_wp2_with fail
                  go_meet
                  case rel => exact ⟨congrArg (Value.int .u64) HOR.out, rfl⟩
                case rest =>
                  obtain ⟨rfl, rfl⟩ := hcut
                  by_cases h128 : cn < 128
                  rotate_left
                  · have hdi : decide ((cn : Int) < 128) = false := by rw [decide_eq_false_iff_not]; omega
                    have hi1 : IntKind.i64.wrap ((i : Int) + 1) = ((i + 1 : Nat) : Int) := by rw [IntWalk.i64_in _ (by omega)]; omega
                    go_wp2_with fail
                    go_roundw
                    case rel =>
                      have h3 := HV.out.more HCL.out (by rw [HCN.out]; exact HNB.out) (by rw [HCN.out]; exact h128)
                      rw [HCN.out, HV2.out] at h3
                      have h4 := HR6.out
                      rw [← HP1.out] at h4
                      exact ⟨i + 1, v2, rfl, rfl, by omega, by have := HP1.out; omega, h4, HO6.out, h3⟩
                    case measure => simp [intOf]; omega
                  · have hdi : decide ((cn : Int) < 128) = true := by rw [decide_eq_true_eq]; omega
                    have hdv : wrap64 ((v2 : Int) / 2) = (v2 : Int) / 2 := by
                      have h1 := HV2B.out
                      exact wrap64_fit _ (by omega)
                    have hdn : (v2 : Int) / 2 = ((v2 / 2 : Nat) : Int) := by omega
                    have HDN := Lib.hid hdn
                    clear hdn
                    have hlast := HV.out.last HCL.out (by rw [HCN.out]; exact HNB.out) (by rw [HCN.out]; exact h128)
                    have hv2' : v + cb.toNat * 128 ^ i = v2 := by rw [HCN.out, ← HV2.out, Nat.mod_eq_of_lt h128]
                    rw [hv2'] at hlast
                    have HLAST := Lib.hid hlast
                    have hfin : ∀ z, z = zag v2 → IntPost p A c l pos f w (.returned (.tuple #[.int .i64 z, .bool true])) wc := fun z hz => by
                      have h4 := HR6.out
                      rw [← HP1.out] at h4
                      refine ⟨pos + i + 1, h4, by rw [HN.out]; have := HP1.out; omega, HO6.out, .inl ⟨z, i + 1, ?_, by omega, rfl⟩⟩
                      rw [HL.out, hz]
                      exact HLAST.out
                    have HFIN := Lib.hid hfin
                    clear hlast hv2' hfin
                    have hand := bits_and_u64_nat v2 1 HV2B.out (by omega)
                    rw [Nat.and_one_is_mod] at hand
                    by_cases hpar : v2 % 2 = 1
                    · have hz : zag v2 = -((v2 / 2 : Nat) : Int) - 1 := by unfold zag; rw [if_pos hpar]
                      have HZ := Lib.hid hz
                      rw [hpar] at hand
                      have hand1 : bits .and .u64 (v2 : Int) 1 = 1 := hand
                      clear hz hand hpar
                      go_wp2_with fail
                      go_ret2
                      refine HFIN.out _ ?_
                      rw [HZ.out, HDN.out]
                      exact not_i64 (by have := HV2B.out; omega)
                    · have hz : zag v2 = ((v2 / 2 : Nat) : Int) := by unfold zag; rw [if_neg hpar]
                      have HZ := Lib.hid hz
                      rw [show v2 % 2 = 0 by omega] at hand
                      have hand1 : bits .and .u64 (v2 : Int) 1 = 0 := hand
                      clear hz hand hpar
                      go_wp2_with fail
                      go_ret2
                      refine HFIN.out _ ?_
                      rw [HZ.out, ← HDN.out]
                      have h1 := HV2B.out
                      first | rfl | exact wrap64_fit _ (by omega)

end Go.Proofs.Ytbhgaaendekghaa
