/-
  The walk of record.number.
  Conditions: the bytes can be read; there are at least four.
-/
import Derived.Test.YtkcmdibpndkfbaaRcW3
namespace Go.Proofs.Ytkcmdibpndkfbaa
open Go.RowKit

theorem or_i64 (a b : Nat) (ha : a < 9223372036854775808) (hb : b < 9223372036854775808) : bits .or .i64 (a : Int) (b : Int) = ((a ||| b : Nat) : Int) := by
  have hx : a ||| b < 2 ^ 63 := Nat.or_lt_two_pow (by omega) (by omega)
  have h1 : (BitVec.ofInt 64 (a : Int)).toNat = a := by
    rw [BitVec.ofInt_natCast, BitVec.toNat_ofNat]; exact Nat.mod_eq_of_lt (by omega)
  have h2 : (BitVec.ofInt 64 (b : Int)).toNat = b := by
    rw [BitVec.ofInt_natCast, BitVec.toNat_ofNat]; exact Nat.mod_eq_of_lt (by omega)
  show IntKind.i64.wrap ((BitVec.ofInt 64 (a : Int) ||| BitVec.ofInt 64 (b : Int)).toNat : Int) = _
  rw [BitVec.toNat_or, h1, h2]
  exact IntWalk.i64_in _ (by omega)

theorem or_byte (a : Nat) (x : UInt8) (ha : a < 16777216) : bits .or .i64 ((a : Int) * 256) (x.toNat : Int) = ((a * 256 + x.toNat : Nat) : Int) := by
  have hx := x.toNat_lt
  have e : (a : Int) * 256 = ((a * 256 : Nat) : Int) := by omega
  rw [e, or_i64 _ _ (by omega) (by omega)]
  have h7 := Nat.shiftLeft_add_eq_or_of_lt (i := 8) (b := x.toNat) hx a
  rw [Nat.shiftLeft_eq] at h7
  rw [← h7]

/-- The number of the first bytes. -/
def fN (l : List UInt8) (k : Nat) : Nat := (l.take k).foldl (fun n c => n * 256 + c.toNat) 0
theorem fN_four (l : List UInt8) : fN l 4 = nB l := rfl
theorem fN_succ {l : List UInt8} {k : Nat} {x : UInt8} (h : l[k]? = some x) : fN l (k + 1) = fN l k * 256 + x.toNat := by
  obtain ⟨hkl, hge⟩ := List.getElem?_eq_some_iff.1 h
  unfold fN
  rw [List.take_succ_eq_append_getElem hkl, hge, List.foldl_append]
  rfl
theorem fN_lt (l : List UInt8) (k : Nat) : fN l k < 256 ^ k := by
  induction k with
  | zero => unfold fN; simp
  | succ k ih =>
    cases hx : l[k]? with
    | none =>
      have : fN l (k + 1) = fN l k := by
        unfold fN
        rw [List.take_of_length_le (by have := List.getElem?_eq_none_iff.1 hx; omega), List.take_of_length_le (by have := List.getElem?_eq_none_iff.1 hx; omega)]
      rw [this, Nat.pow_succ]
      omega
    | some x =>
      rw [fN_succ hx, Nat.pow_succ]
      have := x.toNat_lt
      omega

set_option maxRecDepth 100000 in
set_option maxHeartbeats 1000000 in
theorem number_any (A : Option Addr) (c : Nat) (l : List UInt8) (w : World) (hb : Bs w w.heap.size A l) (h4 : 4 ≤ l.length) (hlc : l.length ≤ c) :
    Calls Try.prog 36 #[.slice A l.length c] w fun e w' => e = .returned (.int .i64 (nB l)) ∧ w' = w := by
  obtain ⟨N, hN⟩ : ∃ N, l.length = N := ⟨_, rfl⟩
  obtain ⟨R, hR⟩ : ∃ R, nB l = R := ⟨_, rfl⟩
  have HN := Lib.hid hN
  have HB := Lib.hid hb
  have HR := Lib.hid hR
  rw [hN] at h4 hlc
  rw [hN, hR]
  have h4c : (4 : Int) ≤ (c : Int) := by omega
  clear hb hN hR
  go_enter Try.func36, Try.ntmps36
  go_wp2_with fail
  go_loopw [9, 3] (fun i v wr => ∃ k : Nat, k ≤ 4 ∧ i = .int .i64 k ∧ v = .int .i64 (fN l k : Nat) ∧ wr = w) (fun i _ _ => 4 - (intOf i).toNat)
  case atStart => exact ⟨0, Nat.zero_le _, rfl, rfl, rfl⟩
  case round =>
    obtain ⟨k, hk, rfl, rfl, rfl⟩ := hrel
    by_cases hlt : k < 4
    · obtain ⟨x, hx⟩ : ∃ x, l[k]? = some x := ⟨l[k]'(by rw [HN.out]; omega), List.getElem?_eq_getElem _⟩
      obtain ⟨g, off, rfl, hg, hc⟩ := HB.out.at_ hx
      have HST := Lib.hid (fN_succ hx)
      have hfl : fN l k < 16777216 := Nat.lt_of_lt_of_le (fN_lt l k) (show (256 : Nat) ^ k ≤ 256 ^ 3 from Nat.pow_le_pow_right (by decide) (by omega))
      obtain ⟨H, hH⟩ : ∃ H, fN l k = H := ⟨_, rfl⟩
      rw [hH] at hfl HST ⊢
      have hxl := x.toNat_lt
      have e0 : IntKind.i64.wrap (x.toNat : Int) = (x.toNat : Int) := IntWalk.i64_in _ (by omega)
      have e1 : IntKind.i64.wrap ((H : Int) * 256) = (H : Int) * 256 := IntWalk.i64_in _ (by omega)
      have e2 := or_byte H x hfl
      obtain ⟨Z, hZ⟩ : ∃ Z, H * 256 + x.toNat = Z := ⟨_, rfl⟩
      rw [hZ] at HST e2
      have hki : (k : Int) < 4 := by omega
      clear hx hZ hfl hxl hH
      go_wp2_with fail
      go_roundw
      case rel => exact ⟨k + 1, by omega, by go_num, by rw [HST.out], trivial⟩
      case measure => simp [intOf]; omega
    · have hkN : k = 4 := by omega
      have hfin : fN l k = R := by rw [hkN]; exact (fN_four l).trans HR.out
      have hki : ¬ (k : Int) < 4 := by omega
      rw [hfin]
      clear hfin hkN hlt hk
      go_wp2_with fail
      go_ret
      exact ⟨rfl, rfl⟩

end Go.Proofs.Ytkcmdibpndkfbaa
