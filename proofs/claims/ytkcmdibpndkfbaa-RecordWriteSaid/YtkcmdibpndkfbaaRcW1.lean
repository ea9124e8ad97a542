/-
  Walks of sum.From, sum.eight, sum.Of.
  Conditions: the bytes can be read.
-/
import Derived.Test.YtkcmdibpndkfbaaRcP
import Derived.Test.YtkcmdibpndkfbaaWrI
import Derived.Laws.Bits64
namespace Go.Proofs.Ytkcmdibpndkfbaa
open Go.RowKit

set_option maxRecDepth 100000 in
set_option maxHeartbeats 1000000 in
theorem from_any (h : Nat) (A : Option Addr) (c : Nat) (l : List UInt8) (w : World) (hb : Bs w w.heap.size A l) (hh : h < 18446744073709551616) (hl : l.length ≤ 1099511627776) :
    Calls Try.prog 33 #[.int .u64 h, .slice A l.length c] w fun e w' => e = .returned (.int .u64 (fromS h l)) ∧ w' = w := by
  obtain ⟨N, hN⟩ : ∃ N, l.length = N := ⟨_, rfl⟩
  obtain ⟨R, hR⟩ : ∃ R, fromS h l = R := ⟨_, rfl⟩
  have HN := Lib.hid hN
  have HB := Lib.hid hb
  have HR := Lib.hid hR
  have HH := Lib.hid hh
  rw [hN] at hl
  rw [hN, hR]
  clear hb hN hR hh
  go_enter Try.func33, Try.ntmps33
  go_wp2_with fail
  go_loopw [10, 0] (fun i v wr => ∃ k : Nat, k ≤ N ∧ i = .int .i64 k ∧ v = .int .u64 (fromS h (l.take k) : Nat) ∧ wr = w) (fun i _ _ => N - (intOf i).toNat)
  case atStart => exact ⟨0, Nat.zero_le _, rfl, rfl, rfl⟩
  case round =>
    obtain ⟨k, hk, rfl, rfl, rfl⟩ := hrel
    have hHlt := fromS_lt HH.out (l.take k)
    obtain ⟨H, hH⟩ : ∃ H, fromS h (l.take k) = H := ⟨_, rfl⟩
    rw [hH] at hHlt ⊢
    have HHH := Lib.hid hH
    clear hH
    by_cases hlt : k < N
    · obtain ⟨x, hx⟩ : ∃ x, l[k]? = some x := ⟨l[k]'(by rw [HN.out]; exact hlt), List.getElem?_eq_getElem _⟩
      obtain ⟨g, off, rfl, hg, hc⟩ := HB.out.at_ hx
      have hst : fromS h (l.take (k + 1)) = stepS H x := by
        obtain ⟨hkl, hge⟩ := List.getElem?_eq_some_iff.1 hx
        rw [List.take_succ_eq_append_getElem hkl, hge, fromS_snoc, HHH.out]
      have HST := Lib.hid hst
      have hxl := x.toNat_lt
      obtain ⟨X, hX⟩ : ∃ X, H ^^^ x.toNat = X := ⟨_, rfl⟩
      have hXlt : X < 18446744073709551616 := by rw [← hX]; exact Nat.xor_lt_two_pow (n := 64) hHlt (Nat.lt_of_lt_of_le hxl (by decide))
      obtain ⟨K, hK⟩ : ∃ K, X * sF % 18446744073709551616 = K := ⟨_, rfl⟩
      have hKlt : K < 18446744073709551616 := by rw [← hK]; exact Nat.mod_lt _ (by decide)
      have e0 : IntKind.u64.wrap (x.toNat : Int) = (x.toNat : Int) := IntWalk.u64_in _ (by omega)
      have e1 : bits .xor .u64 (H : Int) (x.toNat : Int) = (X : Int) := by rw [← hX]; exact bits_xor_u64_nat _ _ hHlt (by omega)
      have e2 : IntKind.u64.wrap ((X : Int) * 15111065706836454659) = (K : Int) := by
        rw [IntKind.wrap_u64, ← hK]
        unfold sF
        omega
      have e3 : bits .xor .u64 (K : Int) ((K : Int) / 536870912) = ((K ^^^ K / 536870912 : Nat) : Int) := xorShift_u64 K 536870912 hKlt
      have e4 : stepS H x = K ^^^ K / 536870912 := by unfold stepS; rw [hX, hK]
      rw [e4] at HST
      obtain ⟨Z, hZ⟩ : ∃ Z, K ^^^ K / 536870912 = Z := ⟨_, rfl⟩
      rw [hZ] at HST e3
      have hki : (k : Int) < N := by omega
      clear hx hst hX hK hZ e4 hxl hXlt hKlt hHlt
      go_wp2_with fail
      go_roundw
      case rel => exact ⟨k + 1, by omega, by go_num, by rw [HST.out], trivial⟩
      case measure => simp [intOf]; omega
    · have hkN : k = N := by omega
      subst hkN
      have hfin : H = R := by rw [← HHH.out, ← HR.out, List.take_of_length_le (by rw [HN.out]; exact Nat.le_refl _)]
      have HFF := Lib.hid hfin
      clear hfin
      go_wp2_with fail
      go_ret
      exact ⟨by rw [← HFF.out]; rfl, rfl⟩

end Go.Proofs.Ytkcmdibpndkfbaa
