/-
  Walks of sum.eight, sum.Of.
  Conditions: the bytes can be read.
-/
import Derived.Test.YtkcmdibpndkfbaaRcW1
namespace Go.Proofs.Ytkcmdibpndkfbaa
open Go.RowKit

theorem byte_at (n k : Nat) : (n : Int) / 2 ^ (8 * k) % 256 = ((UInt8.ofNat (n / 256 ^ k % 256)).toNat : Int) := by
  rw [byte_nat _ (Nat.mod_lt _ (by decide))]
  have h2 : (2 : Int) ^ (8 * k) = ((256 ^ k : Nat) : Int) := by
    rw [Int.pow_mul]
    norm_cast
  rw [h2]
  generalize 256 ^ k = m
  omega

set_option maxRecDepth 100000 in
set_option maxHeartbeats 1000000 in
theorem eight_any (n : Nat) (w : World) (hn : n < 9223372036854775808) :
    Calls Try.prog 35 #[.slice none 0 0, .int .i64 n] w (BytesPost Nil (le8 n) w) := by
  obtain ⟨i0, hi0, hz0, hz1, hz2⟩ := info_parts byte_info
  have e0 : IntKind.u64.wrap (n : Int) = (n : Int) := IntWalk.u64_in _ (by omega)
  have HNL := Lib.hid hn
  clear hn
  go_enter Try.func35, Try.ntmps35
  go_wp2_with fail
  go_loopw [6, 0] (fun i v wr => ∃ (k : Nat) (A1 : Option Addr) (c1 : Nat), k ≤ 8 ∧ i = .int .i64 k ∧ v = .slice A1 k c1 ∧ k ≤ c1 ∧ wr.ownsRow w.heap.size 5 1 (.slice A1 k c1) k (bcells (le8to n k)) ∧ Only Nil w wr) (fun i _ _ => 8 - (intOf i).toNat)
  case atStart => exact ⟨0, none, 0, Nat.zero_le _, rfl, rfl, Nat.le_refl _, World.ownsRow_nil _ _ _ _, Only.refl _ _⟩
  case round =>
    obtain ⟨k, A1, c1, hk, rfl, rfl, hc1, hown, hO⟩ := hrel
    have HC := Lib.hid hc1
    have HW := Lib.hid hown
    have HO := Lib.hid hO
    clear hc1 hown hO
    by_cases hlt : k < 8
    · have hki : (k : Int) < 8 := by omega
      have hy0 : (0 : Int) ≤ 8 * (k : Int) := by omega
      have hy1 : 8 * (k : Int) ≤ 64 := by omega
      have hb := byte_at n k
      have HS := Lib.hid (le8to_succ n k)
      obtain ⟨x, hx⟩ : ∃ x, UInt8.ofNat (n / 256 ^ k % 256) = x := ⟨_, rfl⟩
      rw [hx] at hb HS
      have hyc : bcells (le8to n k) ++ [Value.int .u8 (x.toNat : Int)] = bcells (le8to n (k + 1)) := by rw [HS.out, bcells_append]; rfl
      have HYC := Lib.hid hyc
      clear hyc hx
      have hln : (le8to n (k + 1)).length = k + 1 := le8to_len n (k + 1)
      have HLN := Lib.hid hln
      clear hln
      go_wp2_with (at_builtin; go_must (refine wpList_append_rd _ rfl (.tmp 9) (.tmp 16) _ rfl w.heap.size 5 i0 (.int .u8 0) 1 1 Try.underlying26 hi0 hz0 hz1 hz2 rfl (by omega) (.slice A1 k c1) k (bcells (le8to n k)) rfl (own_onlyNil HW.out ((Only.refl _ _).alloc _)) (wr.heap.size + 1) (some ⟨wr.heap.size, 0, none⟩) 1 1 [Value.int .u8 (x.toNat : Int)] rfl (Rd.newBlock wr #[Value.int .u8 (x.toNat : Int)] _ 1 1 rfl rfl) (one_cell1 rfl) (k + 1) rfl (bcells (le8to n (k + 1))) HYC.out (by unfold maxLen; omega) (by omega) (HO.out.alloc _).size ?_))
      intro A4 c4 w4 hc4 hown4 hgr4 hat4
      have HO4 := Lib.hid ((HO.out.alloc _).grown hgr4 (fun q hq => .inr (ownBlock_ge HW.out hq)))
      have HC4 := Lib.hid hc4
      have HW4 := Lib.hid hown4
      clear hc4 hown4 hgr4 hat4 hb
      go_wp2_with fail
      go_roundw
      case rel => exact ⟨k + 1, A4, c4, by omega, by go_num, rfl, HC4.out, HW4.out, HO4.out⟩
      case measure => simp [intOf]; omega
    · have hkN : k = 8 := by omega
      subst hkN
      go_wp2_with fail
      go_ret
      exact ⟨A1, c1, by rw [le8_len]; rfl, by rw [le8_len]; exact HC.out, by rw [le8_len]; exact HW.out, HO.out⟩

end Go.Proofs.Ytkcmdibpndkfbaa
