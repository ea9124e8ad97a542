/-
  Index of a queue of bytes: the repository's and the reference's.
  Conditions: the queue is whole.
-/
import Derived.Test.YtljfblnpgeconaaRiG1
import Derived.Lib.BytesEntry
namespace Go.Proofs.Ytljfblnpgeconaa
open Go.RowKit

/-- The first place of a byte, or -1. -/
def IdxIs (b : List UInt8) (v : UInt8) (z : Int) : Prop :=
  (∃ k : Nat, z = k ∧ b[k]? = some v ∧ ∀ j, j < k → b[j]? ≠ some v) ∨ (z = -1 ∧ ∀ j : Nat, b[j]? ≠ some v)
theorem IdxIs.one {b : List UInt8} {v : UInt8} {z y : Int} (h : IdxIs b v z) (h' : IdxIs b v y) : z = y := by
  rcases h with ⟨k, rfl, hk, hlt⟩ | ⟨rfl, hn⟩
  · rcases h' with ⟨k', rfl, hk', hlt'⟩ | ⟨rfl, hn'⟩
    · rcases Nat.lt_trichotomy k k' with h | h | h
      · exact absurd hk (hlt' k h)
      · rw [h]
      · exact absurd hk' (hlt k' h)
    · exact absurd hk (hn' k)
  · rcases h' with ⟨k', rfl, hk', hlt'⟩ | ⟨rfl, hn'⟩
    · exact absurd hk' (hn k')
    · rfl

def IdxPost (b : List UInt8) (v : UInt8) (w : World) (e : Ending) (w' : World) : Prop := ∃ z, e = .returned (.int .i64 z) ∧ IdxIs b v z ∧ Only Nil w w'

theorem byte_ne {x v : UInt8} (h : x ≠ v) : ((x.toNat : Int) == (v.toNat : Int)) = false := by
  apply beq_false_of_ne
  intro e
  exact h (UInt8.toNat_inj.1 (by omega))

set_option maxRecDepth 100000 in
set_option maxHeartbeats 1000000 in
theorem Ref.bindex_any (n : Nat) (B : Option Addr) (cb : Nat) (b : List UInt8) (v : UInt8) (w : World) (h : Bs w w.heap.size B b) (hl : b.length ≤ 4096) :
    Calls Try.prog 37 #[.agg #[.int .i64 n, .slice B b.length cb], .int .u8 (v.toNat : Int)] w (IdxPost b v w) := by
  obtain ⟨N, hN⟩ : ∃ N, b.length = N := ⟨_, rfl⟩
  obtain ⟨W, hW⟩ : ∃ W, w.alloc (.cells #[.int .i64 n, .slice B N cb] 61) = W := ⟨_, rfl⟩
  have hO : Only Nil w W := by rw [← hW]; exact (Only.refl _ _).alloc _
  have hbx : Blk W w.heap.size 61 #[.int .i64 n, .slice B N cb] := by rw [← hW]; exact Blk.new _ _ _
  have kb : ∀ i, W.cell? ⟨w.heap.size, i, none⟩ = #[.int .i64 n, .slice B N cb][i]? := fun i => hbx.cell i
  have hB := h.onlyNil hO (Nat.le_refl _)
  rw [hN] at hl ⊢
  have HN := Lib.hid hN
  have HO := Lib.hid hO
  have HB := Lib.hid hB
  have HW := Lib.hid hW
  clear hN hO hB hbx h
  go_enter Try.func37, Try.ntmps37
  go_wp2_with fail
  clear hW
  go_loopw [5] (fun i wr => ∃ k : Nat, k ≤ N ∧ i = .int .i64 k ∧ (∀ j, j < k → b[j]? ≠ some v) ∧ wr = W) (fun i _ => N - (intOf i).toNat)
  case atStart => exact ⟨0, Nat.zero_le _, rfl, fun j hj => absurd hj (by omega), rfl⟩
  case round =>
    obtain ⟨k, hk, rfl, hall, rfl⟩ := hrel
    have HA := Lib.hid hall
    clear hall
    by_cases hlt : k < N
    · have hkb : k < b.length := by rw [HN.out]; exact hlt
      obtain ⟨g, off, rfl, hg, hc⟩ := HB.out.at_ (List.getElem?_eq_getElem hkb)
      have hget : b[k]? = some b[k] := List.getElem?_eq_getElem hkb
      obtain ⟨x, hx⟩ : ∃ x, b[k] = x := ⟨_, rfl⟩
      rw [hx] at hc hget
      have HG := Lib.hid hget
      clear hx hget
      have q0 : (0 : Int) ≤ (k : Int) := by omega
      have q1 : (k : Int) < (N : Int) := by omega
      by_cases hxv : x = v
      · subst hxv
        go_wp2_with fail
        go_ret
        exact ⟨k, rfl, .inl ⟨k, rfl, HG.out, HA.out⟩, HO.out⟩
      · have hne := byte_ne hxv
        go_wp2_with fail
        go_roundw
        case rel =>
          refine ⟨k + 1, by omega, by go_num, fun j hj => ?_, trivial⟩
          by_cases e : j = k
          · rw [e, HG.out]; intro e; injection e with e; exact hxv e
          · exact HA.out j (by omega)
        case measure => simp [intOf] <;> omega
    · obtain rfl : k = N := by omega
      go_wp2_with fail
      go_ret
      refine ⟨-1, rfl, .inr ⟨rfl, fun j => ?_⟩, HO.out⟩
      by_cases hj : j < k
      · exact HA.out j hj
      · rw [List.getElem?_eq_none (by rw [HN.out]; omega)]; intro e; cases e

end Go.Proofs.Ytljfblnpgeconaa
