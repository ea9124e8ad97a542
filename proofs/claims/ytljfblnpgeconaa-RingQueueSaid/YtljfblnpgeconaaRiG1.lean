/-
  Walks of the reference's queue of bytes (ref06.Bytes): NewBytes, DecodeBytes, Peek, Index.
  Conditions: the slices can be read.
-/
import Derived.Test.YtljfblnpgeconaaRiF
import Derived.Test.YtljfblnpgeconaaRfM
import Derived.Lib.MinMax
namespace Go.Proofs.Ytljfblnpgeconaa
open Go.RowKit

namespace Ref
/-- The reference's queue as a value. -/
def qv (n : Nat) (A : Option Addr) (x : List UInt8) (c : Nat) : Value := .agg #[.int .i64 n, .slice A x.length c]

theorem newB_no (n : Int) (w : World) (h : n < 1 ∨ 4096 < n) :
    Calls Try.prog 31 #[.int .i64 n] w fun e w' => e = .returned (.tuple #[.agg #[.int .i64 0, .slice none 0 0], .int .i64 2]) ∧ Only Nil w w' := by
  rcases h with h | h
  · go_enter Try.func31, Try.ntmps31
    go_wp2_with fail
    refine bodyPost_ret (v := .tuple #[.agg #[.int .i64 0, .slice none 0 0], .int .i64 2]) (by simp [results, Try.results31, go_sem]) rfl ?_
    exact ⟨rfl, by (repeat' (first | with_reducible exact Only.refl _ _ | with_reducible refine Only.setCell ?_ (Or.inl ?_) _ | with_reducible refine Only.drewN ?_ _ | with_reducible refine Only.drew ?_ | with_reducible refine Only.alloc ?_ _ | (fail)))⟩
  · have h' : ¬ n < 1 := by omega
    go_enter Try.func31, Try.ntmps31
    go_wp2_with fail
    refine bodyPost_ret (v := .tuple #[.agg #[.int .i64 0, .slice none 0 0], .int .i64 2]) (by simp [results, Try.results31, go_sem]) rfl ?_
    exact ⟨rfl, by (repeat' (first | with_reducible exact Only.refl _ _ | with_reducible refine Only.setCell ?_ (Or.inl ?_) _ | with_reducible refine Only.drewN ?_ _ | with_reducible refine Only.drew ?_ | with_reducible refine Only.alloc ?_ _ | (fail)))⟩
theorem newB_any (n : Nat) (w : World) (h0 : 1 ≤ n) (h1 : n ≤ 4096) :
    Calls Try.prog 31 #[.int .i64 n] w fun e w' => e = .returned (.tuple #[.agg #[.int .i64 n, .slice none 0 0], .int .i64 0]) ∧ Only Nil w w' := by
  have g0 : ¬ (n : Int) < 1 := by omega
  have g1 : ¬ (4096 : Int) < n := by omega
  go_enter Try.func31, Try.ntmps31
  go_wp2_with fail
  refine bodyPost_ret (v := .tuple #[.agg #[.int .i64 n, .slice none 0 0], .int .i64 0]) (by simp [results, Try.results31, go_sem]) rfl ?_
  exact ⟨rfl, by (repeat' (first | with_reducible exact Only.refl _ _ | with_reducible refine Only.setCell ?_ (Or.inl ?_) _ | with_reducible refine Only.drewN ?_ _ | with_reducible refine Only.drew ?_ | with_reducible refine Only.alloc ?_ _ | (fail)))⟩

set_option maxRecDepth 100000 in
set_option maxHeartbeats 1000000 in
theorem bpeek_any (n : Nat) (B : Option Addr) (cb : Nat) (b : List UInt8) (k : Int) (w : World) (h : Bs w w.heap.size B b) (hc : b.length ≤ cb) (hl : b.length ≤ 4096) :
    Calls Try.prog 36 #[.agg #[.int .i64 n, .slice B b.length cb], .int .i64 k] w (BytesPost Nil (b.take k.toNat) w) := by
  obtain ⟨i0, hi0, hz0, hz1, hz2⟩ := info_parts byte_info
  obtain ⟨K, hK⟩ : ∃ K, min k.toNat b.length = K := ⟨_, rfl⟩
  have hKb : K ≤ b.length := by omega
  have hct : b.take k.toNat = b.take K := by
    rw [← hK]
    rcases Nat.le_total k.toNat b.length with h1 | h1
    · rw [Nat.min_eq_left h1]
    · rw [Nat.min_eq_right h1, List.take_of_length_le h1, List.take_length]
  have hmm : min (max k 0) (b.length : Int) = (K : Int) := by omega
  rw [hct]
  have hlt : (b.take K).length = K := by rw [List.length_take]; omega
  obtain ⟨x, hx⟩ : ∃ x, b.take K = x := ⟨_, rfl⟩
  have hR := h.take K hKb
  rw [hx] at hlt hR ⊢
  subst hlt
  obtain ⟨N, hN⟩ : ∃ N, b.length = N := ⟨_, rfl⟩
  rw [hN] at hmm hKb hc hl ⊢
  have HR := Lib.hid hR
  have HX := Lib.hid (show x.length ≤ 4096 by omega)
  have s0 : (0 : Int) ≤ (x.length : Int) := by omega
  have s1 : (x.length : Int) ≤ (cb : Int) := by omega
  have s2 : (x.length : Int) ≤ (N : Int) := by omega
  clear h hct hx hR hN hK hKb
  go_enter Try.func36, Try.ntmps36
  go_wp2_with (at_builtin; go_must (refine wpList_append_rd _ rfl (.tmp 5) (.tmp 14) _ rfl w.heap.size 5 i0 (.int .u8 0) 1 1 Try.underlying29 hi0 hz0 hz1 hz2 rfl (by omega) (.slice (some ⟨w.heap.size + 1, 0, none⟩) 0 0) 0 [] rfl ?qown w.heap.size B x.length cb (bcells x) rfl ?qrd (bcells_one x) x.length (by omega) _ rfl ?q63 ?qby ?qbase ?_))
  case qown =>
    have hq := World.ownsRow_lit (base := w.heap.size) (e := 5) (size := 1) (w.alloc (.cells #[.int .i64 n, .slice B N cb] 61)) #[] 0 (by rw [World.size_alloc]; omega) (by unfold maxLen; omega) rfl
    rw [World.size_alloc] at hq
    exact hq
  case qrd => exact Rd.onlyNil HR.out (((Only.refl _ _).alloc _).alloc _) (Nat.le_refl _)
  case q63 => have := HX.out; unfold maxLen; omega
  case qby => have := HX.out; omega
  case qbase => simp <;> omega
  intro A4 c4 w4 hc4 hown4 hgr4 hat4
  have hO4 : Only Nil w w4 := (((Only.refl _ _).alloc _).alloc _).grown hgr4 (fun q hq => .inr (by simp [Value.ownBlock] at hq; omega))
  have HO4 := Lib.hid hO4
  have HC4 := Lib.hid hc4
  have HW4 := Lib.hid hown4
  clear hO4 hown4 hgr4 hat4 hc4
  go_wp2_with fail
  go_ret
  exact ⟨A4, c4, rfl, HC4.out, by simpa using HW4.out, HO4.out⟩

end Ref
end Go.Proofs.Ytljfblnpgeconaa
