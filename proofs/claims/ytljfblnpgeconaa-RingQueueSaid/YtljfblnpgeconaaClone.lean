/-
  slices.Clone of a slice of bytes: the same bytes in new memory.
  Conditions: at most 2 to the power 40 bytes.
-/
import Derived.Test.YtljfblnpgeconaaRows
import Derived.Test.YtljfblnpgeconaaByt
import Derived.Lib.Hide
import Derived.Deep.DeepMust
namespace Go.Proofs.Ytljfblnpgeconaa
open Go.RowKit

theorem byte_info : (Try.prog.info? 5).map (fun i => (i.zero, i.size, i.bytes)) = some (some (.int .u8 0), 1, 1) := by kernel_rfl

/-- A slice of the call's own with the bytes l is returned; no old memory but S has turned. -/
def BytesPost (S : Nat → Prop) (l : List UInt8) (w : World) (e : Ending) (w' : World) : Prop :=
  ∃ A c, e = .returned (.slice A l.length c) ∧ l.length ≤ c ∧ w'.ownsRow w.heap.size 5 1 (.slice A l.length c) l.length (bcells l) ∧ Only S w w'

set_option maxRecDepth 100000 in
set_option maxHeartbeats 400000 in
theorem clone_any (A : Option Addr) (c : Nat) (l : List UInt8) (w : World) (h : Bs w w.heap.size A l) (hl : l.length ≤ 1099511627776) :
    Calls Try.prog 67 #[.slice A l.length c] w (BytesPost Nil l w) := by
  obtain ⟨i0, hi0, hz0, hz1, hz2⟩ := info_parts byte_info
  have HL := Lib.hid hl
  clear hl
  rcases A with _ | a
  · have hnil : l = [] := by
      rcases l with _ | ⟨b, l⟩
      · rfl
      · obtain ⟨_, _, h1, _⟩ := h.2 (by simp)
        cases h1
    subst hnil
    clear h
    have hee : ∀ w : World, (binOp .eql 29 (.slice none 0 c) (.slice none 0 0)).run Try.prog w = .ok (.bool true) w := fun w => Lib.run_eql_slice_nil (P := Try.prog) w 29 5 none 0 c 0 0 Try.underlying29
    go_enter Try.func67, Try.ntmps67
    go_wp2_with fail
    go_ret
    exact ⟨none, 0, rfl, Nat.le_refl _, World.ownsRow_nil _ _ _ _, Only.refl _ _⟩
  · have hee : ∀ w : World, (binOp .eql 29 (.slice (some a) l.length c) (.slice none 0 0)).run Try.prog w = .ok (.bool false) w := fun w => Lib.run_eql_slice_nil (P := Try.prog) w 29 5 (some a) l.length c 0 0 Try.underlying29
    have H := Lib.hid h
    clear h
    go_enter Try.func67, Try.ntmps67
    go_wp2_with (at_builtin; go_must (refine wpList_append_rd _ rfl (.tmp 5) (.tmp 6) _ rfl w.heap.size 5 i0 (.int .u8 0) 1 1 Try.underlying29 hi0 hz0 hz1 hz2 rfl (by omega) (.slice (some ⟨w.heap.size, 0, none⟩) 0 0) 0 [] rfl ?qown w.heap.size (some a) l.length c (bcells l) rfl ?qrd (bcells_one l) l.length (by omega) _ rfl ?q63 ?qby ?qbase ?_))
    case qown => exact World.ownsRow_lit w #[] 0 (Nat.le_refl _) (by unfold maxLen; omega) rfl
    case qrd => exact Rd.onlyNil H.out ((Only.refl _ _).alloc _) (Nat.le_refl _)
    case q63 => have := HL.out; unfold maxLen; omega
    case qby => have := HL.out; omega
    case qbase => simp
    intro A4 c4 w4 hc4 hown4 hgr4 hat4
    go_wp2_with fail
    go_ret
    exact ⟨A4, c4, rfl, hc4, by simpa using hown4, ((Only.refl _ _).alloc _).grown hgr4 (fun q hq => .inr (Nat.le_of_eq (by simpa [Value.ownBlock] using hq)))⟩

end Go.Proofs.Ytljfblnpgeconaa
