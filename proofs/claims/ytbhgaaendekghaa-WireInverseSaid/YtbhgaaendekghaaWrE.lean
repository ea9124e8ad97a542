/-
  Walks of wire.Read and (*wire.Reader).End.
  Conditions: the reader stands within its bytes; they are at most 2 to the power 40.
-/
import Derived.Test.YtbhgaaendekghaaWrI
namespace Go.Proofs.Ytbhgaaendekghaa
open Go.RowKit

theorem cap_of_own {w : World} {base n c : Nat} {e : TypeId} {A : Option Addr} {xs : List Value} (h : w.ownsRow base e 1 (.slice A n c) n xs) : c ≤ maxLen := by
  rcases h.2 with ⟨hv, _⟩ | ⟨g, cap, cur, hv, _, _, _, hm, _⟩
  · injection hv with _ _ h3; subst h3; unfold maxLen; omega
  · injection hv with _ _ h3; subst h3; exact hm

theorem rread_any (A : Option Addr) (c : Nat) (l : List UInt8) (w : World) (h : Bs w w.heap.size A l) (hl : l.length ≤ 1099511627776) :
    Calls Try.prog 23 #[.slice A l.length c] w fun e w' => ∃ p A' c', e = .returned (.pointer (some ⟨p, 0, none⟩)) ∧ w.heap.size ≤ p ∧ RR w' p A' c' l 0 false ∧ c' ≤ maxLen ∧ Only Nil w w' := by
  obtain ⟨i0, hi0, hz0, hz1, hz2⟩ := info_parts byte_info
  have H := Lib.hid h
  have HL := Lib.hid hl
  clear h hl
  go_enter Try.func23, Try.ntmps23
  go_wp2_with (at_builtin; go_must (refine wpList_append_rd _ rfl (.tmp 3) (.tmp 4) _ rfl w.heap.size 5 i0 (.int .u8 0) 1 1 Try.underlying22 hi0 hz0 hz1 hz2 rfl (by omega) (.slice (some ⟨w.heap.size, 0, none⟩) 0 0) 0 [] rfl ?qown w.heap.size A l.length c (bcells l) rfl ?qrd (bcells_one l) l.length (by omega) _ rfl ?q63 ?qby ?qbase ?_))
  case qown => exact World.ownsRow_lit w #[] 0 (Nat.le_refl _) (by unfold maxLen; omega) rfl
  case qrd => exact Rd.onlyNil H.out ((Only.refl _ _).alloc _) (Nat.le_refl _)
  case q63 => have := HL.out; unfold maxLen; omega
  case qby => have := HL.out; omega
  case qbase => simp
  intro A4 c4 w4 hc4 hown4 hgr4 hat4
  have hO4 : Only Nil w w4 := ((Only.refl _ _).alloc _).grown hgr4 (fun q hq => .inr (Nat.le_of_eq (by simpa [Value.ownBlock] using hq)))
  have hb4 : Bs w4 w4.heap.size A4 l := (Bs.of_own (l := l) (by simpa using hown4)).1
  have HM4 := Lib.hid (cap_of_own hown4)
  have HO4 := Lib.hid hO4
  have HB4 := Lib.hid hb4
  have HC4 := Lib.hid hc4
  clear hO4 hb4 hown4 hgr4 hat4 hc4
  go_wp2_with fail
  go_ret
  exact ⟨w4.heap.size, A4, c4, rfl, HO4.out.size, ⟨Blk.new _ _ _, (HB4.out.onlyNil ((Only.refl _ _).alloc _) (Nat.le_refl _)).up ((Only.refl Nil _).alloc _).size, HC4.out⟩, HM4.out, HO4.out.alloc _⟩

set_option maxRecDepth 100000 in
theorem rEnd_any (p : Nat) (A : Option Addr) (c : Nat) (l : List UInt8) (pos : Nat) (f : Bool) (w : World) (h : RR w p A c l pos f) (hp : pos ≤ l.length) :
    Calls Try.prog 25 #[.pointer (some ⟨p, 0, none⟩)] w fun e w' => e = .returned (.int .i64 (if f = true ∨ pos ≠ l.length then 4 else 0)) ∧ Only Nil w w' := by
  have HB := Lib.hid h.box
  obtain ⟨N, hN⟩ : ∃ N, l.length = N := ⟨_, rfl⟩
  have hbx := h.box
  rw [hN] at hbx hp ⊢
  have kb : ∀ i, w.cell? ⟨p, i, none⟩ = #[Value.slice A N c, .int .i64 pos, .bool f][i]? := fun i => hbx.cell i
  have kd : ∀ i, w.drew.cell? ⟨p, i, none⟩ = #[Value.slice A N c, .int .i64 pos, .bool f][i]? := fun i => hbx.drew.cell i
  clear h hbx hN
  cases f
  · by_cases hpn : pos = N
    · subst hpn
      have hb1 : decide ((pos : Int) < (pos : Int)) = false := by simp
      rw [if_neg (by simp)]
      go_enter Try.func25, Try.ntmps25
      go_wp2_with fail
      go_quiet (fail)
      go_wp2_with fail
      go_ret
      exact ⟨rfl, by (repeat' (first | with_reducible exact Only.refl _ _ | with_reducible refine Only.setCell ?_ (Or.inl ?_) _ | with_reducible refine Only.drewN ?_ _ | with_reducible refine Only.drew ?_ | with_reducible refine Only.alloc ?_ _ | (fail)))⟩
    · have hb1 : (pos : Int) < (N : Int) := by omega
      have hb2 : decide ((pos : Int) < (N : Int)) = true := decide_eq_true hb1
      rw [if_pos (.inr hpn)]
      go_enter Try.func25, Try.ntmps25
      go_wp2_with fail
      go_quiet (fail)
      go_wp2_with fail
      go_ret
      exact ⟨rfl, by (repeat' (first | with_reducible exact Only.refl _ _ | with_reducible refine Only.setCell ?_ (Or.inl ?_) _ | with_reducible refine Only.drewN ?_ _ | with_reducible refine Only.drew ?_ | with_reducible refine Only.alloc ?_ _ | (fail)))⟩
  · rw [if_pos (.inl rfl)]
    go_enter Try.func25, Try.ntmps25
    go_wp2_with fail
    go_quiet (fail)
    go_wp2_with fail
    go_ret
    exact ⟨rfl, by (repeat' (first | with_reducible exact Only.refl _ _ | with_reducible refine Only.setCell ?_ (Or.inl ?_) _ | with_reducible refine Only.drewN ?_ _ | with_reducible refine Only.drew ?_ | with_reducible refine Only.alloc ?_ _ | (fail)))⟩

end Go.Proofs.Ytbhgaaendekghaa
