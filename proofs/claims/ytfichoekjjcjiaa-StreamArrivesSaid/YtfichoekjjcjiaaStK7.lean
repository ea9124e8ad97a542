/-
  link.agree.
  Conditions: the link lies in memory as 'LK' says; what was read is a beginning of what was written.
-/
import Derived.Test.YtfichoekjjcjiaaStK1
import Derived.BigRegion
import Derived.BigQuiet
import Derived.Deep.LoopGhost
namespace Go.Proofs.Ytfichoekjjcjiaa
open Go.RowKit

theorem str_prefix {a b : List UInt8} (h : a <+: b) : (⟨b.toArray⟩ : ByteArray).extract 0 a.length = ⟨a.toArray⟩ := by
  obtain ⟨c, rfl⟩ := h
  apply ByteArray.ext
  simp [ByteArray.data_extract]

set_option maxRecDepth 100000 in
set_option maxHeartbeats 4000000 in
theorem agree_any (B0 g : Nat) (x y : Sd) (sx sy : SC) (w : World) (h : LK w B0 g 0 x sx y sy false) (hx : y.rd <+: x.wr ∧ (y.over = true → y.rd = x.wr)) (hy : x.rd <+: y.wr ∧ (x.over = true → x.rd = y.wr)) :
    Calls Try.prog 31 #[.pointer (some ⟨g, 0, none⟩)] w (LawPost w) := by
  have hbx := h.box
  unfold larr at hbx
  rw [if_pos rfl] at hbx
  have HBX := Lib.hid hbx
  have HX := Lib.hid hx
  have HY := Lib.hid hy
  clear h hbx hx hy
  go_enter Try.func31, Try.ntmps31
  go_wp2_with fail
  go_loopw [3] (fun i wr => ∃ k : Nat, k ≤ 2 ∧ i = .int .i64 k ∧ Only Nil w wr) (fun i _ => 2 - (intOf i).toNat)
  case atStart => exact ⟨0, Nat.zero_le _, rfl, (Only.refl _ _)⟩
  case round =>
    obtain ⟨k, hk, rfl, hO⟩ := hrel
    obtain ⟨w1, rfl⟩ : ∃ w1, w1 = wr := ⟨_, rfl⟩
    have HO := Lib.hid hO
    have kb : ∀ i, w1.cell? ⟨g, i, none⟩ = #[Value.slice sx.l.Ao x.e.out.length sx.l.co, .int .i64 x.e.base, .bool x.e.closed, .bool x.e.done, .slice sx.l.Ai x.e.inn.length sx.l.ci, .int .i64 x.e.next, .bool x.e.ended, .bool x.e.due,
      .slice sy.l.Ao y.e.out.length sy.l.co, .int .i64 y.e.base, .bool y.e.closed, .bool y.e.done, .slice sy.l.Ai y.e.inn.length sy.l.ci, .int .i64 y.e.next, .bool y.e.ended, .bool y.e.due,
      .slice sx.P x.sent.length sx.c, .slice sy.P y.sent.length sy.c, .string ⟨x.wr.toArray⟩, .string ⟨y.wr.toArray⟩, .string ⟨x.rd.toArray⟩, .string ⟨y.rd.toArray⟩, .bool x.over, .bool y.over, .bool false][i]? := fun i => (HBX.out.onlyNil hO).cell i
    clear hO
    rcases Nat.lt_or_ge k 2 with hlt | hge
    · rcases Nat.lt_or_ge k 1 with hk1 | hk1
      · have hk0 : k = 0 := by omega
        subst hk0
        clear hk hlt hk1
        have hp := HY.out.1
        have hov := HY.out.2
        obtain ⟨W, hW⟩ : ∃ W, y.wr = W := ⟨_, rfl⟩
        obtain ⟨R, hR⟩ : ∃ R, x.rd = R := ⟨_, rfl⟩
        obtain ⟨O, hO⟩ : ∃ O, x.over = O := ⟨_, rfl⟩
        rw [hW, hR] at hp
        rw [hW, hR, hO] at hov
        rw [hW, hR, hO] at kb
        have hle := hp.length_le
        have hstr := str_prefix hp
        have hn1 : ¬ (W.length : Int) < R.length := by omega
        have hn2 : ¬ W.length < R.length := by omega
        clear hW hR hO hp
        cases O
        · go_wp2_with fail
          go_big_quiet (fail)
          go_wp2_with fail
          go_round
          case rel => exact ⟨1, by omega, rfl, HO.out.drewN _⟩
          case measure => simp [intOf] <;> omega
        · have he := hov rfl
          subst he
          go_wp2_with fail
          go_big_quiet (fail)
          go_wp2_with fail
          go_round
          case rel => exact ⟨1, by omega, rfl, HO.out.drewN _⟩
          case measure => simp [intOf] <;> omega
      · have hk0 : k = 1 := by omega
        subst hk0
        clear hk hlt hk1
        have hp := HX.out.1
        have hov := HX.out.2
        obtain ⟨W, hW⟩ : ∃ W, x.wr = W := ⟨_, rfl⟩
        obtain ⟨R, hR⟩ : ∃ R, y.rd = R := ⟨_, rfl⟩
        obtain ⟨O, hO⟩ : ∃ O, y.over = O := ⟨_, rfl⟩
        rw [hW, hR] at hp
        rw [hW, hR, hO] at hov
        rw [hW, hR, hO] at kb
        have hle := hp.length_le
        have hstr := str_prefix hp
        have hn1 : ¬ (W.length : Int) < R.length := by omega
        have hn2 : ¬ W.length < R.length := by omega
        clear hW hR hO hp
        cases O
        · go_wp2_with fail
          go_big_quiet (fail)
          go_wp2_with fail
          go_round
          case rel => exact ⟨2, by omega, rfl, HO.out.drewN _⟩
          case measure => simp [intOf] <;> omega
        · have he := hov rfl
          subst he
          go_wp2_with fail
          go_big_quiet (fail)
          go_wp2_with fail
          go_round
          case rel => exact ⟨2, by omega, rfl, HO.out.drewN _⟩
          case measure => simp [intOf] <;> omega
    · have hk2 : k = 2 := by omega
      subst hk2
      clear hk hge
      go_wp2_with fail
      go_ret
      exact ⟨rfl, HO.out⟩

end Go.Proofs.Ytfichoekjjcjiaa
