/-
  Encode of the reference's queue of bytes.
  Conditions: the queue's bytes can be read.
-/
import Derived.Test.YtljfblnpgeconaaRiG1
import Derived.Deep.RegionHeld3
namespace Go.Proofs.Ytljfblnpgeconaa
open Go.RowKit

set_option maxRecDepth 100000 in
set_option maxHeartbeats 2000000 in
theorem Ref.bencode_any (n : Nat) (B : Option Addr) (cb : Nat) (b : List UInt8) (w : World) (h : Bs w w.heap.size B b) (hl : b.length ≤ 4096) (hn : n ≤ 4096) :
    Calls Try.prog 38 #[.agg #[.int .i64 n, .slice B b.length cb]] w (BytesPost Nil (encI n ++ (encI b.length ++ b)) w) := by
  obtain ⟨i0, hi0, hz0, hz1, hz2⟩ := info_parts byte_info
  obtain ⟨W, hW⟩ : ∃ W, w.alloc (.cells #[.int .i64 n, .slice B b.length cb] 61) = W := ⟨_, rfl⟩
  have hO : Only Nil w W := by rw [← hW]; exact (Only.refl _ _).alloc _
  have hbx : Blk W w.heap.size 61 #[.int .i64 n, .slice B b.length cb] := by rw [← hW]; exact Blk.new _ _ _
  have hB := (h.onlyNil hO (Nat.le_refl _)).up hO.size
  have hsz := hO.size
  have hel := encI_len (n : Int) (zig_lt (by omega))
  have hel2 := encI_len (b.length : Int) (zig_lt (by omega))
  obtain ⟨r, hr⟩ : ∃ r, encI n ++ (encI b.length ++ b) = r := ⟨_, rfl⟩
  have hrl : r.length = (encI n).length + (encI b.length ++ b).length := by rw [← hr, List.length_append]
  have hrc : bcells (encI n) ++ bcells (encI b.length ++ b) = bcells r := by rw [← hr, bcells_append (encI n)]
  have hi : ∀ w', Only Nil W w' → Calls Try.prog 62 #[.int .i64 n] w' fun x w'' => ∃ A c, x = .returned (.slice A (encI n).length c) ∧ w''.ownsRow W.heap.size 5 1 (.slice A (encI n).length c) (encI n).length (bcells (encI n)) ∧ Only Nil W w'' := fun w' hO => by
    refine (Ref.int_any n w' (by omega)).mono ?_
    rintro x w'' ⟨A, c, rfl, _, hown, hO2⟩
    exact ⟨A, c, rfl, own_base hown hO.size, hO.thenNil hO2⟩
  obtain ⟨y, hy⟩ : ∃ y, encI b.length ++ b = y := ⟨_, rfl⟩
  have hyl : y.length ≤ 4096 + 10 := by rw [← hy, List.length_append]; omega
  have hb : ∀ w', Only Nil W w' → Calls Try.prog 63 #[.slice B b.length cb] w' fun x w'' => ∃ A c, x = .returned (.slice A y.length c) ∧ w''.ownsRow w'.heap.size 5 1 (.slice A y.length c) y.length (bcells y) ∧ Only Nil w' w'' := fun w' hO => by
    refine (Ref.bytes_any B cb b w' ((hB.onlyNil hO (Nat.le_refl _)).up hO.size) (by omega)).mono ?_
    rw [hy]
    rintro x w'' ⟨A, c, rfl, _, hown, hO2⟩
    exact ⟨A, c, rfl, hown, hO2⟩
  rw [hy] at hrl hrc
  rw [hr]
  obtain ⟨X, hX⟩ : ∃ X, (encI n).length = X := ⟨_, rfl⟩
  obtain ⟨Y, hY⟩ : ∃ Y, y.length = Y := ⟨_, rfl⟩
  obtain ⟨N, hN⟩ : ∃ N, b.length = N := ⟨_, rfl⟩
  have hks : ∀ w', Only Nil W w' → w'.cell? ⟨w.heap.size, 0, none⟩ = some (.int .i64 n) ∧ w'.cell? ⟨w.heap.size, 1, none⟩ = some (.slice B N cb) := fun w' hO => by
    have := hbx.onlyNil hO
    rw [this.cell, this.cell, ← hN]
    exact ⟨rfl, rfl⟩
  rw [hX] at hi hel hrl
  rw [hY] at hb hrl hyl
  rw [hN] at hb hl hel2 hW hbx ⊢
  have HI := Lib.hid hi
  have HB := Lib.hid hb
  have HKS := Lib.hid hks
  have HR := Lib.hid hrc
  have HRL := Lib.hid hrl
  have HW := Lib.hid hW
  have HO := Lib.hid hO
  have HM := Lib.hid (And.intro hel hyl)
  have k0 := hks W (Only.refl _ _)
  have k1 := hks W.drew (Only.refl _ _).drew
  have HX := Lib.hid hX
  have HY := Lib.hid hY
  clear hi hb hks hrc hrl hO hbx hB hel hel2 hyl h hsz hr hy hX hY hN hW
  go_enter Try.func38, Try.ntmps38
  go_wp2_with fail
  rw [HW.out]
  go_region_held3 (fun w' => w'.cell? ⟨w.heap.size, 0, none⟩ = some (.int .i64 n) ∧ w'.cell? ⟨w.heap.size, 1, none⟩ = some (.slice B N cb)) (first | with_reducible assumption | go_keep)
    (first
      | (go_simp; go_at_call 62; refine (HI.out _ ((Only.refl _ _).drew)).mono ?_; rintro x w1 ⟨A1, c1, rfl, hown1, hO1⟩; have hs1 := HKS.out _ hO1)
      | (go_simp; go_at_call 63; refine (HB.out _ hO1).mono ?_; rintro x w2 ⟨A2, c2, rfl, hown2, hO2⟩; have hs2 := HKS.out _ (hO1.thenNil hO2))
      | (refine step_append_rd _ (by rfl) (.tmp 5) (.tmp 8) _ (by rfl) W.heap.size 5 i0 (.int .u8 0) 1 1 Try.underlying29 hi0 hz0 hz1 hz2 rfl Nat.zero_lt_one (.slice A1 X c1) X (bcells (encI n)) (by simp [Act.eval]) (own_onlyNil hown1 hO2) w2.heap.size A2 Y c2 (bcells y) (by simp [Act.eval]) (Rd.of_own hown2) (bcells_one y) r.length HRL.out.symm _ HR.out (by have := HRL.out; have := HM.out; unfold maxLen; omega) (by have := HRL.out; have := HM.out; omega) (Nat.le_trans hO1.size hO2.size) ?_; intro A4 c4 w4 hc4 hown4 hgr4 hat4; have hO4 := (hO1.thenNil hO2).grown hgr4 (fun q hq => .inr (ownBlock_ge (own_onlyNil hown1 hO2) hq)); have hs4 := HKS.out _ hO4))
  all_goals
    go_wp2_with fail
    go_ret
    exact ⟨A4, c4, rfl, hc4, own_base hown4 HO.out.size, HO.out.thenNil hO4⟩

end Go.Proofs.Ytljfblnpgeconaa
