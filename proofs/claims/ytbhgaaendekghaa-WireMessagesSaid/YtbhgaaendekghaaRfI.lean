/-
  Walks of ratoonref01: groups (by induction), Int, Bytes.
  Conditions: the integer is of type int; the bytes can be read.
-/
import Derived.Test.YtbhgaaendekghaaWrP
import Derived.Test.YtbhgaaendekghaaInv
namespace Go.Proofs.Ytbhgaaendekghaa
open Go.RowKit

set_option maxRecDepth 100000 in
set_option maxHeartbeats 1000000 in
theorem groups_any : ∀ (k u : Nat) (w : World), k ≤ 10 → u < 128 ^ (k + 1) → u < 18446744073709551616 → Calls Try.prog 81 #[.int .u64 u] w (BytesPost Nil (encU u) w) := by
  intro k
  induction k with
  | zero =>
    intro u w _ hu _
    have hu : u < 128 := by simpa using hu
    have hui : (u : Int) < 128 := by omega
    have hu8 : IntKind.u8.wrap (u : Int) = u := IntWalk.u8_in _ (by omega)
    obtain ⟨y, hy⟩ : ∃ y, y = UInt8.ofNat u := ⟨_, rfl⟩
    have hyc : (u : Int) = (y.toNat : Int) := by rw [hy, byte_cell u (by omega)]
    rw [encU_small hu, ← hy]
    have HYC := Lib.hid hyc
    clear hu hy hyc
    go_enter Try.func81, Try.ntmps81
    go_wp2_with fail
    go_ret
    refine ⟨some ⟨w.heap.size, 0, none⟩, 1, rfl, Nat.le_refl _, ?_, by (repeat' (first | with_reducible exact Only.refl _ _ | with_reducible refine Only.setCell ?_ (Or.inl ?_) _ | with_reducible refine Only.drewN ?_ _ | with_reducible refine Only.drew ?_ | with_reducible refine Only.alloc ?_ _ | (fail)))⟩
    have := World.ownsRow_lit (base := w.heap.size) (e := 5) (size := 1) w #[.int .u8 (u : Int)] 1 (Nat.le_refl _) (by unfold maxLen; omega) rfl
    rw [HYC.out] at this ⊢
    exact this
  | succ k ih =>
    intro u w hk hu h64
    by_cases hlt : u < 128
    · have hui : (u : Int) < 128 := by omega
      have hu8 : IntKind.u8.wrap (u : Int) = u := IntWalk.u8_in _ (by omega)
      obtain ⟨y, hy⟩ : ∃ y, y = UInt8.ofNat u := ⟨_, rfl⟩
      have hyc : (u : Int) = (y.toNat : Int) := by rw [hy, byte_cell u (by omega)]
      rw [encU_small hlt, ← hy]
      have HYC := Lib.hid hyc
      clear hlt hy hyc hu h64 ih
      go_enter Try.func81, Try.ntmps81
      go_wp2_with fail
      go_ret
      refine ⟨some ⟨w.heap.size, 0, none⟩, 1, rfl, Nat.le_refl _, ?_, by (repeat' (first | with_reducible exact Only.refl _ _ | with_reducible refine Only.setCell ?_ (Or.inl ?_) _ | with_reducible refine Only.drewN ?_ _ | with_reducible refine Only.drew ?_ | with_reducible refine Only.alloc ?_ _ | (fail)))⟩
      have := World.ownsRow_lit (base := w.heap.size) (e := 5) (size := 1) w #[.int .u8 (u : Int)] 1 (Nat.le_refl _) (by unfold maxLen; omega) rfl
      rw [HYC.out] at this ⊢
      exact this
    · obtain ⟨i0, hi0, hz0, hz1, hz2⟩ := info_parts byte_info
      have hge : (128 : Int) ≤ u := by omega
      have hnl : ¬ (u : Int) < 128 := by omega
      have hrm : Int.tmod (u : Int) 128 = ((u % 128 : Nat) : Int) := by rw [Int.tmod_eq_emod_of_nonneg (by omega)]; omega
      have hqo : Int.tdiv (u : Int) 128 = ((u / 128 : Nat) : Int) := by rw [Int.tdiv_eq_ediv_of_nonneg (by omega)]; omega
      have hd1 : u / 128 < 128 ^ (k + 1) := by rw [Nat.div_lt_iff_lt_mul (by omega)]; rw [Nat.pow_succ] at hu; exact hu
      obtain ⟨m, hm⟩ : ∃ m, u % 128 = m := ⟨_, rfl⟩
      obtain ⟨d, hd⟩ : ∃ d, u / 128 = d := ⟨_, rfl⟩
      have hlen : (encU d).length ≤ 10 := encU_len 10 _ (by omega)
      rw [hm] at hrm
      rw [hd] at hqo hd1
      have hwa : IntKind.u64.wrap (128 + (m : Int)) = 128 + m := IntWalk.u64_in _ (by omega)
      have hw8 : IntKind.u8.wrap (128 + (m : Int)) = 128 + m := IntWalk.u8_in _ (by omega)
      have hwm : IntKind.u64.wrap (m : Int) = m := IntWalk.u64_in _ (by omega)
      have hwd : IntKind.u64.wrap (d : Int) = d := IntWalk.u64_in _ (by omega)
      obtain ⟨y, hy⟩ : ∃ y, y = UInt8.ofNat (128 + m) := ⟨_, rfl⟩
      have hyc : (128 : Int) + m = (y.toNat : Int) := by rw [hy, byte_cell (128 + m) (by omega)]; omega
      rw [encU_big hlt, hm, hd, ← hy]
      rw [hyc] at hwa hw8
      have HIH := Lib.hid (fun (v : World) => ih d v (by omega) hd1 (by omega))
      unfold BytesPost at HIH
      obtain ⟨E, hE⟩ : ∃ E, encU d = E := ⟨_, rfl⟩
      rw [hE] at HIH hlen ⊢
      obtain ⟨L, hL⟩ : ∃ L, E.length = L := ⟨_, rfl⟩
      rw [hL] at HIH hlen
      have HL := Lib.hid hL
      have HLEN := Lib.hid hlen
      clear ih hu hlt hy hm hd hd1 hE hL hlen h64
      go_enter Try.func81, Try.ntmps81
      go_wp2_with fail
      refine (HIH.out _).mono ?_
      rintro e w2 ⟨A2, c2, rfl, hc2, hown2, hO2⟩
      have HW2 := Lib.hid hown2
      have HO2 := Lib.hid hO2
      clear hown2 hO2 hc2
      go_wp2_with (at_builtin; go_must (refine wpList_append_rd _ rfl (.tmp 12) (.tmp 15) _ rfl w.heap.size 5 i0 (.int .u8 0) 1 1 Try.underlying22 hi0 hz0 hz1 hz2 rfl (by omega) (.slice (some ⟨w.heap.size, 0, none⟩) 1 1) 1 [.int .u8 (y.toNat : Int)] rfl ?qown w2.heap.size A2 L c2 (bcells E) rfl ?qrd (bcells_one E) (1 + L) rfl _ rfl ?q63 ?qby ?qbase ?_))
      case qown => exact own_onlyNil (World.ownsRow_lit w #[.int .u8 (y.toNat : Int)] 1 (Nat.le_refl _) (by unfold maxLen; omega) rfl) HO2.out
      case qrd => exact Rd.of_own HW2.out
      case q63 => have := HLEN.out; unfold maxLen; omega
      case qby => have := HLEN.out; omega
      case qbase => have := HO2.out.size; simp at this; omega
      intro A4 c4 w4 hc4 hown4 hgr4 hat4
      have hO4 : Only Nil w w4 := (((Only.refl Nil w).alloc _).thenNil HO2.out).grown hgr4 (fun q hq => .inr (Nat.le_of_eq (by simpa [Value.ownBlock] using hq)))
      have HO4 := Lib.hid hO4
      have HC4 := Lib.hid hc4
      have HW4 := Lib.hid hown4
      clear hO4 hgr4 hat4 hown4 hc4
      go_wp2_with fail
      go_ret
      have hlen : (y :: E).length = 1 + L := by rw [List.length_cons, HL.out]; omega
      exact ⟨A4, c4, by rw [hlen]; rfl, by rw [hlen]; exact HC4.out, by rw [hlen]; exact HW4.out, HO4.out⟩

set_option maxRecDepth 100000 in
theorem Ref.int_any (n : Int) (w : World) (hn : -9223372036854775808 ≤ n ∧ n ≤ 9223372036854775807) : Calls Try.prog 73 #[.int .i64 n] w (BytesPost Nil (encI n) w) := by
  have hzl := zig_lt hn
  have HG := Lib.hid (groups_any 9 (zig n) w (by omega) (by omega) hzl)
  unfold encI
  obtain ⟨Z, hZ⟩ : ∃ Z, zig n = Z := ⟨_, rfl⟩
  rw [hZ] at HG ⊢
  by_cases h0 : n < 0
  · have HZ := Lib.hid (show 2 * -(n + 1) + 1 = (Z : Int) by rw [← hZ]; unfold zig; rw [if_pos h0]; omega)
    clear hZ hzl
    go_enter Try.func73, Try.ntmps73
    go_wp2_with fail
    rw [HZ.out]
    refine HG.out.mono ?_
    rintro e w2 ⟨A2, c2, rfl, hc2, hown2, hO2⟩
    have H2 := Lib.hid hc2
    have HW2 := Lib.hid hown2
    have HO2 := Lib.hid hO2
    clear hown2 hO2 hc2
    go_wp2_with fail
    go_ret
    exact ⟨A2, c2, rfl, H2.out, HW2.out, HO2.out⟩
  · have HZ := Lib.hid (show 2 * n = (Z : Int) by rw [← hZ]; unfold zig; rw [if_neg h0]; omega)
    clear hZ hzl
    go_enter Try.func73, Try.ntmps73
    go_wp2_with fail
    rw [HZ.out]
    refine HG.out.mono ?_
    rintro e w2 ⟨A2, c2, rfl, hc2, hown2, hO2⟩
    have H2 := Lib.hid hc2
    have HW2 := Lib.hid hown2
    have HO2 := Lib.hid hO2
    clear hown2 hO2 hc2
    go_wp2_with fail
    go_ret
    exact ⟨A2, c2, rfl, H2.out, HW2.out, HO2.out⟩

set_option maxRecDepth 100000 in
theorem Ref.bytes_any (A : Option Addr) (c : Nat) (x : List UInt8) (w : World) (h : Bs w w.heap.size A x) (hl : x.length ≤ 1099511627776) :
    Calls Try.prog 72 #[.slice A x.length c] w (BytesPost Nil (encI x.length ++ x) w) := by
  obtain ⟨i0, hi0, hz0, hz1, hz2⟩ := info_parts byte_info
  have HI := Lib.hid (Ref.int_any (x.length : Int) w (by omega))
  have hel := encI_len (x.length : Int) (zig_lt (by omega))
  have H := Lib.hid h
  unfold BytesPost at HI
  obtain ⟨E, hE⟩ : ∃ E, encI (x.length : Int) = E := ⟨_, rfl⟩
  rw [hE] at HI hel ⊢
  obtain ⟨X, hX⟩ : ∃ X, x.length = X := ⟨_, rfl⟩
  obtain ⟨L, hL⟩ : ∃ L, E.length = L := ⟨_, rfl⟩
  rw [hX] at HI hl ⊢
  rw [hL] at HI hel
  have HX := Lib.hid hX
  have HL := Lib.hid hL
  have HLEN := Lib.hid (And.intro hel hl)
  clear h hE hX hL hel hl
  go_enter Try.func72, Try.ntmps72
  go_wp2_with fail
  refine HI.out.mono ?_
  rintro e w2 ⟨A2, c2, rfl, hc2, hown2, hO2⟩
  have HW2 := Lib.hid hown2
  have HO2 := Lib.hid hO2
  clear hown2 hO2 hc2
  go_wp2_with (at_builtin; go_must (refine wpList_append_rd _ rfl (.tmp 5) (.tmp 6) _ rfl w.heap.size 5 i0 (.int .u8 0) 1 1 Try.underlying22 hi0 hz0 hz1 hz2 rfl (by omega) (.slice A2 L c2) L (bcells E) rfl ?qown w2.heap.size A X c (bcells x) rfl ?qrd (bcells_one x) (L + X) rfl _ rfl ?q63 ?qby ?qbase ?_))
  case qown => exact HW2.out
  case qrd => have := (H.out.onlyNil HO2.out (Nat.le_refl _)).up HO2.out.size; unfold Bs at this; rw [HX.out] at this; exact this
  case q63 => have := HLEN.out; unfold maxLen; omega
  case qby => have := HLEN.out; omega
  case qbase => exact HO2.out.size
  intro A4 c4 w4 hc4 hown4 hgr4 hat4
  have hO4 : Only Nil w w4 := HO2.out.trans (Only.of_grown hgr4) (fun q hq => .inr (ownBlock_ge HW2.out hq))
  have HO4 := Lib.hid hO4
  have HC4 := Lib.hid hc4
  have HW4 := Lib.hid hown4
  clear hO4 hgr4 hat4 hown4 hc4
  go_wp2_with fail
  go_ret
  have hlen : (E ++ x).length = L + X := by rw [List.length_append, HL.out, HX.out]
  exact ⟨A4, c4, by rw [hlen]; rfl, by rw [hlen]; exact HC4.out, by rw [hlen, bcells_append]; exact HW4.out, HO4.out⟩

end Go.Proofs.Ytbhgaaendekghaa
