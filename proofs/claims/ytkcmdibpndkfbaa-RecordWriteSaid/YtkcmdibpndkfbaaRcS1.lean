/-
  Walks of ratoonref02.step, From, Eight, Of; of ratoonref53.four, number.
  Conditions: the bytes can be read.
-/
import Derived.Test.YtkcmdibpndkfbaaRcW4
import Derived.BigQuiet
namespace Go.Proofs.Ytkcmdibpndkfbaa
open Go.RowKit

set_option maxRecDepth 100000 in
set_option maxHeartbeats 1000000 in
theorem Ref.step_any (h : Nat) (x : UInt8) (w : World) (hh : h < 18446744073709551616) :
    Calls Try.prog 50 #[.int .u64 h, .int .u8 (x.toNat : Int)] w fun e w' => e = .returned (.int .u64 (stepS h x : Nat)) ∧ w' = w := by
  have hxl := x.toNat_lt
  obtain ⟨X, hX⟩ : ∃ X, h ^^^ x.toNat = X := ⟨_, rfl⟩
  have hXlt : X < 18446744073709551616 := by rw [← hX]; exact Nat.xor_lt_two_pow (n := 64) hh (Nat.lt_of_lt_of_le hxl (by decide))
  obtain ⟨K, hK⟩ : ∃ K, X * sF % 18446744073709551616 = K := ⟨_, rfl⟩
  have hKlt : K < 18446744073709551616 := by rw [← hK]; exact Nat.mod_lt _ (by decide)
  have e0 : IntKind.u64.wrap (x.toNat : Int) = (x.toNat : Int) := IntWalk.u64_in _ (by omega)
  have e1 : bits .xor .u64 (h : Int) (x.toNat : Int) = (X : Int) := by rw [← hX]; exact bits_xor_u64_nat _ _ hh (by omega)
  have e2 : IntKind.u64.wrap ((X : Int) * 15111065706836454659) = (K : Int) := by
    rw [IntKind.wrap_u64, ← hK]
    unfold sF
    omega
  have e3 : bits .xor .u64 (K : Int) ((K : Int) / 536870912) = ((K ^^^ K / 536870912 : Nat) : Int) := xorShift_u64 K 536870912 hKlt
  have e4 : stepS h x = K ^^^ K / 536870912 := by unfold stepS; rw [hX, hK]
  rw [e4]
  obtain ⟨Z, hZ⟩ : ∃ Z, K ^^^ K / 536870912 = Z := ⟨_, rfl⟩
  rw [hZ] at e3 ⊢
  clear hX hK hZ e4 hxl hXlt hKlt hh
  go_enter Try.func50, Try.ntmps50
  go_wp2_with fail
  go_ret
  exact ⟨rfl, rfl⟩

set_option maxRecDepth 100000 in
set_option maxHeartbeats 1000000 in
theorem Ref.from_any (h : Nat) (A : Option Addr) (c : Nat) (l : List UInt8) (w : World) (hb : Bs w w.heap.size A l) (hh : h < 18446744073709551616) (hl : l.length ≤ 1099511627776) :
    Calls Try.prog 40 #[.int .u64 h, .slice A l.length c] w fun e w' => e = .returned (.int .u64 (fromS h l)) ∧ w' = w := by
  obtain ⟨N, hN⟩ : ∃ N, l.length = N := ⟨_, rfl⟩
  obtain ⟨R, hR⟩ : ∃ R, fromS h l = R := ⟨_, rfl⟩
  have HN := Lib.hid hN
  have HB := Lib.hid hb
  have HR := Lib.hid hR
  have HH := Lib.hid hh
  rw [hN] at hl
  rw [hN, hR]
  clear hb hN hR hh
  go_enter Try.func40, Try.ntmps40
  go_wp2_with fail
  go_loopw [5, 0] (fun i v wr => ∃ k : Nat, k ≤ N ∧ i = .int .i64 k ∧ v = .int .u64 (fromS h (l.take k) : Nat) ∧ wr = w) (fun i _ _ => N - (intOf i).toNat)
  case atStart => exact ⟨0, Nat.zero_le _, rfl, rfl, rfl⟩
  case round =>
    obtain ⟨k, hk, rfl, rfl, rfl⟩ := hrel
    have hHlt := fromS_lt HH.out (l.take k)
    obtain ⟨H, hH⟩ : ∃ H, fromS h (l.take k) = H := ⟨_, rfl⟩
    rw [hH] at hHlt ⊢
    have HHH := Lib.hid hH
    clear hH
    by_cases hlt : k < N
    · obtain ⟨x, hx⟩ : ∃ x, l[k]? = some x := ⟨l[k]'(by rw [HN.out]; exact hlt), List.getElem?_eq_getElem _⟩
      obtain ⟨g, off, rfl, hg, hc⟩ := HB.out.at_ hx
      have hst : fromS h (l.take (k + 1)) = stepS H x := by
        obtain ⟨hkl, hge⟩ := List.getElem?_eq_some_iff.1 hx
        rw [List.take_succ_eq_append_getElem hkl, hge, fromS_snoc, HHH.out]
      have HST := Lib.hid hst
      have HSA := Lib.hid (Ref.step_any H x wr hHlt)
      have hki : (k : Int) < N := by omega
      clear hx hst hHlt
      go_wp2_with fail
      refine HSA.out.mono ?_
      rintro e w2 ⟨rfl, rfl⟩
      go_wp2_with fail
      go_roundw
      case rel => exact ⟨k + 1, by omega, by go_num, by rw [HST.out], by first | rfl | trivial⟩
      case measure => simp [intOf]; omega
    · have hkN : k = N := by omega
      subst hkN
      have hfin : H = R := by rw [← HHH.out, ← HR.out, List.take_of_length_le (by rw [HN.out]; exact Nat.le_refl _)]
      have HFF := Lib.hid hfin
      clear hfin
      go_wp2_with fail
      go_ret
      exact ⟨by rw [← HFF.out]; rfl, rfl⟩

set_option maxRecDepth 100000 in
set_option maxHeartbeats 1000000 in
theorem Ref.eight_any (n : Nat) (w : World) (hn : n < 18446744073709551616) :
    Calls Try.prog 41 #[.int .u64 n] w (BytesPost Nil (le8 n) w) := by
  obtain ⟨i0, hi0, hz0, hz1, hz2⟩ := info_parts byte_info
  have HNL := Lib.hid hn
  clear hn
  go_enter Try.func41, Try.ntmps41
  go_wp2_with fail
  go_loopw [4, 3, 0] (fun i v vn wr => ∃ (k m : Nat) (A1 : Option Addr) (c1 : Nat), k ≤ 8 ∧ i = .int .i64 k ∧ v = .slice A1 k c1 ∧ vn = .int .u64 m ∧ m = n / 256 ^ k ∧ k ≤ c1 ∧ wr.ownsRow w.heap.size 5 1 (.slice A1 k c1) k (bcells (le8to n k)) ∧ Only Nil w wr) (fun i _ _ _ => 8 - (intOf i).toNat)
  case atStart => exact ⟨0, n, none, 0, Nat.zero_le _, rfl, rfl, rfl, by simp, Nat.le_refl _, World.ownsRow_nil _ _ _ _, Only.refl _ _⟩
  case round =>
    obtain ⟨k, m, A1, c1, hk, rfl, rfl, rfl, hm, hc1, hown, hO⟩ := hrel
    have HC := Lib.hid hc1
    have HW := Lib.hid hown
    have HO := Lib.hid hO
    have HM := Lib.hid hm
    clear hc1 hown hO hm
    by_cases hlt : k < 8
    · have hki : (k : Int) < 8 := by omega
      have hmlt : m < 18446744073709551616 := by rw [HM.out]; exact Nat.lt_of_le_of_lt (Nat.div_le_self _ _) HNL.out
      have hb : (m : Int) % 256 = ((UInt8.ofNat (n / 256 ^ k % 256)).toNat : Int) := by
        rw [byte_nat _ (Nat.mod_lt _ (by decide)), ← HM.out]
        omega
      have hb2 : (m : Int).tmod 256 = ((UInt8.ofNat (n / 256 ^ k % 256)).toNat : Int) := by
        rw [Int.tmod_eq_emod_of_nonneg (by omega)]
        exact hb
      have hd2 : (m : Int).tdiv 256 = ((m / 256 : Nat) : Int) := by
        rw [Int.tdiv_eq_ediv_of_nonneg (by omega)]
        omega
      have HS := Lib.hid (le8to_succ n k)
      have HM2 := Lib.hid (show m / 256 = n / 256 ^ (k + 1) by rw [HM.out, Nat.pow_succ, Nat.div_div_eq_div_mul])
      obtain ⟨x, hx⟩ : ∃ x, UInt8.ofNat (n / 256 ^ k % 256) = x := ⟨_, rfl⟩
      rw [hx] at hb hb2 HS
      have hxl := x.toNat_lt
      have hw8 : IntKind.u8.wrap (x.toNat : Int) = (x.toNat : Int) := by
        simp [IntKind.wrap, IntKind.bits, IntKind.signed]
        omega
      have hwx : IntKind.u64.wrap (x.toNat : Int) = (x.toNat : Int) := IntWalk.u64_in _ (by omega)
      have hwd : IntKind.u64.wrap ((m / 256 : Nat) : Int) = ((m / 256 : Nat) : Int) := IntWalk.u64_in _ (by omega)
      have hyc : bcells (le8to n k) ++ [Value.int .u8 (x.toNat : Int)] = bcells (le8to n (k + 1)) := by rw [HS.out, bcells_append]; rfl
      have HYC := Lib.hid hyc
      clear hyc hx
      obtain ⟨m2, hm2⟩ : ∃ m2, m / 256 = m2 := ⟨_, rfl⟩
      rw [hm2] at hd2 hwd HM2
      have hm3 : (m : Int) / 256 = (m2 : Int) := by omega
      clear hm2
      go_wp2_with (at_builtin; go_must (refine wpList_append_rd _ rfl (.tmp 9) (.tmp 13) _ rfl w.heap.size 5 i0 (.int .u8 0) 1 1 Try.underlying26 hi0 hz0 hz1 hz2 rfl (by omega) (.slice A1 k c1) k (bcells (le8to n k)) rfl (own_onlyNil HW.out ((Only.refl _ _).alloc _)) (wr.heap.size + 1) (some ⟨wr.heap.size, 0, none⟩) 1 1 [Value.int .u8 (x.toNat : Int)] rfl (Rd.newBlock wr #[Value.int .u8 (x.toNat : Int)] _ 1 1 rfl rfl) (one_cell1 rfl) (k + 1) rfl (bcells (le8to n (k + 1))) HYC.out (by unfold maxLen; omega) (by omega) (HO.out.alloc _).size ?_))
      intro A4 c4 w4 hc4 hown4 hgr4 hat4
      have HO4 := Lib.hid ((HO.out.alloc _).grown hgr4 (fun q hq => .inr (ownBlock_ge HW.out hq)))
      have HC4 := Lib.hid hc4
      have HW4 := Lib.hid hown4
      clear hc4 hown4 hgr4 hat4 hb hb2
      go_wp2_with fail
      go_roundw
      case rel => exact ⟨k + 1, m2, A4, c4, by omega, by go_num, rfl, rfl, HM2.out, HC4.out, HW4.out, HO4.out⟩
      case measure => simp [intOf]; omega
    · have hkN : k = 8 := by omega
      subst hkN
      go_wp2_with fail
      go_ret
      exact ⟨A1, c1, by rw [le8_len]; rfl, by rw [le8_len]; exact HC.out, by rw [le8_len]; exact HW.out, HO.out⟩

set_option maxRecDepth 100000 in
theorem Ref.of_any (A : Option Addr) (c : Nat) (l : List UInt8) (w : World) (hb : Bs w w.heap.size A l) (hl : l.length ≤ 1099511627776) :
    Calls Try.prog 24 #[.slice A l.length c] w fun e w' => e = .returned (.int .u64 (ofS l)) ∧ Only Nil w w' := by
  obtain ⟨N, hN⟩ : ∃ N, l.length = N := ⟨_, rfl⟩
  obtain ⟨H, hH⟩ : ∃ H, fromS sS l = H := ⟨_, rfl⟩
  have hHl : H < 18446744073709551616 := by rw [← hH]; exact fromS_lt (by decide) l
  have h1 := Ref.from_any sS A c l w hb (by decide) hl
  rw [hN, hH] at h1
  have h2 := Ref.eight_any N w (by omega)
  have e0 : IntKind.u64.wrap (N : Int) = (N : Int) := IntWalk.u64_in _ (by omega)
  have hres : ofS l = fromS H (le8 N) := by unfold ofS; rw [hH, hN]
  rw [hN, hres]
  have H1 := Lib.hid h1
  have H2 := Lib.hid h2
  have HL := Lib.hid hHl
  clear h1 h2 hb hl hN hH hHl hres
  unfold sS at H1
  go_enter Try.func24, Try.ntmps24
  go_wp2_with fail
  refine H1.out.mono ?_
  rintro e w1 ⟨rfl, rfl⟩
  go_wp2_with fail
  refine H2.out.mono ?_
  rintro e w2 ⟨A2, c2, rfl, hc2, hown2, hO2⟩
  have h3 := Ref.from_any H A2 c2 (le8 N) w2 (Bs.of_own hown2).1 HL.out (by rw [le8_len]; omega)
  have H3 := Lib.hid h3
  have HO2 := Lib.hid hO2
  clear h3 hown2 hO2 hc2
  go_wp2_with fail
  refine H3.out.mono ?_
  rintro e w3 ⟨rfl, rfl⟩
  go_wp2_with fail
  go_ret
  exact ⟨rfl, HO2.out⟩

set_option maxRecDepth 100000 in
set_option maxHeartbeats 1000000 in
theorem Ref.four_any (n : Nat) (w : World) (hn : n < 4294967296) :
    Calls Try.prog 42 #[.int .i64 n] w fun e w' => ∃ A c, e = .returned (.slice A 4 c) ∧ w'.ownsRow w.heap.size 5 1 (.slice A 4 c) 4 (bcells (be4 n)) ∧ Only Nil w w' := by
  have hb : ∀ m : Nat, IntKind.u8.wrap (m : Int) = ((UInt8.ofNat (m % 256)).toNat : Int) := fun m => by
    rw [byte_nat _ (Nat.mod_lt _ (by decide))]
    simp [IntKind.wrap, IntKind.bits, IntKind.signed]
  have d1 : (n : Int).tdiv 16777216 = ((n / 16777216 : Nat) : Int) := by rw [Int.tdiv_eq_ediv_of_nonneg (by omega)]; omega
  have d2 : (n : Int).tdiv 65536 = ((n / 65536 : Nat) : Int) := by rw [Int.tdiv_eq_ediv_of_nonneg (by omega)]; omega
  have d3 : (n : Int).tdiv 256 = ((n / 256 : Nat) : Int) := by rw [Int.tdiv_eq_ediv_of_nonneg (by omega)]; omega
  have b1 := hb (n / 16777216)
  have b2 := hb (n / 65536)
  have b3 := hb (n / 256)
  have b4 := hb n
  have w1 : IntKind.i64.wrap ((n / 16777216 : Nat) : Int) = ((n / 16777216 : Nat) : Int) := IntWalk.i64_in _ (by omega)
  have w2 : IntKind.i64.wrap ((n / 65536 : Nat) : Int) = ((n / 65536 : Nat) : Int) := IntWalk.i64_in _ (by omega)
  have w3 : IntKind.i64.wrap ((n / 256 : Nat) : Int) = ((n / 256 : Nat) : Int) := IntWalk.i64_in _ (by omega)
  obtain ⟨m1, h1⟩ : ∃ m, n / 16777216 = m := ⟨_, rfl⟩
  obtain ⟨m2, h2⟩ : ∃ m, n / 65536 = m := ⟨_, rfl⟩
  obtain ⟨m3, h3⟩ : ∃ m, n / 256 = m := ⟨_, rfl⟩
  have hbe : be4 n = [UInt8.ofNat (m1 % 256), UInt8.ofNat (m2 % 256), UInt8.ofNat (m3 % 256), UInt8.ofNat (n % 256)] := by unfold be4; rw [h1, h2, h3]
  rw [h1] at d1 b1 w1
  rw [h2] at d2 b2 w2
  rw [h3] at d3 b3 w3
  have q1 : (n : Int) / 16777216 = (m1 : Int) := by omega
  have q2 : (n : Int) / 65536 = (m2 : Int) := by omega
  have q3 : (n : Int) / 256 = (m3 : Int) := by omega
  rw [hbe]
  obtain ⟨x1, hx1⟩ : ∃ x, UInt8.ofNat (m1 % 256) = x := ⟨_, rfl⟩
  obtain ⟨x2, hx2⟩ : ∃ x, UInt8.ofNat (m2 % 256) = x := ⟨_, rfl⟩
  obtain ⟨x3, hx3⟩ : ∃ x, UInt8.ofNat (m3 % 256) = x := ⟨_, rfl⟩
  obtain ⟨x4, hx4⟩ : ∃ x, UInt8.ofNat (n % 256) = x := ⟨_, rfl⟩
  rw [hx1] at b1 ⊢
  rw [hx2] at b2 ⊢
  rw [hx3] at b3 ⊢
  rw [hx4] at b4 ⊢
  clear h1 h2 h3 hbe hb hx1 hx2 hx3 hx4
  go_enter Try.func42, Try.ntmps42
  go_wp2_with fail
  go_ret
  exact ⟨_, 4, rfl, World.ownsRow_lit w #[Value.int .u8 (x1.toNat : Int), .int .u8 (x2.toNat : Int), .int .u8 (x3.toNat : Int), .int .u8 (x4.toNat : Int)] 4 (Nat.le_refl _) (by unfold maxLen; omega) rfl, (Only.refl _ _).alloc _⟩

set_option maxRecDepth 100000 in
set_option maxHeartbeats 1000000 in
theorem Ref.number_any (A : Option Addr) (c : Nat) (l : List UInt8) (w : World) (hb : Bs w w.heap.size A l) (hl : 4 ≤ l.length) :
    Calls Try.prog 51 #[.slice A l.length c] w fun e w' => e = .returned (.int .i64 (nB l : Nat)) ∧ ∃ m, w' = w.drewN m := by
  obtain ⟨x0, h0⟩ : ∃ x, l[0]? = some x := ⟨l[0]'(by omega), List.getElem?_eq_getElem _⟩
  obtain ⟨x1, h1⟩ : ∃ x, l[1]? = some x := ⟨l[1]'(by omega), List.getElem?_eq_getElem _⟩
  obtain ⟨x2, h2⟩ : ∃ x, l[2]? = some x := ⟨l[2]'(by omega), List.getElem?_eq_getElem _⟩
  obtain ⟨x3, h3⟩ : ∃ x, l[3]? = some x := ⟨l[3]'(by omega), List.getElem?_eq_getElem _⟩
  have hn : (nB l : Int) = (((x0.toNat : Int) * 256 + x1.toNat) * 256 + x2.toNat) * 256 + x3.toNat := by
    match l, h0, h1, h2, h3 with
    | a :: b :: cc :: d :: r, h0, h1, h2, h3 =>
      simp at h0 h1 h2 h3
      subst h0 h1 h2 h3
      unfold nB
      simp
  obtain ⟨b, off, rfl, _, c0⟩ := hb.at_ h0
  have hc : ∀ {i : Nat} {x : UInt8}, l[i]? = some x → w.cell? ⟨b, off + i, none⟩ = some (.int .u8 (x.toNat : Int)) := fun {i x} hi => by
    obtain ⟨b', off', e, _, hc⟩ := hb.at_ hi
    injection e with e
    injection e with e1 e2
    subst e1 e2
    exact hc
  have c0' : w.cell? ⟨b, off, none⟩ = some (.int .u8 (x0.toNat : Int)) := c0
  have c1 := hc h1
  have c2 := hc h2
  have c3 := hc h3
  have l0 := x0.toNat_lt
  have l1 := x1.toNat_lt
  have l2 := x2.toNat_lt
  have l3 := x3.toNat_lt
  rw [hn]
  have v0 : IntKind.i64.wrap (x0.toNat : Int) = (x0.toNat : Int) := IntWalk.i64_in _ (by omega)
  have v1 : IntKind.i64.wrap (x1.toNat : Int) = (x1.toNat : Int) := IntWalk.i64_in _ (by omega)
  have v2 : IntKind.i64.wrap (x2.toNat : Int) = (x2.toNat : Int) := IntWalk.i64_in _ (by omega)
  have v3 : IntKind.i64.wrap (x3.toNat : Int) = (x3.toNat : Int) := IntWalk.i64_in _ (by omega)
  have w1 : IntKind.i64.wrap ((x0.toNat : Int) * 256) = (x0.toNat : Int) * 256 := IntWalk.i64_in _ (by omega)
  have w2 : IntKind.i64.wrap ((x0.toNat : Int) * 256 + x1.toNat) = (x0.toNat : Int) * 256 + x1.toNat := IntWalk.i64_in _ (by omega)
  have w3 : IntKind.i64.wrap (((x0.toNat : Int) * 256 + x1.toNat) * 256) = ((x0.toNat : Int) * 256 + x1.toNat) * 256 := IntWalk.i64_in _ (by omega)
  have w4 : IntKind.i64.wrap (((x0.toNat : Int) * 256 + x1.toNat) * 256 + x2.toNat) = ((x0.toNat : Int) * 256 + x1.toNat) * 256 + x2.toNat := IntWalk.i64_in _ (by omega)
  have w5 : IntKind.i64.wrap ((((x0.toNat : Int) * 256 + x1.toNat) * 256 + x2.toNat) * 256) = (((x0.toNat : Int) * 256 + x1.toNat) * 256 + x2.toNat) * 256 := IntWalk.i64_in _ (by omega)
  have w6 : IntKind.i64.wrap ((((x0.toNat : Int) * 256 + x1.toNat) * 256 + x2.toNat) * 256 + x3.toNat) = (((x0.toNat : Int) * 256 + x1.toNat) * 256 + x2.toNat) * 256 + x3.toNat := IntWalk.i64_in _ (by omega)
  obtain ⟨N, hN⟩ : ∃ N, l.length = N := ⟨_, rfl⟩
  rw [hN] at hl ⊢
  have i0 : (0 : Int) < (N : Int) := by omega
  have i1 : (1 : Int) < (N : Int) := by omega
  have i2 : (2 : Int) < (N : Int) := by omega
  have i3 : (3 : Int) < (N : Int) := by omega
  clear hb h0 h1 h2 h3 hn hc hN c0
  go_enter Try.func51, Try.ntmps51
  go_wp2_with fail
  go_quiet (fail)
  go_wp2_with fail
  go_ret
  exact ⟨rfl, _, rfl⟩

end Go.Proofs.Ytkcmdibpndkfbaa
