/-
  wire.Int, wire.Bytes: the encoding is appended to the slice.
  Conditions: the slice's memory is the caller's own; it has at most 2 to the power 40 bytes.
-/
import Derived.Test.YtbhgaaendekghaaClone
import Derived.Deep.LoopGhost
import Derived.IntWalk
import Derived.Deep.Cut
import Derived.Deep.DeepCutAuto
import Derived.Laws.Bits64
namespace Go.Proofs.Ytbhgaaendekghaa
open Go.RowKit

/-- The bytes of a number: seven bits each, the least first. -/
def encU (u : Nat) : List UInt8 := if h : u < 128 then [UInt8.ofNat u] else UInt8.ofNat (128 + u % 128) :: encU (u / 128)
termination_by u
decreasing_by omega
def zig (n : Int) : Nat := if n < 0 then (-2 * n - 1).toNat else (2 * n).toNat
def encI (n : Int) : List UInt8 := encU (zig n)

theorem encU_small {u : Nat} (h : u < 128) : encU u = [UInt8.ofNat u] := by rw [encU, dif_pos h]
theorem encU_big {u : Nat} (h : ¬ u < 128) : encU u = UInt8.ofNat (128 + u % 128) :: encU (u / 128) := by rw [encU, dif_neg h]
theorem encU_len (k : Nat) : ∀ u, u < 128 ^ k → (encU u).length ≤ max k 1 := by
  induction k with
  | zero => intro u h; rw [encU_small (by omega)]; simp
  | succ k ih =>
    intro u h
    by_cases h1 : u < 128
    · rw [encU_small h1]; simp
    · rw [encU_big h1, List.length_cons]
      have h2 : u / 128 < 128 ^ k := by rw [Nat.div_lt_iff_lt_mul (by omega)]; rw [Nat.pow_succ] at h; exact h
      have := ih _ h2
      rcases k with _ | k
      · simp at h2; omega
      · omega
theorem encI_len (n : Int) : zig n < 18446744073709551616 → (encI n).length ≤ 10 := fun h => encU_len 10 _ (by omega)
theorem byte_cell (k : Nat) (h : k < 256) : ((UInt8.ofNat k).toNat : Int) = (k : Int) := by
  rw [UInt8.toNat_ofNat_of_lt' (by simpa using h)]

theorem not64 (b : Nat) (h : b < 18446744073709551616) : 18446744073709551615 ^^^ b = 18446744073709551615 - b := by
  have h1 := congrArg BitVec.toNat (BitVec.allOnes_xor (x := BitVec.ofNat 64 b))
  rw [BitVec.toNat_xor, BitVec.toNat_not, BitVec.toNat_allOnes, BitVec.toNat_ofNat, Nat.mod_eq_of_lt (show b < 2 ^ 64 from h)] at h1
  exact h1
theorem zig_pos {n : Int} (h0 : 0 ≤ n) (h1 : n ≤ 9223372036854775807) : IntKind.u64.wrap (IntKind.u64.wrap n * 2) = (zig n : Int) := by
  unfold zig
  rw [if_neg (by omega), IntKind.wrap_u64, IntKind.wrap_u64]
  omega
theorem zig_neg {n : Int} (h0 : n < 0) (h1 : -9223372036854775808 ≤ n) : bits .xor .u64 IntKind.u64.max (IntKind.u64.wrap (IntKind.u64.wrap n * 2)) = (zig n : Int) := by
  have e : IntKind.u64.wrap (IntKind.u64.wrap n * 2) = ((18446744073709551616 + 2 * n).toNat : Int) := by
    rw [IntKind.wrap_u64, IntKind.wrap_u64]
    omega
  have m : IntKind.u64.max = ((18446744073709551615 : Nat) : Int) := by decide
  rw [e, m, bits_xor_u64_nat _ _ (by omega) (by omega), not64 _ (by omega)]
  unfold zig
  rw [if_pos h0]
  omega
theorem zig_lt {n : Int} (h : -9223372036854775808 ≤ n ∧ n ≤ 9223372036854775807) : zig n < 18446744073709551616 := by
  unfold zig
  split <;> omega

/-- What wire.Int and its like answer: the bytes are appended; the row is the old one's or a new one. -/
def AppPost (base : Nat) (v : Value) (r : List UInt8) (w : World) (x : Ending) (w' : World) : Prop :=
  ∃ A c, x = .returned (.slice A r.length c) ∧ r.length ≤ c ∧ w'.ownsRow base 5 1 (.slice A r.length c) r.length (bcells r) ∧
    (∀ q, (Value.slice A r.length c).ownBlock = some q → v.ownBlock = some q ∨ w.heap.size ≤ q) ∧ Only (fun x => v.ownBlock = some x) w w'

set_option maxRecDepth 100000 in
set_option maxHeartbeats 1000000 in
theorem int_any (A : Option Addr) (c base : Nat) (l : List UInt8) (n : Int) (w : World) (hb : base ≤ w.heap.size) (hw : w.ownsRow base 5 1 (.slice A l.length c) l.length (bcells l)) (hl : l.length ≤ 1099511627776) (hn : -9223372036854775808 ≤ n ∧ n ≤ 9223372036854775807) :
    Calls Try.prog 21 #[.slice A l.length c, .int .i64 n] w (AppPost base (.slice A l.length c) (l ++ encI n) w) := by
  obtain ⟨i0, hi0, hz0, hz1, hz2⟩ := info_parts byte_info
  have HW := Lib.hid hw
  have HL := Lib.hid hl
  have HN := Lib.hid hn
  clear hw hl hn
  obtain ⟨N, hN⟩ : ∃ N, l.length = N := ⟨_, rfl⟩
  rw [hN]
  have HLN := Lib.hid hN
  clear hN
  have hzl := zig_lt HN.out
  have HZL := Lib.hid hzl
  clear hzl
  go_enter Try.func21, Try.ntmps21
  go_upto_if 10 with fail
  go_cut [5] (fun u wc => u = .int .u64 (zig n) ∧ wc = w)
  case first =>
    by_cases h0 : n < 0
    · have HZ := Lib.hid (zig_neg h0 HN.out.1)
      go_wp2_with fail
      go_meet
      case rel => exact ⟨by rw [HZ.out], rfl⟩
    · have HZ := Lib.hid (zig_pos (by omega : 0 ≤ n) HN.out.2)
      go_wp2_with fail
      go_meet
      case rel => exact ⟨by rw [HZ.out], rfl⟩
  case rest =>
    obtain ⟨rfl, rfl⟩ := hcut
    go_wp2_with fail
    go_loopw [0, 5] (fun v u wr => ∃ (x : Nat) (r : List UInt8) (A' : Option Addr) (c' : Nat), u = .int .u64 x ∧ v = .slice A' r.length c' ∧ x < 18446744073709551616 ∧ r ++ encU x = l ++ encI n ∧ r.length + (encU x).length ≤ N + (encI n).length ∧ wr.ownsRow base 5 1 (.slice A' r.length c') r.length (bcells r) ∧
        (∀ q, (Value.slice A' r.length c').ownBlock = some q → (Value.slice A N c).ownBlock = some q ∨ wc.heap.size ≤ q) ∧ Only (fun y => (Value.slice A N c).ownBlock = some y) wc wr) (fun _ u _ => (intOf u).toNat)
    case atStart => exact ⟨zig n, l, A, c, rfl, by rw [HLN.out], HZL.out, rfl, by rw [HLN.out]; exact Nat.le_refl _, HW.out, fun q hq => .inl (by rw [← HLN.out]; exact hq), Only.refl _ _⟩
    case round =>
      obtain ⟨x, r, A', c', rfl, rfl, hx, hr, hrl, hown, hq, hO⟩ := hrel
      have HR := Lib.hid hr
      have HRL := Lib.hid hrl
      have HOW := Lib.hid hown
      have HQ := Lib.hid hq
      have HO := Lib.hid hO
      obtain ⟨R, hR⟩ : ∃ R, r.length = R := ⟨_, rfl⟩
      have HRR := Lib.hid hR
      rw [hR]
      clear hr hrl hown hq hO hR
      by_cases hlt : x < 128
      · have hge : ¬ (128 : Int) ≤ x := by omega
        have hu8 : IntKind.u8.wrap (x : Int) = x := IntWalk.u8_in _ (by omega)
        obtain ⟨y, hy⟩ : ∃ y, y = UInt8.ofNat x := ⟨_, rfl⟩
        have hyc : (x : Int) = (y.toNat : Int) := by rw [hy, byte_cell x (by omega)]
        have he : encU x = [y] := by rw [encU_small hlt, hy]
        have HE := Lib.hid he
        have hN2 : R + 1 ≤ N + (encI n).length := by have := HRL.out; rw [he, HRR.out] at this; exact this
        have HN2 := Lib.hid hN2
        have hfin : r ++ [y] = l ++ encI n := by rw [← he]; exact HR.out
        have HFIN := Lib.hid hfin
        have HEL := Lib.hid (encI_len n HZL.out)
        rw [hyc]
        rw [hyc] at hge hu8
        have HWB : Hid (∀ wz, Only Nil wr wz → wz.ownsRow base 5 1 (.slice A' R c') R (bcells r)) := Lib.hid (fun wz hO => by have := own_onlyNil HOW.out hO; rw [HRR.out] at this; exact this)
        clear hlt hy hyc he hN2 hfin
        go_wp2_with (at_builtin; go_must (refine wpList_append_rd _ rfl (.tmp 24) (.tmp 27) _ rfl base 5 i0 (.int .u8 0) 1 1 Try.underlying22 hi0 hz0 hz1 hz2 rfl (by omega) (.slice A' R c') R (bcells r) rfl ?qown (wr.heap.size + 1) (some ⟨wr.heap.size, 0, none⟩) 1 1 [.int .u8 (y.toNat : Int)] rfl ?qrd (one_cell1 rfl) (R + 1) rfl _ rfl ?q63 ?qby ?qbase ?_))
        case qown => exact HWB.out _ ((Only.refl _ _).alloc _)
        case qrd => exact Rd.newBlock wr #[.int .u8 (y.toNat : Int)] _ 1 1 rfl rfl
        case q63 => have := HN2.out; have := HL.out; have := HLN.out; have := HEL.out; unfold maxLen; omega
        case qby => have := HN2.out; have := HL.out; have := HLN.out; have := HEL.out; omega
        case qbase => have := HO.out.size; simp; omega
        intro A4 c4 w4 hc4 hown4 hgr4 hat4
        have hO4 : Only (fun x => (Value.slice A' R c').ownBlock = some x) wr w4 := (((Only.refl _ _).alloc _).then_ (Only.of_grown hgr4))
        have HQ4 : Hid (∀ q, (Value.slice A4 (R + 1) c4).ownBlock = some q → (Value.slice A N c).ownBlock = some q ∨ wc.heap.size ≤ q) := Lib.hid (fun q hq => by
          rcases hat4 with h1 | h1
          · exact HQ.out q (by rw [HRR.out]; exact h1 ▸ hq)
          · rw [h1] at hq
            injection hq with hq
            have := HO.out.size
            exact .inr (by rw [← hq]; first | omega | (simp; omega)))
        have HO4 := Lib.hid hO4
        have HC4 := Lib.hid hc4
        have HW4 := Lib.hid hown4
        clear hO4 hgr4 hat4 hown4 hc4
        go_wp2_with fail
        go_ret
        have hlen : (l ++ encI n).length = R + 1 := by rw [← HFIN.out, List.length_append, HRR.out]; rfl
        refine ⟨A4, c4, by rw [hlen]; rfl, by rw [hlen]; exact HC4.out, ?_, by rw [hlen]; exact HQ4.out, ?_⟩
        · rw [hlen, ← HFIN.out, bcells_append]
          exact HW4.out
        · refine HO.out.trans HO4.out (fun x hx => ?_)
          exact HQ.out x (by rw [HRR.out]; exact hx)
      · have hge : (128 : Int) ≤ x := by omega
        have hrm : Int.tmod (x : Int) 128 = ((x % 128 : Nat) : Int) := by rw [Int.tmod_eq_emod_of_nonneg (by omega)]; omega
        have hqo : Int.tdiv (x : Int) 128 = ((x / 128 : Nat) : Int) := by rw [Int.tdiv_eq_ediv_of_nonneg (by omega)]; omega
        obtain ⟨m, hm⟩ : ∃ m, x % 128 = m := ⟨_, rfl⟩
        obtain ⟨d, hd⟩ : ∃ d, x / 128 = d := ⟨_, rfl⟩
        rw [hm] at hrm
        rw [hd] at hqo
        have hwa : IntKind.u64.wrap (128 + (m : Int)) = 128 + m := IntWalk.u64_in _ (by omega)
        have hw8 : IntKind.u8.wrap (128 + (m : Int)) = 128 + m := IntWalk.u8_in _ (by omega)
        have hwm : IntKind.u64.wrap (m : Int) = m := IntWalk.u64_in _ (by omega)
        have hwd : IntKind.u64.wrap (d : Int) = d := IntWalk.u64_in _ (by omega)
        obtain ⟨y, hy⟩ : ∃ y, y = UInt8.ofNat (128 + m) := ⟨_, rfl⟩
        have hyc : (128 : Int) + m = (y.toNat : Int) := by rw [hy, byte_cell (128 + m) (by omega)]; omega
        have he : encU x = y :: encU d := by rw [encU_big (by omega), hm, hd, hy]
        have HE := Lib.hid he
        have hN2 : R + 1 + (encU d).length ≤ N + (encI n).length := by have := HRL.out; rw [he, HRR.out, List.length_cons] at this; omega
        have HN2 := Lib.hid hN2
        have HEL := Lib.hid (encI_len n HZL.out)
        have HD := Lib.hid hd
        rw [hyc] at hwa hw8
        have HX := Lib.hid hx
        have HWB : Hid (∀ wz, Only Nil wr wz → wz.ownsRow base 5 1 (.slice A' R c') R (bcells r)) := Lib.hid (fun wz hO => by have := own_onlyNil HOW.out hO; rw [HRR.out] at this; exact this)
        clear hlt hy he hN2 hm hd
        go_wp2_with (at_builtin; go_must (refine wpList_append_rd _ rfl (.tmp 17) (.tmp 22) _ rfl base 5 i0 (.int .u8 0) 1 1 Try.underlying22 hi0 hz0 hz1 hz2 rfl (by omega) (.slice A' R c') R (bcells r) rfl ?qown (wr.heap.size + 1) (some ⟨wr.heap.size, 0, none⟩) 1 1 [.int .u8 (y.toNat : Int)] rfl ?qrd (one_cell1 rfl) (R + 1) rfl _ rfl ?q63 ?qby ?qbase ?_))
        case qown => exact HWB.out _ ((Only.refl _ _).alloc _)
        case qrd => exact Rd.newBlock wr #[.int .u8 (y.toNat : Int)] _ 1 1 rfl rfl
        case q63 => have := HN2.out; have := HL.out; have := HLN.out; have := HEL.out; unfold maxLen; omega
        case qby => have := HN2.out; have := HL.out; have := HLN.out; have := HEL.out; omega
        case qbase => have := HO.out.size; simp; omega
        intro A4 c4 w4 hc4 hown4 hgr4 hat4
        have hO4 : Only (fun x => (Value.slice A' R c').ownBlock = some x) wr w4 := (((Only.refl _ _).alloc _).then_ (Only.of_grown hgr4))
        have HQ4 : Hid (∀ q, (Value.slice A4 (R + 1) c4).ownBlock = some q → (Value.slice A N c).ownBlock = some q ∨ wc.heap.size ≤ q) := Lib.hid (fun q hq => by
          rcases hat4 with h1 | h1
          · exact HQ.out q (by rw [HRR.out]; exact h1 ▸ hq)
          · rw [h1] at hq
            injection hq with hq
            have := HO.out.size
            exact .inr (by rw [← hq]; first | omega | (simp; omega)))
        have HO4 := Lib.hid hO4
        have HC4 := Lib.hid hc4
        have HW4 := Lib.hid hown4
        clear hO4 hgr4 hat4 hown4 hc4
        go_wp2_with fail
        go_roundw
        case rel =>
          have hlen : (r ++ [y]).length = R + 1 := by rw [List.length_append, HRR.out]; rfl
          refine ⟨d, r ++ [y], A4, c4, rfl, by rw [hlen], by have := HD.out; have := HX.out; omega, ?_, ?_, ?_, by rw [hlen]; exact HQ4.out, ?_⟩
          · rw [List.append_assoc]
            show r ++ (y :: encU d) = _
            rw [← HE.out]
            exact HR.out
          · rw [hlen]; exact HN2.out
          · rw [hlen, bcells_append]
            exact HW4.out
          · refine HO.out.trans HO4.out (fun x hx => ?_)
            exact HQ.out x (by rw [HRR.out]; exact hx)
        case measure =>
          have := HD.out
          simp [intOf] <;> omega

/-- wire.Bytes: the length, then the bytes. -/
theorem bytes_any (A : Option Addr) (c base : Nat) (l : List UInt8) (A' : Option Addr) (c' : Nat) (x : List UInt8) (w : World) (hb : base ≤ w.heap.size) (hw : w.ownsRow base 5 1 (.slice A l.length c) l.length (bcells l))
    (hx : ∀ w', Only (fun y => (Value.slice A l.length c).ownBlock = some y) w w' → Rd w' w.heap.size 1 A' x.length (bcells x)) (hl : l.length ≤ 1099511627776) (hxl : x.length ≤ 1099511627776) :
    Calls Try.prog 31 #[.slice A l.length c, .slice A' x.length c'] w (AppPost base (.slice A l.length c) (l ++ encI x.length ++ x) w) := by
  obtain ⟨i0, hi0, hz0, hz1, hz2⟩ := info_parts byte_info
  have hi := int_any A c base l x.length w hb hw hl (by omega)
  have HI := Lib.hid hi
  have HX := Lib.hid hx
  have HEL := Lib.hid (encI_len (x.length : Int) (zig_lt (by omega)))
  have HL := Lib.hid hl
  have HXL := Lib.hid hxl
  have HB := Lib.hid hb
  clear hi hx hw
  obtain ⟨N, hN⟩ : ∃ N, l.length = N := ⟨_, rfl⟩
  obtain ⟨X, hX⟩ : ∃ X, x.length = X := ⟨_, rfl⟩
  rw [hN, hX] at HI ⊢
  have HNN := Lib.hid hN
  have HXX := Lib.hid hX
  clear hN hX hl hxl hb
  go_enter Try.func31, Try.ntmps31
  go_wp2_with fail
  refine HI.out.mono ?_
  rintro e w1 ⟨A1, c1, rfl, hc1, hown, hq, hO⟩
  obtain ⟨r, hr⟩ : ∃ r, r = l ++ encI X := ⟨_, rfl⟩
  rw [← hr] at hown hc1 hq ⊢
  obtain ⟨R, hR⟩ : ∃ R, r.length = R := ⟨_, rfl⟩
  rw [hR] at hown hc1 hq ⊢
  have HRL : Hid (R ≤ 1099511627776 + 10) := Lib.hid (by
    have h1 := HEL.out
    have h2 := HL.out
    rw [← hR, hr, List.length_append]
    rw [HXX.out] at h1
    omega)
  have HOW := Lib.hid hown
  have HQ := Lib.hid hq
  have HO := Lib.hid hO
  have HR := Lib.hid hR
  have HRE := Lib.hid hr
  clear hown hq hO hc1 hr hR
  go_wp2_with (at_builtin; go_must (refine wpList_append_rd _ rfl (.tmp 8) (.tmp 9) _ rfl base 5 i0 (.int .u8 0) 1 1 Try.underlying22 hi0 hz0 hz1 hz2 rfl (by omega) (.slice A1 R c1) R (bcells r) rfl ?qown w.heap.size A' X c' (bcells x) rfl ?qrd (bcells_one x) (R + X) rfl _ rfl ?q63 ?qby ?qbase ?_))
  case qown => exact HOW.out
  case qrd => have := HX.out w1 (by rw [HNN.out]; exact HO.out); rw [HXX.out] at this; exact this
  case q63 => have := HRL.out; have := HXL.out; have := HXX.out; unfold maxLen; omega
  case qby => have := HRL.out; have := HXL.out; have := HXX.out; omega
  case qbase => exact Nat.le_trans HB.out HO.out.size
  intro A4 c4 w4 hc4 hown4 hgr4 hat4
  have hO4 : Only (fun y => (Value.slice A N c).ownBlock = some y) w w4 := HO.out.trans (Only.of_grown hgr4) (fun y hy => HQ.out y hy)
  have hq4 : ∀ q, (Value.slice A4 (R + X) c4).ownBlock = some q → (Value.slice A N c).ownBlock = some q ∨ w.heap.size ≤ q := fun q hq => by
    rcases hat4 with h1 | h1
    · exact HQ.out q (h1 ▸ hq)
    · rw [h1] at hq
      injection hq with hq
      have := HO.out.size
      exact .inr (by omega)
  have HO4 := Lib.hid hO4
  have HQ4 := Lib.hid hq4
  have HW4 := Lib.hid hown4
  have HC4 := Lib.hid hc4
  clear hO4 hq4 hown4 hgr4 hat4 hc4
  go_wp2_with fail
  go_ret
  have hlen : (r ++ x).length = R + X := by rw [List.length_append, HR.out, HXX.out]
  rw [← HRE.out]
  exact ⟨A4, c4, by rw [hlen]; rfl, by rw [hlen]; exact HC4.out, by rw [hlen, bcells_append]; exact HW4.out, by rw [hlen]; exact HQ4.out, HO4.out⟩

end Go.Proofs.Ytbhgaaendekghaa
