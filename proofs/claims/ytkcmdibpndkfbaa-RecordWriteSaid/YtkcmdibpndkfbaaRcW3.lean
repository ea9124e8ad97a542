/-
  Walks of sum.Of, record.four.
  Conditions: the bytes can be read; the number has four bytes.
-/
import Derived.Test.YtkcmdibpndkfbaaRcW2
import Derived.Test.YtkcmdibpndkfbaaWpP
import Derived.Test.YtkcmdibpndkfbaaRcO
namespace Go.Proofs.Ytkcmdibpndkfbaa
open Go.RowKit

set_option maxRecDepth 100000 in
theorem of_any (A : Option Addr) (c : Nat) (l : List UInt8) (w : World) (hb : Bs w w.heap.size A l) (hl : l.length ≤ 1099511627776) :
    Calls Try.prog 21 #[.slice A l.length c] w fun e w' => e = .returned (.int .u64 (ofS l)) ∧ Only Nil w w' := by
  obtain ⟨N, hN⟩ : ∃ N, l.length = N := ⟨_, rfl⟩
  obtain ⟨H, hH⟩ : ∃ H, fromS sS l = H := ⟨_, rfl⟩
  have hHl : H < 18446744073709551616 := by rw [← hH]; exact fromS_lt (by decide) l
  have h1 := from_any sS A c l w hb (by decide) hl
  rw [hN, hH] at h1
  have h2 := eight_any N w (by omega)
  have hres : ofS l = fromS H (le8 N) := by unfold ofS; rw [hH, hN]
  rw [hN, hres]
  have H1 := Lib.hid h1
  have H2 := Lib.hid h2
  have HL := Lib.hid hHl
  clear h1 h2 hb hl hN hH hHl hres
  unfold sS at H1
  go_enter Try.func21, Try.ntmps21
  go_wp2_with fail
  refine H1.out.mono ?_
  rintro e w1 ⟨rfl, rfl⟩
  go_wp2_with fail
  refine H2.out.mono ?_
  rintro e w2 ⟨A2, c2, rfl, hc2, hown2, hO2⟩
  have h3 := from_any H A2 c2 (le8 N) w2 (Bs.of_own hown2).1 HL.out (by rw [le8_len]; omega)
  have H3 := Lib.hid h3
  have HO2 := Lib.hid hO2
  clear h3 hown2 hO2 hc2
  go_wp2_with fail
  refine H3.out.mono ?_
  rintro e w3 ⟨rfl, rfl⟩
  go_wp2_with fail
  go_ret
  exact ⟨rfl, HO2.out⟩

/-- The k-th of a number's four bytes. -/
def bt (n k : Nat) : UInt8 := UInt8.ofNat (n / 2 ^ (24 - 8 * k) % 256)
def btTo (n k : Nat) : List UInt8 := (List.range k).map (bt n)
theorem btTo_succ (n k : Nat) : btTo n (k + 1) = btTo n k ++ [bt n k] := by
  unfold btTo
  rw [List.range_succ, List.map_append]
  rfl
theorem btTo_four (n : Nat) : btTo n 4 = be4 n := by
  unfold btTo be4 bt
  simp [List.range_succ]
theorem bt_at (n k : Nat) : (n : Int) / 2 ^ (24 - 8 * k) % 256 = ((bt n k).toNat : Int) := by
  unfold bt
  rw [byte_nat _ (Nat.mod_lt _ (by decide))]
  have h2 : (2 : Int) ^ (24 - 8 * k) = ((2 ^ (24 - 8 * k) : Nat) : Int) := by norm_cast
  rw [h2]
  generalize 2 ^ (24 - 8 * k) = m
  omega

set_option maxRecDepth 100000 in
set_option maxHeartbeats 1000000 in
theorem four_any (A : Option Addr) (c base : Nat) (l : List UInt8) (n : Nat) (w : World) (hb : base ≤ w.heap.size) (hw : OwnX w base A c l) (hlc : l.length ≤ c) (hl : l.length ≤ 1099511627776) :
    Calls Try.prog 34 #[.slice A l.length c, .int .i64 n] w (AppPost base (.slice A l.length c) (l ++ be4 n) w) := by
  obtain ⟨i0, hi0, hz0, hz1, hz2⟩ := info_parts byte_info
  obtain ⟨N, hN⟩ : ∃ N, l.length = N := ⟨_, rfl⟩
  have HW0 := Lib.hid hw
  have HB := Lib.hid hb
  have HL := Lib.hid hl
  have HC0 := Lib.hid hlc
  have HN := Lib.hid hN
  rw [hN]
  clear hw hb hl hlc hN
  go_enter Try.func34, Try.ntmps34
  go_wp2_with fail
  go_loopw [5, 0] (fun i v wr => ∃ (k : Nat) (z : Int) (r : List UInt8) (A1 : Option Addr) (c1 : Nat), k ≤ 4 ∧ z = 24 - 8 * k ∧ i = .int .i64 z ∧ v = .slice A1 r.length c1 ∧ r = l ++ btTo n k ∧ r.length = N + k ∧ r.length ≤ c1 ∧ OwnX wr base A1 c1 r ∧ (0 < k → wr.ownsRow base 5 1 (.slice A1 r.length c1) r.length (bcells r)) ∧
      (∀ q, (Value.slice A1 r.length c1).ownBlock = some q → (Value.slice A N c).ownBlock = some q ∨ w.heap.size ≤ q) ∧ Only (fun y => (Value.slice A N c).ownBlock = some y) w wr) (fun i _ _ => (intOf i + 8).toNat)
  case atStart => exact ⟨0, 24, l, A, c, by omega, by omega, rfl, by rw [HN.out], (List.append_nil _).symm, HN.out, by have := HC0.out; omega, HW0.out, (fun h => by omega), fun q hq => .inl (by rw [← HN.out]; exact hq), Only.refl _ _⟩
  case round =>
    obtain ⟨k, z, r, A1, c1, hk, hz, rfl, rfl, hr, hrl, hc1, hown, hownk, hq, hO⟩ := hrel
    obtain ⟨M, hM⟩ : ∃ M, r.length = M := ⟨_, rfl⟩
    rw [hM] at hrl hc1 hownk hq ⊢
    have HM := Lib.hid hM
    have HRL := Lib.hid hrl
    have HC := Lib.hid hc1
    have HOW := Lib.hid hown
    have HOWK := Lib.hid hownk
    have HQ := Lib.hid hq
    have HO := Lib.hid hO
    have HR := Lib.hid hr
    have HK := Lib.hid hk
    have HZ := Lib.hid hz
    clear hM hrl hc1 hown hownk hq hO hr
    by_cases hlt : k < 4
    · obtain ⟨s, hs⟩ : ∃ s, s = 24 - 8 * k := ⟨_, rfl⟩
      have hzs : z = (s : Int) := by omega
      subst hzs
      have hsm : (s : Int) ≤ 24 := by omega
      have hb := bt_at n k
      rw [← hs] at hb
      obtain ⟨x, hx⟩ : ∃ x, bt n k = x := ⟨_, rfl⟩
      rw [hx] at hb
      have HX := Lib.hid hx
      have hyc : bcells r ++ [Value.int .u8 (x.toNat : Int)] = bcells (r ++ [x]) := by rw [bcells_append]; rfl
      have HYC := Lib.hid hyc
      have HS := Lib.hid hs
      clear hx hyc hs hz hk hlt
      have hs0 : (0 : Int) ≤ (s : Int) := by omega
      have hs64 : (s : Int) < 64 := by omega
      go_wp2_with (at_builtin; go_must (refine wpList_append_x rfl (.tmp 10) (.tmp 15) _ rfl i0 Try.underlying26 hi0 hz0 hz1 hz2 M HM.out rfl (HOW.out.onlyNil ((Only.refl _ _).alloc _)) (wr.heap.size + 1) (some ⟨wr.heap.size, 0, none⟩) 1 1 [Value.int .u8 (x.toNat : Int)] rfl (Rd.newBlock wr #[Value.int .u8 (x.toNat : Int)] _ 1 1 rfl rfl) (one_cell1 rfl) (by decide) (M + 1) rfl (bcells (r ++ [x])) HYC.out (by have := HL.out; have := HRL.out; have := HN.out; have := HK.out; omega) (by have := HB.out; have := HO.out.size; simp; omega) ?_))
      intro A4 c4 w4 hc4 hown4 hgr4 hat4
      have hO4 : Only (fun x => (Value.slice A1 M c1).ownBlock = some x) wr w4 := (((Only.refl _ _).alloc _).then_ (Only.of_grown hgr4))
      have HQ4 : Hid (∀ q, (Value.slice A4 (M + 1) c4).ownBlock = some q → (Value.slice A N c).ownBlock = some q ∨ w.heap.size ≤ q) := Lib.hid (fun q hq => by
        rcases hat4 with h1 | h1
        · exact HQ.out q (h1 ▸ hq)
        · rw [h1] at hq
          injection hq with hq
          have := HO.out.size
          exact .inr (by rw [← hq]; first | omega | (simp; omega)))
      have HO4 := Lib.hid hO4
      have HC4 := Lib.hid hc4
      have HW4 := Lib.hid hown4
      clear hO4 hgr4 hat4 hown4 hc4 hb
      go_wp2_with fail
      go_roundw
      case rel =>
        have hlen : (r ++ [x]).length = M + 1 := by rw [List.length_append, HM.out]; rfl
        have h1 := HS.out
        have h2 := HK.out
        have h3 := HZ.out
        refine ⟨k + 1, (s : Int) - 8, r ++ [x], A4, c4, by omega, by omega, rfl, by rw [hlen], by rw [HR.out, btTo_succ, HX.out, List.append_assoc], by rw [hlen, HRL.out]; omega, by rw [hlen]; exact HC4.out, .inl (by rw [hlen]; exact HW4.out), (fun _ => by rw [hlen]; exact HW4.out), by rw [hlen]; exact HQ4.out, ?_⟩
        exact HO.out.trans HO4.out (fun x hx => HQ.out x hx)
      case measure => simp [intOf]; omega
    · have hk4 : k = 4 := by omega
      subst hk4
      have hz8 : z = -8 := by omega
      subst hz8
      clear hlt hk hz
      go_wp2_with fail
      go_ret
      have hr := HR.out
      rw [btTo_four] at hr
      subst hr
      have hownk := HOWK.out (by omega)
      rw [← HM.out] at hownk HC HQ
      exact ⟨A1, c1, by rw [← HM.out]; rfl, HC.out, hownk, HQ.out, HO.out⟩

end Go.Proofs.Ytkcmdibpndkfbaa
