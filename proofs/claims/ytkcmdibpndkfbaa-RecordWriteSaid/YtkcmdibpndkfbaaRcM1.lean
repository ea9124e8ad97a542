/-
  Texts joined into one (a claim takes at most 60 files), in build order.
-/
import Derived.Test.YtkcmdibpndkfbaaWrP
import Derived.Test.YtkcmdibpndkfbaaRfI
import Derived.Test.YtkcmdibpndkfbaaWrN
import Derived.Laws.Bits64b
import Derived.StillTailTactics
import Derived.BigQuiet
import Derived.Test.YtkcmdibpndkfbaaWdP
import Derived.Test.YtkcmdibpndkfbaaWmEntry
import Derived.Test.YtkcmdibpndkfbaaRcS1
import Derived.Test.YtkcmdibpndkfbaaRcR1
import Derived.Test.YtkcmdibpndkfbaaRpR1
import Derived.Deep.RegionHeld3
import Derived.Test.YtkcmdibpndkfbaaRcR3
import Derived.Test.YtkcmdibpndkfbaaRcA1
import Derived.Test.YtkcmdibpndkfbaaRcS2
import Derived.Test.YtkcmdibpndkfbaaRcP
import Derived.Test.YtkcmdibpndkfbaaRcT
import Derived.Test.YtkcmdibpndkfbaaSmE
import Derived.Test.YtkcmdibpndkfbaaRow
import Derived.Laws.Externs
import Derived.Test.YtkcmdibpndkfbaaInv

namespace Go.Proofs.Ytkcmdibpndkfbaa

/-- The value of the groups of these bytes. -/
def pv : List UInt8 → Nat
  | [] => 0
  | c :: cs => c.toNat % 128 + 128 * pv cs
theorem pv_snoc (l : List UInt8) (c : UInt8) : pv (l ++ [c]) = pv l + c.toNat % 128 * 128 ^ l.length := by
  induction l with
  | nil => simp [pv]
  | cons x l ih =>
    rw [List.cons_append, pv, ih, pv, List.length_cons, Nat.pow_succ, Nat.mul_add, ← Nat.mul_assoc, Nat.mul_comm 128 (c.toNat % 128), Nat.mul_assoc, Nat.mul_comm 128 (128 ^ l.length)]
    omega
theorem pv_encU : ∀ (k v : Nat), v < 128 ^ (k + 1) → pv (encU v) = v := by
  intro k
  induction k with
  | zero =>
    intro v h
    have h : v < 128 := by simpa using h
    rw [encU_small h]
    unfold pv pv
    rw [byte_nat v (by omega)]
    omega
  | succ k ih =>
    intro v h
    by_cases h1 : v < 128
    · rw [encU_small h1]
      unfold pv pv
      rw [byte_nat v (by omega)]
      omega
    · rw [encU_big h1]
      unfold pv
      rw [ih (v / 128) (by rw [Nat.div_lt_iff_lt_mul (by omega)]; rw [Nat.pow_succ] at h; exact h), byte_nat _ (by omega)]
      omega
/-- All bytes but the last go on. -/
theorem encU_go : ∀ (k v : Nat), v < 128 ^ (k + 1) → ∀ (j : Nat) (c : UInt8), (encU v)[j]? = some c → (c.toNat < 128 ↔ j + 1 = (encU v).length) := by
  intro k
  induction k with
  | zero =>
    intro v h j c hc
    have h : v < 128 := by simpa using h
    rw [encU_small h] at hc ⊢
    match j, hc with
    | 0, hc =>
      simp only [List.getElem?_cons_zero, Option.some.injEq] at hc
      rw [← hc, byte_nat v (by omega)]
      simp; omega
    | j + 1, hc => simp at hc
  | succ k ih =>
    intro v h j c hc
    by_cases h1 : v < 128
    · rw [encU_small h1] at hc ⊢
      match j, hc with
      | 0, hc =>
        simp only [List.getElem?_cons_zero, Option.some.injEq] at hc
        rw [← hc, byte_nat v (by omega)]
        simp; omega
      | j + 1, hc => simp at hc
    · have hd : v / 128 < 128 ^ (k + 1) := by rw [Nat.div_lt_iff_lt_mul (by omega)]; rw [Nat.pow_succ] at h; exact h
      rw [encU_big h1] at hc ⊢
      match j, hc with
      | 0, hc =>
        simp only [List.getElem?_cons_zero, Option.some.injEq] at hc
        rw [← hc, byte_nat _ (by omega), List.length_cons]
        have hp : 1 ≤ (encU (v / 128)).length := by rw [encU]; split <;> simp
        omega
      | j + 1, hc =>
        have := ih _ hd j c (by simpa using hc)
        rw [List.length_cons, this]
        omega

theorem two64 : (18446744073709551616 : Nat) ≤ 128 ^ (9 + 1) := by decide

/-- Behind i bytes that all go on. -/
def Going (L : List UInt8) (i : Nat) : Prop := ∀ j c, j < i → L[j]? = some c → ¬ c.toNat < 128
theorem Going.zero (L : List UInt8) : Going L 0 := fun _ _ h => absurd h (Nat.not_lt_zero _)
theorem Going.more {L : List UInt8} {i : Nat} {c : UInt8} (h : Going L i) (hc : L[i]? = some c) (hn : ¬ c.toNat < 128) : Going L (i + 1) := fun j d hj hd => by
  rcases Nat.lt_or_ge j i with h1 | h1
  · exact h j d h1 hd
  · obtain rfl : j = i := by omega
    rw [hc] at hd
    injection hd with hd
    rw [← hd]
    exact hn
/-- Where a number is read, its bytes go on till the last. -/
theorem dec_going {L : List UInt8} {z : Int} {k i : Nat} {c : UInt8} (hd : dec L = some (z, k)) (hg : Going L i) (hc : L[i]? = some c) (hl : c.toNat < 128) : i + 1 = k ∧ pv (L.take k) = zig z ∧ zig z < 18446744073709551616 := by
  obtain ⟨h1, h2, h3, h4⟩ := dec_some hd
  have hz := zig_lt ⟨h3, h4⟩
  have hz2 : zig z < 128 ^ (9 + 1) := Nat.lt_of_lt_of_le hz two64
  have ht : L.take k = encI z := by
    rw [h2, List.take_append_of_le_length (by omega), ← h1, List.take_length]
  have hat : ∀ j, j < k → L[j]? = (encI z)[j]? := fun j hj => by rw [← ht, List.getElem?_take_of_lt hj]
  have hkl := dec_len hd
  have hik : i + 1 = k := by
    rcases Nat.lt_or_ge i k with h | h
    · have h5 : (encI z)[i]? = some c := by rw [← hat i h]; exact hc
      have := (encU_go 9 (zig z) hz2 i c h5).1 hl
      unfold encI at h1
      omega
    · -- the last byte of the number ends it, but all bytes ahead of i go on
      obtain ⟨d, hd'⟩ : ∃ d, L[k - 1]? = some d := ⟨_, List.getElem?_eq_getElem (by omega)⟩
      have h5 : (encI z)[k - 1]? = some d := by rw [← hat (k - 1) (by omega)]; exact hd'
      have h6 := (encU_go 9 (zig z) hz2 (k - 1) d h5).2 (by unfold encI at h1; omega)
      exact absurd h6 (hg (k - 1) d (by omega) hd')
  refine ⟨hik, ?_, hz⟩
  rw [ht]
  exact pv_encU 9 _ hz2
/-- No number: ten bytes, or all that there are, go on. -/
theorem dec_none_going {L : List UInt8} {i : Nat} (hg : Going L i) (hi : i = 10 ∨ L.length ≤ i) : dec L = none := by
  cases hd : dec L with
  | none => rfl
  | some r =>
    obtain ⟨z, k⟩ := r
    obtain ⟨h1, h2, h3, h4⟩ := dec_some hd
    have hz2 : zig z < 128 ^ (9 + 1) := Nat.lt_of_lt_of_le (zig_lt ⟨h3, h4⟩) two64
    have hkl := dec_len hd
    obtain ⟨d, hd'⟩ : ∃ d, L[k - 1]? = some d := ⟨_, List.getElem?_eq_getElem (by omega)⟩
    have h5 : (encI z)[k - 1]? = some d := by
      rw [h2, List.getElem?_append_left (by omega)] at hd'
      exact hd'
    have h6 := (encU_go 9 (zig z) hz2 (k - 1) d h5).2 (by unfold encI at h1; omega)
    exact absurd h6 (hg (k - 1) d (by rcases hi with hi | hi <;> omega) hd')
/-- Bytes that begin with an encoding are read as it. -/
theorem dec_of_begin {L : List UInt8} {z : Int} (hz : -9223372036854775808 ≤ z ∧ z ≤ 9223372036854775807) (h : (L.take (encI z).length == encI z) = true) : dec L = some (z, (encI z).length) := by
  have h1 : L = encI z ++ L.drop (encI z).length := by
    have := List.take_append_drop (encI z).length L
    rw [eq_of_beq h] at this
    exact this.symm
  rw [h1]
  exact dec_enc z _ hz

end Go.Proofs.Ytkcmdibpndkfbaa

namespace Go.Proofs.Ytkcmdibpndkfbaa
open Go.RowKit

/-- A reader of the reference: its box, its bytes. -/
structure RF (w : World) (p : Nat) (A : Option Addr) (c : Nat) (l : List UInt8) (pos : Nat) (failed : Bool) : Prop where
  box : Blk w p 81 #[.slice A l.length c, .int .i64 pos, .bool failed]
  bytes : Bs w w.heap.size A l
  cap : l.length ≤ c
theorem RF.onlyNil {w w' : World} {p : Nat} {A : Option Addr} {c : Nat} {l : List UInt8} {pos : Nat} {f : Bool} (h : RF w p A c l pos f) (hO : Only Nil w w') : RF w' p A c l pos f :=
  ⟨h.box.onlyNil hO, (h.bytes.onlyNil hO (Nat.le_refl _)).up hO.size, h.cap⟩
theorem RF.move {w w' : World} {p : Nat} {A : Option Addr} {c : Nat} {l : List UInt8} {pos pos' : Nat} {f f' : Bool} (h : RF w p A c l pos f) (hO : Only (One p) w w') (hb : Blk w' p 81 #[.slice A l.length c, .int .i64 pos', .bool f']) : RF w' p A c l pos' f' :=
  ⟨hb, (h.bytes.box h.box (rr_no _ _ _ _ _) hO (Nat.le_refl _)).up hO.size, h.cap⟩

set_option maxRecDepth 100000 in
set_option maxHeartbeats 2000000 in
theorem begins_any (p : Nat) (A : Option Addr) (c : Nat) (l : List UInt8) (pos : Nat) (f : Bool) (X : Option Addr) (cx : Nat) (x : List UInt8) (w : World) (h : RF w p A c l pos f) (hx : Bs w w.heap.size X x) (hp : pos ≤ l.length) (hl : l.length ≤ 1099511627776) (hxl : x.length ≤ 1000) :
    Calls Try.prog 67 #[.pointer (some ⟨p, 0, none⟩), .slice X x.length cx] w fun e w' => e = .returned (.bool ((l.drop pos).take x.length == x)) ∧ Only Nil w w' := by
  obtain ⟨R, hR⟩ : ∃ R, ((l.drop pos).take x.length == x) = R := ⟨_, rfl⟩
  obtain ⟨N, hN⟩ : ∃ N, l.length = N := ⟨_, rfl⟩
  obtain ⟨K, hK⟩ : ∃ K, x.length = K := ⟨_, rfl⟩
  have hbx := h.box
  rw [hN] at hbx hp hl
  rw [hK] at hxl
  rw [hR, hK]
  have hsub : IntKind.i64.wrap ((N : Int) - pos) = (N : Int) - pos := IntWalk.i64_in _ (by omega)
  have HR := Lib.hid hR
  have HN := Lib.hid hN
  have HK := Lib.hid hK
  have H := Lib.hid h
  have HX := Lib.hid hx
  have HB := Lib.hid hbx
  have kb : ∀ i, w.cell? ⟨p, i, none⟩ = #[Value.slice A N c, .int .i64 pos, .bool f][i]? := fun i => hbx.cell i
  clear hR hN hK h hx hbx
  by_cases hs : (N : Int) - pos < K
  · have hRf : R = false := by
      rw [← HR.out, HK.out]
      apply beq_false_of_ne
      intro e
      have := congrArg List.length e
      rw [List.length_take, List.length_drop, HN.out, HK.out] at this
      omega
    have hd : decide ((N : Int) - pos < (K : Int)) = true := decide_eq_true hs
    subst hRf
    go_enter Try.func67, Try.ntmps67
    go_wp2_with fail
    go_quiet (fail)
    go_wp2_with fail
    go_ret
    exact ⟨rfl, by (repeat' (first | with_reducible exact Only.refl _ _ | with_reducible refine Only.setCell ?_ (Or.inl ?_) _ | with_reducible refine Only.drewN ?_ _ | with_reducible refine Only.drew ?_ | with_reducible refine Only.alloc ?_ _ | (fail)))⟩
  · have hd : decide ((N : Int) - pos < (K : Int)) = false := decide_eq_false hs
    go_enter Try.func67, Try.ntmps67
    go_wp2_with fail
    go_quiet (fail)
    go_wp2_with fail
    go_loopw [5] (fun i wr => ∃ k : Nat, k ≤ K ∧ i = .int .i64 k ∧ (l.drop pos).take k = x.take k ∧ Only Nil w wr) (fun i _ => K - (intOf i).toNat)
    case atStart => exact ⟨0, Nat.zero_le _, rfl, by simp, by (repeat' (first | with_reducible exact Only.refl _ _ | with_reducible refine Only.setCell ?_ (Or.inl ?_) _ | with_reducible refine Only.drewN ?_ _ | with_reducible refine Only.drew ?_ | with_reducible refine Only.alloc ?_ _ | (fail)))⟩
    case round =>
      obtain ⟨k, hk, rfl, hek, hO⟩ := hrel
      have HE := Lib.hid hek
      have HO := Lib.hid hO
      clear hek hO kb
      obtain ⟨w3, rfl⟩ : ∃ w3, w3 = wr := ⟨_, rfl⟩
      by_cases hlt : k < K
      · obtain ⟨P, hP⟩ : ∃ P, pos + k = P := ⟨_, rfl⟩
        have hPN : P < N := by omega
        obtain ⟨cb, hcb⟩ : ∃ b, l[P]? = some b := ⟨l[P]'(by rw [HN.out]; exact hPN), List.getElem?_eq_getElem _⟩
        obtain ⟨cy, hcy⟩ : ∃ b, x[k]? = some b := ⟨x[k]'(by rw [HK.out]; exact hlt), List.getElem?_eq_getElem _⟩
        have hdk : (l.drop pos)[k]? = some cb := by rw [List.getElem?_drop, hP]; exact hcb
        obtain ⟨g, off, hA, _, hc0⟩ := (H.out.onlyNil HO.out).bytes.at_ hcb
        obtain ⟨g', off', hX', _, hc1⟩ := ((HX.out.onlyNil HO.out (Nat.le_refl _)).up HO.out.size).at_ hcy
        have kb : ∀ u, Only Nil w3 u → ∀ i, u.cell? ⟨p, i, none⟩ = #[Value.slice A N c, .int .i64 pos, .bool f][i]? := fun u hu i => (HB.out.onlyNil (HO.out.thenNil hu)).cell i
        have kb0 := kb w3 (Only.refl _ _)
        have kb1 := kb w3.drew (Only.refl _ _).drew
        have c0 : ∀ u, Only Nil w3 u → u.cell? ⟨g, off + P, none⟩ = some (.int .u8 (cb.toNat : Int)) := fun u hu => (hu.cell (lt_of_cell hc0) (fun h => h)).trans hc0
        have c1 : ∀ u, Only Nil w3 u → u.cell? ⟨g', off' + k, none⟩ = some (.int .u8 (cy.toNat : Int)) := fun u hu => (hu.cell (lt_of_cell hc1) (fun h => h)).trans hc1
        have c00 := c0 w3 (Only.refl _ _)
        have c01 := c0 w3.drew (Only.refl _ _).drew
        have c10 := c1 w3 (Only.refl _ _)
        have c11 := c1 w3.drew (Only.refl _ _).drew
        subst hA hX'
        have hadd : IntKind.i64.wrap ((pos : Int) + k) = (P : Int) := by rw [IntWalk.i64_in _ (by omega)]; omega
        have hki : (k : Int) < K := by omega
        have hPi : (P : Int) < N := by omega
        have HDK := Lib.hid hdk
        have HCY := Lib.hid hcy
        clear hcb hcy hdk hc0 hc1 kb c0 c1
        by_cases he : cb = cy
        · subst he
          have hb1 : ((cb.toNat : Int) == (cb.toNat : Int)) = true := by simp
          have HNX := Lib.hid (show (l.drop pos).take (k + 1) = x.take (k + 1) by
            rw [List.take_add_one, List.take_add_one, HDK.out, HCY.out, HE.out])
          go_wp2_with fail
          go_quiet (fail)
          go_wp2_with fail
          go_roundw
          case rel => exact ⟨k + 1, by omega, by go_num, HNX.out, by (repeat' (first | with_reducible exact Only.refl _ _ | with_reducible refine Only.setCell ?_ (Or.inl ?_) _ | with_reducible refine Only.drewN ?_ _ | with_reducible refine Only.drew ?_ | with_reducible refine Only.alloc ?_ _ | (exact HO.out)))⟩
          case measure => simp [intOf]; omega
        · have hne : (cb.toNat : Int) ≠ (cy.toNat : Int) := fun h => he (UInt8.toNat_inj.1 (by omega))
          have hb1 : ((cb.toNat : Int) == (cy.toNat : Int)) = false := beq_false_of_ne hne
          have hb2 : ((cb.toNat : Int) != (cy.toNat : Int)) = true := by simp [hne]
          have hRf : R = false := by
            rw [← HR.out, HK.out]
            apply beq_false_of_ne
            intro e
            have h1 : ((l.drop pos).take K)[k]? = x[k]? := by rw [e]
            rw [List.getElem?_take_of_lt hlt, HDK.out, HCY.out] at h1
            injection h1 with h1
            exact he h1
          subst hRf
          clear he hne
          go_wp2_with fail
          go_quiet (fail)
          go_wp2_with fail
          go_ret
          exact ⟨rfl, by (repeat' (first | with_reducible exact Only.refl _ _ | with_reducible refine Only.setCell ?_ (Or.inl ?_) _ | with_reducible refine Only.drewN ?_ _ | with_reducible refine Only.drew ?_ | with_reducible refine Only.alloc ?_ _ | (exact HO.out)))⟩
      · have hkK : k = K := by omega
        subst hkK
        have hRt : R = true := by
          rw [← HR.out, HK.out, HE.out, List.take_of_length_le (by rw [HK.out]; exact Nat.le_refl _)]
          simp
        subst hRt
        go_wp2_with fail
        go_ret
        exact ⟨rfl, HO.out⟩

end Go.Proofs.Ytkcmdibpndkfbaa

namespace Go.Proofs.Ytkcmdibpndkfbaa
open Go.RowKit

def PeekPost (l : List UInt8) (pos : Nat) (w : World) (e : Ending) (w' : World) : Prop :=
  ∃ (z : Int) (b : Bool), e = .returned (.tuple #[.int .i64 z, .bool b]) ∧ (-9223372036854775808 ≤ z ∧ z ≤ 9223372036854775807) ∧ (∀ y k, dec (l.drop pos) = some (y, k) → z = y ∧ b = true) ∧ (dec (l.drop pos) = none → b = false) ∧ Only Nil w w'

theorem pv_step {a m b W : Nat} : (a + m * b) % W = (a % W + m * (b % W) % W) % W := by
  rw [Nat.add_mod, Nat.mul_mod]
  simp [Nat.mul_mod]

set_option maxRecDepth 100000 in
set_option maxHeartbeats 4000000 in
theorem rfPeek_any (p : Nat) (A : Option Addr) (c : Nat) (l : List UInt8) (pos : Nat) (f : Bool) (w : World) (h : RF w p A c l pos f) (hp : pos ≤ l.length) (hl : l.length ≤ 1099511627776) :
    Calls Try.prog 65 #[.pointer (some ⟨p, 0, none⟩)] w (PeekPost l pos w) := by
  have H := Lib.hid h
  clear h
  obtain ⟨L, hL⟩ : ∃ L, l.drop pos = L := ⟨_, rfl⟩
  obtain ⟨N, hN⟩ : ∃ N, l.length = N := ⟨_, rfl⟩
  have hLN : L.length = N - pos := by rw [← hL, List.length_drop, hN]
  have HL := Lib.hid hL
  have HN := Lib.hid hN
  have HLN := Lib.hid hLN
  have HPL := Lib.hid hp
  have HLL := Lib.hid hl
  rw [hN] at hp hl
  clear hL hN hLN
  unfold PeekPost
  rw [HL.out]
  go_enter Try.func65, Try.ntmps65
  go_wp2_with fail
  go_loopw [4, 5, 6] (fun u pl k wr => ∃ i U PL : Nat, k = .int .i64 i ∧ u = .int .u64 U ∧ pl = .int .u64 PL ∧ i ≤ 10 ∧ pos + i ≤ N ∧ U = pv (L.take i) % 18446744073709551616 ∧ PL = 128 ^ i % 18446744073709551616 ∧ Going L i ∧ Only Nil w wr) (fun _ _ k _ => 10 - (intOf k).toNat)
  case atStart => exact ⟨0, 0, 1, rfl, rfl, rfl, by omega, by omega, rfl, rfl, Going.zero L, Only.refl _ _⟩
  case round =>
    obtain ⟨i, U, PL, rfl, rfl, rfl, hi, hpi, hU, hPL, hg, hO⟩ := hrel
    have HU := Lib.hid hU
    have HPLc := Lib.hid hPL
    have HG := Lib.hid hg
    have HO := Lib.hid hO
    have hU64 : U < 18446744073709551616 := by rw [hU]; exact Nat.mod_lt _ (by omega)
    have hP64 : PL < 18446744073709551616 := by rw [hPL]; exact Nat.mod_lt _ (by omega)
    obtain ⟨P, hP⟩ : ∃ P, pos + i = P := ⟨_, rfl⟩
    rw [hP] at hpi
    have HP := Lib.hid hP
    have hbx := (H.out.onlyNil hO).box
    rw [HN.out] at hbx
    have HBX := Lib.hid hbx
    have kb : ∀ i, wr.cell? ⟨p, i, none⟩ = #[Value.slice A N c, .int .i64 pos, .bool f][i]? := fun i => hbx.cell i
    have hadd : IntKind.i64.wrap ((pos : Int) + i) = (P : Int) := by rw [IntWalk.i64_in _ (by omega)]; omega
    have hadd2 : (pos : Int) + i = (P : Int) := by omega
    clear hU hPL hg hO hP hbx
    obtain ⟨w3, rfl⟩ : ∃ w3, w3 = wr := ⟨_, rfl⟩
    obtain ⟨T, hT⟩ : ∃ T, decide (i < 10 ∧ P < N) = T := ⟨_, rfl⟩
    have HT := Lib.hid hT
    clear hT
    go_upto_region 4 with fail
    go_cut [24] (fun x wd => x = .bool T ∧ Only Nil w3 wd)
    case first =>
      by_cases h10 : i < 10
      · have h10i : (i : Int) < 10 := by omega
        have hd1 : decide ((i : Int) < 10) = true := decide_eq_true h10i
        by_cases hPN : P < N
        · have hd2 : decide ((P : Int) < (N : Int)) = true := by rw [decide_eq_true_eq]; omega
          have hd3 : decide (P < N) = true := decide_eq_true hPN
          have hT : T = true := by rw [← HT.out]; exact decide_eq_true ⟨h10, hPN⟩
          have HTT := Lib.hid hT
          clear hT
          go_quiet (fail)
          go_wp2_with fail
          go_meet
          case rel => exact ⟨by rw [HTT.out], by (repeat' (first | with_reducible exact Only.refl _ _ | with_reducible refine Only.setCell ?_ (Or.inl ?_) _ | with_reducible refine Only.drewN ?_ _ | with_reducible refine Only.drew ?_ | with_reducible refine Only.alloc ?_ _ | (fail)))⟩
        · have hd2 : decide ((P : Int) < (N : Int)) = false := by rw [decide_eq_false_iff_not]; omega
          have hd3 : decide (P < N) = false := decide_eq_false hPN
          have hT : T = false := by rw [← HT.out]; exact decide_eq_false (fun h => hPN h.2)
          have HTT := Lib.hid hT
          clear hT
          go_quiet (fail)
          go_wp2_with fail
          go_meet
          case rel => exact ⟨by rw [HTT.out], by (repeat' (first | with_reducible exact Only.refl _ _ | with_reducible refine Only.setCell ?_ (Or.inl ?_) _ | with_reducible refine Only.drewN ?_ _ | with_reducible refine Only.drew ?_ | with_reducible refine Only.alloc ?_ _ | (fail)))⟩
      · have hd1 : decide ((i : Int) < 10) = false := by rw [decide_eq_false_iff_not]; omega
        have hT : T = false := by rw [← HT.out]; exact decide_eq_false (fun h => h10 h.1)
        have HTT := Lib.hid hT
        clear hT
        go_quiet (fail)
        go_wp2_with fail
        go_meet
        case rel => exact ⟨by rw [HTT.out], by (repeat' (first | with_reducible exact Only.refl _ _ | with_reducible refine Only.setCell ?_ (Or.inl ?_) _ | with_reducible refine Only.drewN ?_ _ | with_reducible refine Only.drew ?_ | with_reducible refine Only.alloc ?_ _ | (fail)))⟩
    case rest =>
    obtain ⟨rfl, hOc⟩ := hcut
    have HBC := Lib.hid (HBX.out.onlyNil hOc)
    have HOC := Lib.hid (HO.out.thenNil hOc)
    clear kb hOc
    cases T
    · go_wp2_with fail
      go_ret2
      have h1 := of_decide_eq_false HT.out
      have hnone : dec L = none := dec_none_going HG.out (by have := HP.out; have := HLN.out; omega)
      exact ⟨0, false, rfl, by omega, (fun y k hd => by rw [hnone] at hd; cases hd), fun _ => rfl, HOC.out⟩
    obtain ⟨h10, hPN⟩ := of_decide_eq_true HT.out
    obtain ⟨cb, hcb⟩ : ∃ b, l[P]? = some b := ⟨l[P]'(by rw [HN.out]; exact hPN), List.getElem?_eq_getElem _⟩
    have hcL : L[i]? = some cb := by rw [← HL.out, List.getElem?_drop, HP.out]; exact hcb
    obtain ⟨g, off, hA, _, hc0⟩ := (H.out.onlyNil HOC.out).bytes.at_ hcb
    subst hA
    have kb0 : ∀ i, wc.cell? ⟨p, i, none⟩ = #[Value.slice (some ⟨g, off, none⟩) N c, .int .i64 pos, .bool f][i]? := fun i => HBC.out.cell i
    have kb1 : ∀ i, wc.drew.cell? ⟨p, i, none⟩ = #[Value.slice (some ⟨g, off, none⟩) N c, .int .i64 pos, .bool f][i]? := fun i => HBC.out.drew.cell i
    have c1 : wc.drew.cell? ⟨g, off + P, none⟩ = some (.int .u8 (cb.toNat : Int)) := hc0
    have hPi : (P : Int) < N := by omega
    have HCL := Lib.hid hcL
    clear hcb hcL
    obtain ⟨w4, rfl⟩ : ∃ w4, w4 = wc := ⟨_, rfl⟩
    go_upto_region 6 with fail
    go_cut [7] (fun x wd => x = .int .u8 (cb.toNat : Int) ∧ Only Nil w4 wd)
    case first =>
      go_quiet (fail)
      go_wp2_with fail
      go_meet
      case rel => exact ⟨rfl, by (repeat' (first | with_reducible exact Only.refl _ _ | with_reducible refine Only.setCell ?_ (Or.inl ?_) _ | with_reducible refine Only.drewN ?_ _ | with_reducible refine Only.drew ?_ | with_reducible refine Only.alloc ?_ _ | (fail)))⟩
    case rest =>
    obtain ⟨rfl, hO6⟩ := hcut
    have HO6 := Lib.hid (HOC.out.thenNil hO6)
    clear hO6 kb0 kb1 c1 hc0 hadd hadd2
    have hc256 := cb.toNat_lt
    obtain ⟨C, hC⟩ : ∃ C, cb.toNat = C := ⟨_, rfl⟩
    rw [hC] at hc256 ⊢
    have HC := Lib.hid hC
    obtain ⟨m, hm⟩ : ∃ m, C % 128 = m := ⟨_, rfl⟩
    obtain ⟨Q, hQ⟩ : ∃ Q, m * PL = Q := ⟨_, rfl⟩
    obtain ⟨V, hV⟩ : ∃ V, (U + Q % 18446744073709551616) % 18446744073709551616 = V := ⟨_, rfl⟩
    have hVp : V = pv (L.take (i + 1)) % 18446744073709551616 := by
      obtain ⟨hil, hie⟩ := List.getElem?_eq_some_iff.1 HCL.out
      rw [List.take_succ_eq_append_getElem hil, pv_snoc, hie, hC, hm, List.length_take, Nat.min_eq_left (by omega), pv_step, ← HU.out, ← HPLc.out, hQ, hV]
    have hm128 : m < 128 := by omega
    have hV64 : V < 18446744073709551616 := by rw [← hV]; exact Nat.mod_lt _ (by omega)
    have hrm : Int.tmod (C : Int) 128 = (m : Int) := by rw [Int.tmod_eq_emod_of_nonneg (by omega)]; omega
    have hw0 : IntKind.u8.wrap (m : Int) = m := IntWalk.u8_in _ (by omega)
    have hw1 : IntKind.u64.wrap (m : Int) = m := IntWalk.u64_in _ (by omega)
    have hmul : (m : Int) * (PL : Int) = (Q : Int) := by rw [← hQ]; push_cast; rfl
    have hw2 : IntKind.u64.wrap (Q : Int) = ((Q % 18446744073709551616 : Nat) : Int) := by rw [IntKind.wrap_u64]; omega
    obtain ⟨Q2, hQ2⟩ : ∃ Q2, Q % 18446744073709551616 = Q2 := ⟨_, rfl⟩
    rw [hQ2] at hw2 hV
    have hw3 : IntKind.u64.wrap ((U : Int) + Q2) = (V : Int) := by rw [IntKind.wrap_u64]; omega
    obtain ⟨PL2, hPL2⟩ : ∃ PL2, PL * 128 % 18446744073709551616 = PL2 := ⟨_, rfl⟩
    have hw4 : IntKind.u64.wrap ((PL : Int) * 128) = (PL2 : Int) := by rw [IntKind.wrap_u64]; omega
    have hPLn : PL2 = 128 ^ (i + 1) % 18446744073709551616 := by rw [← hPL2, HPLc.out, Nat.pow_succ, Nat.mod_mul_mod]
    have HVP := Lib.hid hVp
    have HPLN := Lib.hid hPLn
    have HV64 := Lib.hid hV64
    clear hVp hPLn hC hm hQ hQ2 hPL2 hV
    by_cases hC128 : C < 128
    rotate_left
    · have hci : ¬ (C : Int) < 128 := by omega
      have HNX := Lib.hid (HG.out.more HCL.out (by rw [HC.out]; exact hC128))
      go_wp2_with fail
      go_roundw
      case rel => exact ⟨i + 1, V, PL2, by go_num, rfl, rfl, by omega, by have := HP.out; omega, HVP.out, HPLN.out, HNX.out, HO6.out⟩
      case measure => simp [intOf] <;> omega
    have hci : (C : Int) < 128 := by omega
    obtain ⟨Z, hZ⟩ : ∃ Z, zag V = Z := ⟨_, rfl⟩
    have hZr := zag_range hV64
    rw [hZ] at hZr
    have hq1 : Int.tdiv (V : Int) 2 = ((V / 2 : Nat) : Int) := by rw [Int.tdiv_eq_ediv_of_nonneg (by omega)]; omega
    have hq2 : Int.tmod (V : Int) 2 = ((V % 2 : Nat) : Int) := by rw [Int.tmod_eq_emod_of_nonneg (by omega)]; omega
    obtain ⟨X, hX⟩ : ∃ X, V / 2 = X := ⟨_, rfl⟩
    obtain ⟨Y, hY⟩ : ∃ Y, V % 2 = Y := ⟨_, rfl⟩
    rw [hX] at hq1
    rw [hY] at hq2
    have hw5 : IntKind.u64.wrap (X : Int) = X := IntWalk.u64_in _ (by omega)
    have hw6 : IntKind.i64.wrap (X : Int) = X := IntWalk.i64_in _ (by omega)
    have hw7 : IntKind.u64.wrap (Y : Int) = Y := IntWalk.u64_in _ (by omega)
    have hZX : Z = if Y = 1 then -(X : Int) - 1 else (X : Int) := by rw [← hZ]; unfold zag; rw [hY, hX]
    have HZX := Lib.hid hZX
    have HZ := Lib.hid hZ
    have HZR := Lib.hid hZr
    have hX63 : X ≤ 9223372036854775807 := by omega
    obtain ⟨w6, rfl⟩ : ∃ w6, w6 = wc := ⟨_, rfl⟩
    clear hZX hZ hX hY
    go_upto_if 55 with fail
    go_cut [8] (fun x wd => x = .int .i64 Z ∧ wd = w6)
    case first =>
      by_cases hy : Y = 1
      · subst hy
        have HZZ := Lib.hid (show -(X : Int) - 1 = Z by rw [HZX.out, if_pos rfl])
        go_wp2_with fail
        go_meet
        case rel => exact ⟨by rw [← HZZ.out], rfl⟩
      · have hyb : ((Y : Int) == 1) = false := beq_false_of_ne (by omega)
        have HZZ := Lib.hid (show (X : Int) = Z by rw [HZX.out, if_neg hy])
        go_wp2_with fail
        go_meet
        case rel => exact ⟨by rw [← HZZ.out], rfl⟩
    case rest =>
    obtain ⟨rfl, rfl⟩ := hcut
    have HI := Lib.hid (fun u => Ref.int_any Z u HZR.out)
    unfold BytesPost at HI
    obtain ⟨E, hE⟩ : ∃ E, (encI Z).length = E := ⟨_, rfl⟩
    obtain ⟨ez, hez⟩ : ∃ ez, encI Z = ez := ⟨_, rfl⟩
    rw [hez] at HI hE
    rw [hE] at HI
    have HE := Lib.hid hE
    have HEZ := Lib.hid hez
    have hE10 : E ≤ 10 := by rw [← hE, ← hez]; exact encI_len _ (zig_lt HZR.out)
    have hyes : ∀ y k, dec L = some (y, k) → Z = y ∧ i + 1 = E ∧ (L.take E == ez) = true := fun y k hd => by
      obtain ⟨e1, e2, e3⟩ := dec_going hd HG.out HCL.out (by rw [HC.out]; exact hC128)
      have hVz : V = zig y := by rw [HVP.out, e1, e2, Nat.mod_eq_of_lt e3]
      have hZy : Z = y := by rw [← HZ.out, hVz, zag_zig]
      obtain ⟨h1, h2, h3, h4⟩ := dec_some hd
      have hEk : E = k := by rw [← hE, ← hez, hZy, h1]
      refine ⟨hZy, by omega, ?_⟩
      rw [hEk, h2, ← hez, hZy, List.take_append_of_le_length (by omega), ← h1, List.take_length]
      simp
    have hno : dec L = none → (L.take E == ez) = false := fun hd => by
      cases hb : (L.take E == ez) with
      | false => rfl
      | true =>
        rw [← hE, ← hez] at hb
        rw [dec_of_begin HZR.out hb] at hd
        cases hd
    have HYES := Lib.hid hyes
    have HNO := Lib.hid hno
    clear hE hez hyes hno
    go_wp2_with fail
    refine (HI.out _).mono ?_
    rintro e w7 ⟨A7, c7, rfl, hc7, hown7, hO7⟩
    have HO7 := Lib.hid (HO6.out.thenNil hO7)
    clear hc7 hown7 hO7
    have hi1 : IntKind.i64.wrap ((i : Int) + 1) = (i : Int) + 1 := IntWalk.i64_in _ (by omega)
    by_cases hq : E = i + 1
    rotate_left
    · have hqb : ((E : Int) == (i : Int) + 1) = false := beq_false_of_ne (by omega)
      go_wp2_with fail
      go_ret2
      exact ⟨Z, false, rfl, HZR.out, (fun y k hd => by have := (HYES.out y k hd).2.1; omega), fun _ => rfl, HO7.out⟩
    have hqb : ((E : Int) == (i : Int) + 1) = true := by rw [hq]; simp
    have HQ := Lib.hid hq
    clear hq
    go_wp2_with fail
    refine (HI.out _).mono ?_
    rintro e w8 ⟨A8, c8, rfl, hc8, hown8, hO8⟩
    have hbs : Bs w8 w8.heap.size A8 ez := (Bs.of_own (by rw [HE.out] at *; exact hown8)).1
    have hRF := (H.out.onlyNil HO7.out).onlyNil hO8
    have HBG := Lib.hid (begins_any p (some ⟨g, off, none⟩) c l pos f A8 c8 ez w8 hRF hbs HPL.out HLL.out (by rw [HE.out]; omega))
    rw [HE.out, HL.out] at HBG
    have HO8 := Lib.hid (HO7.out.thenNil hO8)
    obtain ⟨R, hR⟩ : ∃ R, (L.take E == ez) = R := ⟨_, rfl⟩
    rw [hR] at HBG HYES HNO
    clear hc8 hown8 hO8 hbs hRF hR
    go_wp2_with fail
    refine HBG.out.mono ?_
    rintro e w9 ⟨rfl, hO9⟩
    have HO9 := Lib.hid (HO8.out.thenNil hO9)
    clear hO9
    go_wp2_with fail
    go_ret2
    exact ⟨Z, R, rfl, HZR.out, (fun y k hd => ⟨(HYES.out y k hd).1, (HYES.out y k hd).2.2⟩), fun hd => HNO.out hd, HO9.out⟩

end Go.Proofs.Ytkcmdibpndkfbaa

namespace Go.Proofs.Ytkcmdibpndkfbaa
open Go.RowKit

def RfIntPost (r : Int × Nat × Bool) (p : Nat) (A : Option Addr) (c : Nat) (l : List UInt8) (w : World) (e : Ending) (w' : World) : Prop :=
  e = .returned (.int .i64 r.1) ∧ RF w' p A c l r.2.1 r.2.2 ∧ Only (One p) w w'

theorem rInt_pos {l : List UInt8} {pos : Nat} (f : Bool) (hp : pos ≤ l.length) : (rInt l pos f).2.1 ≤ l.length := by
  unfold rInt
  split
  · exact hp
  · split
    · rename_i hd
      have := dec_len hd
      rw [List.length_drop] at this
      dsimp only
      omega
    · exact hp
theorem rBnd_pos {lo hi : Int} {l : List UInt8} {pos : Nat} (f : Bool) (hp : pos ≤ l.length) : (rBnd lo hi l pos f).2.1 ≤ l.length := by
  unfold rBnd
  split
  · exact hp
  · split
    · rename_i hd
      have := dec_len hd
      rw [List.length_drop] at this
      split
      · dsimp only; omega
      · exact hp
    · exact hp
theorem decB_len {most : Int} {l x : List UInt8} {n : Nat} (h : decB most l = some (x, n)) : n ≤ l.length := by
  unfold decB at h
  split at h
  · rename_i hd
    have := dec_len hd
    split at h
    · injection h with h
      injection h with _ h
      omega
    · cases h
  · cases h
theorem rByt_pos {most : Int} {l : List UInt8} {pos : Nat} (f : Bool) (hp : pos ≤ l.length) : (rByt most l pos f).2.1 ≤ l.length := by
  unfold rByt
  split
  · exact hp
  · split
    · rename_i hd
      have := decB_len hd
      rw [List.length_drop] at this
      dsimp only
      omega
    · exact hp

set_option maxRecDepth 100000 in
set_option maxHeartbeats 2000000 in
theorem rfInt_any (p : Nat) (A : Option Addr) (c : Nat) (l : List UInt8) (pos : Nat) (f : Bool) (w : World) (h : RF w p A c l pos f) (hp : pos ≤ l.length) (hl : l.length ≤ 1099511627776) :
    Calls Try.prog 61 #[.pointer (some ⟨p, 0, none⟩)] w (RfIntPost (rInt l pos f) p A c l w) := by
  have HPK := Lib.hid (rfPeek_any p A c l pos f w h hp hl)
  have H := Lib.hid h
  have HPL := Lib.hid hp
  have HLL := Lib.hid hl
  clear h hp hl
  obtain ⟨r, hr⟩ : ∃ r, rInt l pos f = r := ⟨_, rfl⟩
  rw [hr]
  have HRR := Lib.hid hr
  clear hr
  go_enter Try.func61, Try.ntmps61
  go_wp2_with fail
  refine HPK.out.mono ?_
  rintro e w1 ⟨z, b, rfl, hz, hy, hn, hO1⟩
  obtain ⟨N, hN⟩ : ∃ N, l.length = N := ⟨_, rfl⟩
  have hbx := (H.out.onlyNil hO1).box
  have HB := Lib.hid hbx
  rw [hN] at hbx
  have kb : ∀ i, w1.cell? ⟨p, i, none⟩ = #[Value.slice A N c, .int .i64 pos, .bool f][i]? := fun i => hbx.cell i
  have fb : ∀ i, w1.frozen? ⟨p, i, none⟩ = false := fun i => hbx.frozen i
  have HRF := Lib.hid (H.out.onlyNil hO1)
  have HY := Lib.hid hy
  have HNO := Lib.hid hn
  have HZ := Lib.hid hz
  have HO1 := Lib.hid hO1
  have HN := Lib.hid hN
  clear hy hn hz hO1 hN hbx
  have hfail : (f = true ∨ b = false) → r = (0, pos, true) := fun hh => by
    rw [← HRR.out]
    unfold rInt
    cases f
    · rw [if_neg (by simp)]
      cases hd : dec (l.drop pos) with
      | none => rfl
      | some q =>
        obtain ⟨y, k⟩ := q
        have := (HY.out y k hd).2
        rcases hh with h1 | h1
        · cases h1
        · rw [this] at h1; cases h1
    · rw [if_pos rfl]
  have hfin : r = (0, pos, true) → ∀ u, Only (One p) w1 u → Blk u p 81 #[.slice A l.length c, .int .i64 pos, .bool true] → RfIntPost r p A c l w (.returned (.int .i64 0)) u := fun hr u hu hb => by
    rw [hr]
    exact ⟨rfl, HRF.out.move hu hb, HO1.out.any.then_ hu⟩
  have HFIN := Lib.hid hfin
  cases f
  rotate_left
  · have hr0 := hfail (.inl rfl)
    have HR0 := Lib.hid hr0
    clear hfail hfin hr0
    go_wp2_with fail
    go_ret
    exact HFIN.out HR0.out _ (by (repeat' (first | with_reducible exact Only.refl _ _ | with_reducible refine Only.setCell ?_ (Or.inl ?_) _ | with_reducible refine Only.drewN ?_ _ | with_reducible refine Only.drew ?_ | with_reducible refine Only.alloc ?_ _ | (exact rfl)))) (HB.out.set_ 2 (.bool true))
  cases b
  · have hr0 := hfail (.inr rfl)
    have HR0 := Lib.hid hr0
    clear hfail hfin hr0
    go_wp2_with fail
    go_ret
    exact HFIN.out HR0.out _ (by (repeat' (first | with_reducible exact Only.refl _ _ | with_reducible refine Only.setCell ?_ (Or.inl ?_) _ | with_reducible refine Only.drewN ?_ _ | with_reducible refine Only.drew ?_ | with_reducible refine Only.alloc ?_ _ | (exact rfl)))) (HB.out.set_ 2 (.bool true))
  clear hfail hfin HFIN
  cases hd : dec (l.drop pos) with
  | none => have := HNO.out hd; cases this
  | some q =>
  obtain ⟨y, k⟩ := q
  obtain ⟨rfl, _⟩ := HY.out y k hd
  have hk := (dec_some hd).1
  have hkl := dec_len hd
  rw [List.length_drop, HN.out] at hkl
  have hr1 : r = (z, pos + k, false) := by
    rw [← HRR.out]
    unfold rInt
    rw [if_neg (by simp), hd]
  have hpN : pos ≤ N := by rw [← HN.out]; exact HPL.out
  have hN40 : N ≤ 1099511627776 := by rw [← HN.out]; exact HLL.out
  have HI := Lib.hid (fun u => Ref.int_any z u HZ.out)
  unfold BytesPost at HI
  obtain ⟨ez, hez⟩ : ∃ ez, encI z = ez := ⟨_, rfl⟩
  rw [hez] at HI hk
  have HK := Lib.hid hk
  have HR1 := Lib.hid hr1
  have HB0 := Lib.hid HB.out
  have hlt := HB.out.lt
  have HLT := Lib.hid hlt
  have hw1 : IntKind.i64.wrap ((pos : Int) + k) = ((pos + k : Nat) : Int) := by rw [IntWalk.i64_in _ (by omega)]; omega
  have HW1 := Lib.hid hw1
  clear hd hk hr1 hez hlt
  rw [HN.out] at HB
  go_wp2_with fail
  have HIN : Hid (∀ (L : Nat → Bool) (vs : Nat → Value) (u u' : World), Only Nil u u' → (fun _ _ u => Only Nil w1 u) L vs u → (fun _ _ u => Only Nil w1 u) L vs u') := Lib.hid (fun L vs u u' hO hI => by
    exact hI.thenNil hO)
  refine wp_region_any (by kernel_rfl) ?_
  change wpAny _ _ _ _ _ _ _ (World.drew _)
  refine take_first (i := 0) (v := ?v0_3) (some 21) rfl (by rfl) (by kernel_rfl) (by kernel_rfl) (by kernel_rfl) (fun _ _ _ h => h) (Or.inl ⟨by rfl, ?hy0_3⟩) ?rest0_3
  case hy0_3 => (intro w; go_simp <;> with_reducible rfl)
  refine take_first (i := 1) (v := ?v1_3) (some 22) rfl (by rfl) (by kernel_rfl) (by kernel_rfl) (by kernel_rfl) (fun _ _ _ h => h) (Or.inl ⟨by rfl, ?hy1_3⟩) ?rest1_3
  case hy1_3 => (intro w; go_simp <;> with_reducible rfl)
  refine take_first (i := 2) (v := ?v2_3) (some 23) rfl (by rfl) (by kernel_rfl) (by kernel_rfl) (by kernel_rfl) (fun _ _ _ h => h) (Or.inl ⟨by rfl, ?hy2_3⟩) ?rest2_3
  case hy2_3 => (intro w; go_simp <;> with_reducible rfl)
  refine take_first (i := 4) (v := ?v4_3) (some 25) rfl (by rfl) (by kernel_rfl) (by kernel_rfl) (by kernel_rfl) (fun _ _ _ h => h) (Or.inl ⟨by rfl, ?hy4_3⟩) ?rest4_3
  case hy4_3 => (intro w; go_simp <;> with_reducible rfl)
  refine wpAny_inv2 (X := [(3, some 24, []), (5, some 26, []), (6, some 27, [5]), (7, some 28, [3, 6])]) (n := 4) (g := 3) (m := 8) (l0 := [true, true, true, false, true, false, false, false, false, false, false]) (T := Nil) (Ps := [Any, Any, Any, Cst (.int .i64 pos), Any, OwnB 5 w1.heap.size ez, Cst (.int .i64 k), Cst (.int .i64 ((pos + k : Nat) : Int))])
    (I := fun _ _ u => Only Nil w1 u)
    (by kernel_rfl) rfl (by kernel_rfl) (by kernel_rfl) (by kernel_rfl) rfl ?h0_3 ?st_3 ?i0_3 ?step_3 ?fin_3
  case h0_3 =>
    intro j hj v u
    match j, hj with
    | 0, hj => trivial
    | 1, hj => trivial
    | 2, hj => trivial
    | 3, hj => exact absurd hj (by decide)
    | 4, hj => trivial
    | 5, hj => exact absurd hj (by decide)
    | 6, hj => exact absurd hj (by decide)
    | 7, hj => exact absurd hj (by decide)
    | 8, hj => exact absurd hj (by decide)
    | 9, hj => exact absurd hj (by decide)
    | 10, hj => exact absurd hj (by decide)
    | n + 11, hj => exact absurd hj (by simp)
  case st_3 =>
    have hT : ∀ x, (Nil) x → x < 0 := fun x h => h.elim
    intro p hp
    simp only [List.mem_cons, List.not_mem_nil, or_false] at hp
    rcases hp with rfl | rfl | rfl | rfl | rfl | rfl | rfl | rfl <;> first | exact Stays.cst _ | exact Stays.own hT | exact Stays.emp hT | exact Stays.any | exact Stays.ownNil
  case i0_3 =>
    intro vs
    exact (Only.refl _ _).drew
  case step_3 =>
    intro x hx L vs u hI hA h0 hd
    simp only [List.mem_cons, List.not_mem_nil, or_false] at hx
    rcases hx with rfl | rfl | rfl | rfl
    · refine inv_step _ (by rfl) (by rfl) (fun K' hK => ?_)
      simp only [putAll, Act.put, List.setIfInBounds_toArray, List.set_cons_succ, List.set_cons_zero] at hK ⊢
      have ks := fun i => (HB.out.onlyNil hI).cell i
      go_simp
      exact hK _ _ ⟨Only.refl _ _, hI, rfl⟩
    · refine inv_step _ (by rfl) (by rfl) (fun K' hK => ?_)
      simp only [putAll, Act.put, List.setIfInBounds_toArray, List.set_cons_succ, List.set_cons_zero] at hK ⊢
      go_simp
      go_at_call 49
      refine (HI.out _).mono ?_
      rintro x u2 ⟨A2, c2, rfl, hc2, ho2, hO2⟩
      go_simp
      exact hK _ _ ⟨hO2, HIN.out L vs _ _ hO2 hI, ⟨A2, c2, rfl, hc2, own_base ho2 hI.size⟩⟩
    · refine inv_step _ (by rfl) (by rfl) (fun K' hK => ?_)
      simp only [putAll, Act.put, List.setIfInBounds_toArray, List.set_cons_succ, List.set_cons_zero] at hK ⊢
      obtain ⟨A2, c2, e5, hc2, ho2⟩ := hA 5 (hd 5 (by simp))
      rw [HK.out] at e5
      simp only [e5] at hK
      go_simp
      exact hK _ _ ⟨Only.refl _ _, hI, rfl⟩
    · refine inv_step _ (by rfl) (by rfl) (fun K' hK => ?_)
      simp only [putAll, Act.put, List.setIfInBounds_toArray, List.set_cons_succ, List.set_cons_zero] at hK ⊢
      have e3 := hA 3 (hd 3 (by simp))
      change vs 3 = (.int .i64 pos) at e3
      have e6 := hA 6 (hd 6 (by simp))
      change vs 6 = (.int .i64 k) at e6
      simp only [e3, e6] at hK
      have hw1 := HW1.out
      go_simp
      exact hK _ _ ⟨Only.refl _ _, hI, by first | rfl | (congr 1; omega)⟩
  case fin_3 =>
    intro L vs u hI hL hA
    simp only [putAll, Act.put, List.setIfInBounds_toArray, List.set_cons_succ, List.set_cons_zero, List.drop_succ_cons, List.drop_zero]
    have e7 := hA 7 (by omega)
    change vs 7 = .int .i64 ((pos + k : Nat) : Int) at e7
    simp only [e7]
    have hbu := HB.out.onlyNil hI
    have ku : ∀ i, u.cell? ⟨p, i, none⟩ = #[Value.slice A N c, .int .i64 pos, .bool false][i]? := fun i => hbu.cell i
    have fu : ∀ i, u.frozen? ⟨p, i, none⟩ = false := fun i => hbu.frozen i
    have HBU := Lib.hid hbu
    have HI2 := Lib.hid hI
    clear hA hL hI e7 hbu kb fb
    go_wp2_with fail
    go_ret
    have hO2 : Only (One p) u (u.setCell ⟨p, 1, none⟩ (.int .i64 ((pos + k : Nat) : Int))) := by (repeat' (first | with_reducible exact Only.refl _ _ | with_reducible refine Only.setCell ?_ (Or.inl ?_) _ | with_reducible refine Only.drewN ?_ _ | with_reducible refine Only.drew ?_ | with_reducible refine Only.alloc ?_ _ | (exact rfl)))
    have hb2 := HBU.out.set_ 1 (.int .i64 ((pos + k : Nat) : Int))
    rw [← HN.out] at hb2
    have hfin : RfIntPost r p A c l w (.returned (.int .i64 z)) (u.setCell ⟨p, 1, none⟩ (.int .i64 ((pos + k : Nat) : Int))) := by
      rw [HR1.out]
      exact ⟨rfl, (HRF.out.onlyNil HI2.out).move hO2 hb2, (HO1.out.thenNil HI2.out).any.then_ hO2⟩
    exact hfin

set_option maxRecDepth 100000 in
set_option maxHeartbeats 2000000 in
theorem rfBnd_any (lo hi : Int) (p : Nat) (A : Option Addr) (c : Nat) (l : List UInt8) (pos : Nat) (f : Bool) (w : World) (h : RF w p A c l pos f) (hp : pos ≤ l.length) (hl : l.length ≤ 1099511627776) :
    Calls Try.prog 66 #[.pointer (some ⟨p, 0, none⟩), .int .i64 lo, .int .i64 hi] w (RfIntPost (rBnd lo hi l pos f) p A c l w) := by
  have HPK := Lib.hid (rfPeek_any p A c l pos f w h hp hl)
  have H := Lib.hid h
  have HPL := Lib.hid hp
  have HLL := Lib.hid hl
  clear h hp hl
  obtain ⟨r, hr⟩ : ∃ r, rBnd lo hi l pos f = r := ⟨_, rfl⟩
  rw [hr]
  have HRR := Lib.hid hr
  clear hr
  go_enter Try.func66, Try.ntmps66
  go_wp2_with fail
  refine HPK.out.mono ?_
  rintro e w1 ⟨z, b, rfl, hz, hy, hn, hO1⟩
  have HRF := Lib.hid (H.out.onlyNil hO1)
  have HBX := Lib.hid HRF.out.box
  have kb : ∀ i, w1.cell? ⟨p, i, none⟩ = #[Value.slice A l.length c, .int .i64 pos, .bool f][i]? := fun i => HBX.out.cell i
  have fb : ∀ i, w1.frozen? ⟨p, i, none⟩ = false := fun i => HBX.out.frozen i
  have HY := Lib.hid hy
  have HNO := Lib.hid hn
  have HO1 := Lib.hid hO1
  clear hy hn hz hO1
  -- the bad ways: the reader fails, and Int answers 0
  have hbad : (∀ y k, dec (l.drop pos) = some (y, k) → ¬ (lo ≤ y ∧ y ≤ hi)) → r = (0, pos, true) := fun hh => by
    rw [← HRR.out]
    unfold rBnd
    split
    · rfl
    · cases hd : dec (l.drop pos) with
      | none => rfl
      | some q =>
        obtain ⟨y, k⟩ := q
        dsimp only
        rw [if_neg (hh y k hd)]
  have hset : RF (w1.setCell ⟨p, 2, none⟩ (.bool true)) p A c l pos true := HRF.out.move (by (repeat' (first | with_reducible exact Only.refl _ _ | with_reducible refine Only.setCell ?_ (Or.inl ?_) _ | with_reducible refine Only.drewN ?_ _ | with_reducible refine Only.drew ?_ | with_reducible refine Only.alloc ?_ _ | (exact rfl)))) (HBX.out.set_ 2 (.bool true))
  have hcall := rfInt_any p A c l pos true _ hset HPL.out HLL.out
  have hr0 : rInt l pos true = (0, pos, true) := by unfold rInt; rw [if_pos rfl]
  rw [hr0] at hcall
  have HCALL := Lib.hid hcall
  have HOS : Hid (Only (One p) w (w1.setCell ⟨p, 2, none⟩ (.bool true))) := Lib.hid (HO1.out.any.then_ (by (repeat' (first | with_reducible exact Only.refl _ _ | with_reducible refine Only.setCell ?_ (Or.inl ?_) _ | with_reducible refine Only.drewN ?_ _ | with_reducible refine Only.drew ?_ | with_reducible refine Only.alloc ?_ _ | (exact rfl)))))
  have HBAD := Lib.hid hbad
  clear hset hcall hr0 hbad
  by_cases hg : b = true ∧ lo ≤ z ∧ z ≤ hi
  · obtain ⟨hb, h1, h2⟩ := hg
    subst hb
    have hg1 : ¬ z < lo := by omega
    have hg2 : ¬ hi < z := by omega
    have HI := Lib.hid (rfInt_any p A c l pos f w1 HRF.out HPL.out HLL.out)
    have hri : rInt l pos f = r := by
      rw [← HRR.out]
      unfold rInt rBnd
      split
      · rfl
      · cases hd : dec (l.drop pos) with
        | none => rfl
        | some q =>
          obtain ⟨y, k⟩ := q
          obtain ⟨rfl, _⟩ := HY.out y k hd
          dsimp only
          rw [if_pos ⟨h1, h2⟩]
    rw [hri] at HI
    clear hri kb fb
    go_wp2_with fail
    refine HI.out.mono ?_
    rintro e w2 ⟨rfl, hR, hO⟩
    have HR := Lib.hid hR
    have HO := Lib.hid hO
    clear hR hO
    go_wp2_with fail
    go_ret
    exact ⟨rfl, HR.out, HO1.out.any.then_ HO.out⟩
  · have hr1 : r = (0, pos, true) := HBAD.out (fun y k hd hh => by
      obtain ⟨rfl, hb⟩ := HY.out y k hd
      exact hg ⟨hb, hh⟩)
    have HR1 := Lib.hid hr1
    clear hr1
    have hlast : ∀ (e : Ending) (w2 : World), RfIntPost (0, pos, true) p A c l (w1.setCell ⟨p, 2, none⟩ (.bool true)) e w2 → RfIntPost r p A c l w e w2 := fun e w2 hh => by
      rw [HR1.out]
      exact ⟨hh.1, hh.2.1, HOS.out.then_ hh.2.2⟩
    have HLAST := Lib.hid hlast
    clear hlast
    cases b
    · go_wp2_with fail
      refine HCALL.out.mono ?_
      rintro e w2 hh
      have HH := Lib.hid (HLAST.out _ _ hh)
      obtain ⟨rfl, _, _⟩ := hh
      go_wp2_with fail
      go_ret
      exact HH.out
    · by_cases h1 : z < lo
      · go_wp2_with fail
        refine HCALL.out.mono ?_
        rintro e w2 hh
        have HH := Lib.hid (HLAST.out _ _ hh)
        obtain ⟨rfl, _, _⟩ := hh
        go_wp2_with fail
        go_ret
        exact HH.out
      · have h2 : hi < z := by
          rcases Int.lt_or_le hi z with h2 | h2
          · exact h2
          · exact absurd ⟨rfl, by omega, h2⟩ hg
        clear hg
        go_wp2_with fail
        refine HCALL.out.mono ?_
        rintro e w2 hh
        have HH := Lib.hid (HLAST.out _ _ hh)
        obtain ⟨rfl, _, _⟩ := hh
        go_wp2_with fail
        go_ret
        exact HH.out

def RfBytPost (r : List UInt8 × Nat × Bool) (p : Nat) (A : Option Addr) (c : Nat) (l : List UInt8) (w : World) (e : Ending) (w' : World) : Prop :=
  ∃ Ax cx, e = .returned (.slice Ax r.1.length cx) ∧ r.1.length ≤ cx ∧ w'.ownsRow w.heap.size 5 1 (.slice Ax r.1.length cx) r.1.length (bcells r.1) ∧ RF w' p A c l r.2.1 r.2.2 ∧ Only (One p) w w'

set_option maxRecDepth 100000 in
set_option maxHeartbeats 2000000 in
theorem rfByt_any (most : Int) (p : Nat) (A : Option Addr) (c : Nat) (l : List UInt8) (pos : Nat) (f : Bool) (w : World) (h : RF w p A c l pos f) (hp : pos ≤ l.length) (hl : l.length ≤ 1099511627776) (hc : c ≤ maxLen) :
    Calls Try.prog 62 #[.pointer (some ⟨p, 0, none⟩), .int .i64 most] w (RfBytPost (rByt most l pos f) p A c l w) := by
  obtain ⟨i0, hi0, hz0, hz1, hz2⟩ := info_parts byte_info
  unfold maxLen at hc
  have HBN := Lib.hid (rfBnd_any 0 most p A c l pos f w h hp hl)
  have hq := rBnd_pos (lo := 0) (hi := most) f hp
  have H := Lib.hid h
  have HPL := Lib.hid hp
  have HLL := Lib.hid hl
  have HBX := Lib.hid h.box
  have kb : ∀ i, w.cell? ⟨p, i, none⟩ = #[Value.slice A l.length c, .int .i64 pos, .bool f][i]? := fun i => HBX.out.cell i
  obtain ⟨r, hr⟩ : ∃ r, rByt most l pos f = r := ⟨_, rfl⟩
  rw [hr]
  have HRR := Lib.hid hr
  obtain ⟨s, hs⟩ : ∃ s, rBnd 0 most l pos f = s := ⟨_, rfl⟩
  rw [hs] at HBN hq
  have HS := Lib.hid hs
  obtain ⟨v, P, g⟩ := s
  dsimp only at hq
  obtain ⟨N, hN⟩ : ∃ N, l.length = N := ⟨_, rfl⟩
  have HN := Lib.hid hN
  rw [hN] at hq hp hl
  have hNc : N ≤ c := by rw [← hN]; exact h.cap
  clear h hr hs hN
  -- when it fails
  have hbad : (g = true ∨ ¬ v ≤ (N : Int) - P) → r = ([], pos, true) := fun hh => by
    rw [← HRR.out]
    have hs := HS.out
    unfold rByt decB
    unfold rBnd at hs
    cases f
    · rw [if_neg (by simp)] at hs ⊢
      cases hd : dec (l.drop pos) with
      | none => rfl
      | some q =>
        obtain ⟨y, k⟩ := q
        have hkl := dec_len hd
        rw [hd] at hs
        dsimp only at hs ⊢
        rw [List.length_drop, HN.out] at hkl ⊢
        by_cases hy : 0 ≤ y ∧ y ≤ most
        · rw [if_pos hy] at hs
          injection hs with e1 e2
          injection e2 with e2 e3
          subst e1 e2 e3
          rw [if_neg (by rcases hh with h | h; cases h; omega)]
        · rw [if_neg (fun h => hy ⟨h.1, h.2.1⟩)]
    · rw [if_pos rfl]
  have HBAD := Lib.hid hbad
  clear hbad
  go_enter Try.func62, Try.ntmps62
  go_wp2_with fail
  refine HBN.out.mono ?_
  rintro e w1 ⟨rfl, hR1, hO1⟩
  dsimp only at hR1 ⊢
  have HR1 := Lib.hid hR1
  have hbx := hR1.box
  rw [HN.out] at hbx
  have HB1 := Lib.hid hbx
  have HO1 := Lib.hid hO1
  clear hR1 hO1 kb hbx
  have kb : ∀ i, w1.cell? ⟨p, i, none⟩ = #[Value.slice A N c, .int .i64 P, .bool g][i]? := fun i => HB1.out.cell i
  have kd : ∀ i, w1.drew.cell? ⟨p, i, none⟩ = #[Value.slice A N c, .int .i64 P, .bool g][i]? := fun i => HB1.out.drew.cell i
  have hsub : IntKind.i64.wrap ((N : Int) - P) = (N : Int) - P := IntWalk.i64_in _ (by omega)
  obtain ⟨w2, rfl⟩ : ∃ w2, w2 = w1 := ⟨_, rfl⟩
  obtain ⟨T, hT⟩ : ∃ T, (g || decide ((N : Int) - P < v)) = T := ⟨_, rfl⟩
  go_upto_region 3 with fail
  go_cut [31] (fun x wd => x = .bool T ∧ Only Nil w2 wd)
  case first =>
    cases g
    · cases hb : decide ((N : Int) - P < v)
      · have HT := Lib.hid (show T = false by rw [← hT, hb]; rfl)
        clear hT
        go_quiet (fail)
        go_wp2_with fail
        go_meet
        case rel => exact ⟨by rw [HT.out], by (repeat' (first | with_reducible exact Only.refl _ _ | with_reducible refine Only.setCell ?_ (Or.inl ?_) _ | with_reducible refine Only.drewN ?_ _ | with_reducible refine Only.drew ?_ | with_reducible refine Only.alloc ?_ _ | (fail)))⟩
      · have HT := Lib.hid (show T = true by rw [← hT, hb]; rfl)
        clear hT
        go_quiet (fail)
        go_wp2_with fail
        go_meet
        case rel => exact ⟨by rw [HT.out], by (repeat' (first | with_reducible exact Only.refl _ _ | with_reducible refine Only.setCell ?_ (Or.inl ?_) _ | with_reducible refine Only.drewN ?_ _ | with_reducible refine Only.drew ?_ | with_reducible refine Only.alloc ?_ _ | (fail)))⟩
    · have HT := Lib.hid (show T = true by rw [← hT]; rfl)
      clear hT
      go_quiet (fail)
      go_wp2_with fail
      go_meet
      case rel => exact ⟨by rw [HT.out], by (repeat' (first | with_reducible exact Only.refl _ _ | with_reducible refine Only.setCell ?_ (Or.inl ?_) _ | with_reducible refine Only.drewN ?_ _ | with_reducible refine Only.drew ?_ | with_reducible refine Only.alloc ?_ _ | (fail)))⟩
  case rest =>
  obtain ⟨rfl, hO3⟩ := hcut
  have HT := Lib.hid hT
  have HB3 := Lib.hid (HB1.out.onlyNil hO3)
  have HR3 := Lib.hid (HR1.out.onlyNil hO3)
  have HO3 := Lib.hid (HO1.out.thenNil hO3)
  clear kb kd hO3 hT
  have kb : ∀ i, wc.cell? ⟨p, i, none⟩ = #[Value.slice A N c, .int .i64 P, .bool g][i]? := fun i => HB3.out.cell i
  have fb : ∀ i, wc.frozen? ⟨p, i, none⟩ = false := fun i => HB3.out.frozen i
  cases T
  rotate_left
  · have hr0 := HBAD.out (by
      have := HT.out
      cases g
      · right
        have h1 : (N : Int) - P < v := by simpa using this
        omega
      · left; rfl)
    have HR0 := Lib.hid hr0
    clear hr0
    go_wp2_with fail
    go_ret
    have hfin : ∀ u, Only (One p) wc u → Blk u p 81 #[.slice A N c, .int .i64 pos, .bool true] → RfBytPost r p A c l w (.returned (.slice none 0 0)) u := fun u hu hb => by
      rw [← HN.out] at hb
      rw [HR0.out]
      exact ⟨none, 0, rfl, Nat.le_refl _, World.ownsRow_nil _ _ _ _, HR3.out.move hu hb, HO3.out.then_ hu⟩
    refine hfin _ (by (repeat' (first | with_reducible exact Only.refl _ _ | with_reducible refine Only.setCell ?_ (Or.inl ?_) _ | with_reducible refine Only.drewN ?_ _ | with_reducible refine Only.drew ?_ | with_reducible refine Only.alloc ?_ _ | (exact rfl)))) ((HB3.out.set_ 2 (.bool true)).set_ 1 (.int .i64 pos))
  · have hg : g = false := by
      have := HT.out
      cases g
      · rfl
      · cases this
    subst hg
    have hvN : v ≤ (N : Int) - P := by
      have := HT.out
      simp at this
      omega
    have hs := HS.out
    unfold rBnd at hs
    cases f
    rotate_left
    · rw [if_pos rfl] at hs
      injection hs with _ hs
      injection hs with _ hs
      cases hs
    rw [if_neg (by simp)] at hs
    cases hd : dec (l.drop pos) with
    | none =>
      rw [hd] at hs
      injection hs with _ hs
      injection hs with _ hs
      cases hs
    | some q =>
    obtain ⟨y, k⟩ := q
    have hkl := dec_len hd
    rw [List.length_drop, HN.out] at hkl
    rw [hd] at hs
    dsimp only at hs
    by_cases hy : 0 ≤ y ∧ y ≤ most
    rotate_left
    · rw [if_neg hy] at hs
      injection hs with _ hs
      injection hs with _ hs
      cases hs
    rw [if_pos hy] at hs
    injection hs with e1 e2
    injection e2 with e2 _
    subst e1
    obtain ⟨K, rfl⟩ : ∃ K : Nat, y = K := ⟨y.toNat, by omega⟩
    obtain ⟨x, hx⟩ : ∃ x, (l.drop P).take K = x := ⟨_, rfl⟩
    have hxl : x.length = K := by rw [← hx, List.length_take, List.length_drop, HN.out]; omega
    have hr1 : r = (x, P + K, false) := by
      rw [← HRR.out]
      unfold rByt decB
      rw [if_neg (by simp), hd]
      dsimp only
      rw [List.length_drop, HN.out, if_pos (by omega), List.drop_drop, e2, Int.toNat_natCast, hx]
      dsimp only
      rw [← Nat.add_assoc, e2]
    have HR1' := Lib.hid hr1
    have HXL := Lib.hid hxl
    obtain ⟨Q, hQ⟩ : ∃ Q, P + K = Q := ⟨_, rfl⟩
    have hQN : Q ≤ N := by omega
    have hQP : Q - P = K := by omega
    have hw1 : IntKind.i64.wrap ((P : Int) + K) = (Q : Int) := by rw [IntWalk.i64_in _ (by omega)]; omega
    have hw2 : IntKind.i64.wrap ((Q : Int) - K) = (P : Int) := by rw [IntWalk.i64_in _ (by omega)]; omega
    have hPQ : (P : Int) ≤ Q := by omega
    have hQc : (Q : Int) ≤ c := by omega
    obtain ⟨Ax, hAx⟩ : ∃ Ax, (if c = P then A else Option.map (fun x => x.add P) A) = Ax := ⟨_, rfl⟩
    have hcut : ∀ u B, Bs u B A l → Bs u B Ax x := fun u B h => by
      have h1 := (h.take Q (by rw [HN.out]; exact hQN)).cut (k := P) (cap := c) (by rw [List.length_take, HN.out]; omega) (by rw [List.length_take, HN.out]; omega)
      rw [hAx, List.drop_take, hQP, hx] at h1
      exact h1
    have HCUT := Lib.hid hcut
    have HQ := Lib.hid hQ
    have hK40 : K ≤ 1099511627776 := by omega
    have HK40 := Lib.hid hK40
    obtain ⟨C, hC⟩ : ∃ C, c - P = C := ⟨_, rfl⟩
    clear hd hkl hx hxl hr1 hcut hQ e2 hK40
    go_upto_region 7 with fail
    obtain ⟨w4, hw4⟩ : ∃ w4, wc.setCell ⟨p, 1, none⟩ (.int .i64 (Q : Int)) = w4 := ⟨_, rfl⟩
    have hO4 : Only (One p) wc w4 := by rw [← hw4]; (repeat' (first | with_reducible exact Only.refl _ _ | with_reducible refine Only.setCell ?_ (Or.inl ?_) _ | with_reducible refine Only.drewN ?_ _ | with_reducible refine Only.drew ?_ | with_reducible refine Only.alloc ?_ _ | (exact rfl)))
    have hb4 : Blk w4 p 81 #[.slice A N c, .int .i64 Q, .bool false] := by rw [← hw4]; exact HB3.out.set_ 1 _
    have hb4' := hb4
    rw [← HN.out] at hb4'
    have HR4 := Lib.hid (HR3.out.move hO4 hb4')
    have HO4 := Lib.hid (HO3.out.then_ hO4)
    have HB4 := Lib.hid hb4
    rw [hw4]
    clear hw4 hO4 hb4' kb fb
    have kb : ∀ i, w4.drew.cell? ⟨p, i, none⟩ = #[Value.slice A N c, .int .i64 Q, .bool false][i]? := fun i => hb4.drew.cell i
    have hrd : Rd w4.drew w4.drew.heap.size 1 Ax K (bcells x) := by
      have h1 := HCUT.out _ _ (HR4.out.onlyNil (Only.refl _ _).drew).bytes
      unfold Bs at h1
      rw [HXL.out] at h1
      exact h1
    have HRD := Lib.hid hrd
    clear hrd hb4
    go_still_tail 15, (by kernel_rfl)
    try rw [hAx]
    try rw [hQP]
    try rw [hC]
    clear hAx
    go_wp2_with (at_builtin; go_must (refine wpList_append_rd _ rfl (.const (.slice none 0 0)) (.tmp 61) _ rfl w.heap.size 5 i0 (.int .u8 0) 1 1 Try.underlying26 hi0 hz0 hz1 hz2 rfl (by omega) (.slice none 0 0) 0 [] rfl ?qown w4.drew.heap.size Ax K C (bcells x) rfl ?qrd (bcells_one x) K (Nat.zero_add _) (bcells x) (List.nil_append _) ?q63 ?qby ?qbase ?_))
    case qown => exact World.ownsRow_nil _ _ _ _
    case qrd => exact HRD.out
    case q63 => have := HK40.out; unfold maxLen; omega
    case qby => have := HK40.out; omega
    case qbase => exact HO4.out.size
    intro A5 c5 w5 hc5 hown5 hgr5 hat5
    have hO5 : Only Nil w4 w5 := ((Only.refl Nil w4).drew).grown hgr5 (fun q hq => (by cases hq))
    have HR5 := Lib.hid (HR4.out.onlyNil hO5)
    have HO5 := Lib.hid (HO4.out.thenNil hO5)
    have HW5 := Lib.hid hown5
    have HC5 := Lib.hid hc5
    clear hO5 hown5 hgr5 hat5 hc5 kb
    go_wp2_with fail
    go_ret
    have hfin : RfBytPost r p A c l w (.returned (.slice A5 K c5)) w5 := by
      rw [HR1'.out]
      refine ⟨A5, c5, by rw [HXL.out], by rw [HXL.out]; exact HC5.out, by rw [HXL.out]; exact HW5.out, ?_, HO5.out⟩
      dsimp only
      rw [HQ.out]
      exact HR5.out
    exact hfin

set_option maxRecDepth 100000 in
theorem rfEnd_any (p : Nat) (A : Option Addr) (c : Nat) (l : List UInt8) (pos : Nat) (f : Bool) (w : World) (h : RF w p A c l pos f) :
    Calls Try.prog 53 #[.pointer (some ⟨p, 0, none⟩)] w fun e w' => e = .returned (.int .i64 (if f = true ∨ pos ≠ l.length then 4 else 0)) ∧ Only Nil w w' := by
  have HB := Lib.hid h.box
  obtain ⟨N, hN⟩ : ∃ N, l.length = N := ⟨_, rfl⟩
  have hbx := h.box
  rw [hN] at hbx ⊢
  have kb : ∀ i, w.cell? ⟨p, i, none⟩ = #[Value.slice A N c, .int .i64 pos, .bool f][i]? := fun i => hbx.cell i
  have kd : ∀ i, w.drew.cell? ⟨p, i, none⟩ = #[Value.slice A N c, .int .i64 pos, .bool f][i]? := fun i => hbx.drew.cell i
  clear h hbx hN
  cases f
  · by_cases hpn : pos = N
    · subst hpn
      have hb1 : ((pos : Int) != (pos : Int)) = false := by simp
      rw [if_neg (by simp)]
      go_enter Try.func53, Try.ntmps53
      go_wp2_with fail
      go_quiet (fail)
      go_wp2_with fail
      go_ret
      exact ⟨rfl, by (repeat' (first | with_reducible exact Only.refl _ _ | with_reducible refine Only.setCell ?_ (Or.inl ?_) _ | with_reducible refine Only.drewN ?_ _ | with_reducible refine Only.drew ?_ | with_reducible refine Only.alloc ?_ _ | (fail)))⟩
    · have hb1 : ((pos : Int) == (N : Int)) = false := beq_false_of_ne (by omega)
      have hb2 : ((pos : Int) != (N : Int)) = true := by simp; omega
      rw [if_pos (.inr hpn)]
      go_enter Try.func53, Try.ntmps53
      go_wp2_with fail
      go_quiet (fail)
      go_wp2_with fail
      go_ret
      exact ⟨rfl, by (repeat' (first | with_reducible exact Only.refl _ _ | with_reducible refine Only.setCell ?_ (Or.inl ?_) _ | with_reducible refine Only.drewN ?_ _ | with_reducible refine Only.drew ?_ | with_reducible refine Only.alloc ?_ _ | (fail)))⟩
  · rw [if_pos (.inl rfl)]
    go_enter Try.func53, Try.ntmps53
    go_wp2_with fail
    go_quiet (fail)
    go_wp2_with fail
    go_ret
    exact ⟨rfl, by (repeat' (first | with_reducible exact Only.refl _ _ | with_reducible refine Only.setCell ?_ (Or.inl ?_) _ | with_reducible refine Only.drewN ?_ _ | with_reducible refine Only.drew ?_ | with_reducible refine Only.alloc ?_ _ | (fail)))⟩

end Go.Proofs.Ytkcmdibpndkfbaa

namespace Go.Proofs.Ytkcmdibpndkfbaa
open Go.RowKit

theorem RF.far {w w' : World} {p g : Nat} {A : Option Addr} {c : Nat} {l : List UInt8} {pos : Nat} {f : Bool} {t : TypeId} {cs : Array Value} (h : RF w p A c l pos f) (hg : Blk w g t cs) (hcs : NoU8 cs) (hne : p ≠ g) (hO : Only (One g) w w') : RF w' p A c l pos f :=
  ⟨h.box.only hO hne, (h.bytes.box hg hcs hO (Nat.le_refl _)).up hO.size, h.cap⟩

/-- n integers read one after the other, and where the reader stands then. -/
def rI : Nat → List UInt8 → Nat → Bool → List Int × Nat × Bool
  | 0, _, pos, f => ([], pos, f)
  | n + 1, l, pos, f => ((rInt l pos f).1 :: (rI n l (rInt l pos f).2.1 (rInt l pos f).2.2).1, (rI n l (rInt l pos f).2.1 (rInt l pos f).2.2).2)
theorem rInt_fail (l : List UInt8) (pos : Nat) : rInt l pos true = (0, pos, true) := rfl
theorem rI_fail : ∀ (n : Nat) (l : List UInt8) (pos : Nat), (rI n l pos true).2.2 = true := by
  intro n
  induction n with
  | zero => intro l pos; rfl
  | succ n ih => intro l pos; exact ih l pos
theorem rI_dec : ∀ (n : Nat) (l : List UInt8) (pos : Nat), match decN n (l.drop pos) with
    | some (zs, k) => rI n l pos false = (zs, pos + k, false)
    | none => (rI n l pos false).2.2 = true := by
  intro n
  induction n with
  | zero => intro l pos; rfl
  | succ n ih =>
    intro l pos
    unfold decN
    cases hd : dec (l.drop pos) with
    | none =>
      have e : rInt l pos false = (0, pos, true) := by unfold rInt; rw [if_neg (by simp), hd]
      dsimp only
      unfold rI
      rw [e]
      exact rI_fail n l pos
    | some r =>
      obtain ⟨z, k⟩ := r
      have e : rInt l pos false = (z, pos + k, false) := by unfold rInt; rw [if_neg (by simp), hd]
      dsimp only
      have h := ih l (pos + k)
      rw [← List.drop_drop] at h
      unfold rI
      rw [e]
      dsimp only
      cases hr : decN n ((l.drop pos).drop k) with
      | none => rw [hr] at h; exact h
      | some q =>
        obtain ⟨zs, j⟩ := q
        rw [hr] at h
        dsimp only at h
        dsimp only [Option.map_some]
        rw [h, Nat.add_assoc]
theorem rI_length : ∀ (n : Nat) (l : List UInt8) (pos : Nat) (f : Bool), (rI n l pos f).1.length = n := by
  intro n
  induction n with
  | zero => intro l pos f; rfl
  | succ n ih => intro l pos f; unfold rI; rw [List.length_cons, ih]
theorem rByt_fail (most : Int) (l : List UInt8) (pos : Nat) : rByt most l pos true = ([], pos, true) := rfl

end Go.Proofs.Ytkcmdibpndkfbaa

namespace Go.Proofs.Ytkcmdibpndkfbaa
open Go.RowKit

def setE (w : World) (g : Nat) (A : Option Addr) (c : Nat) (x : En) : World :=
  (((((((w.setCell ⟨g, 0, none⟩ (.int .i64 x.kind)).setCell ⟨g, 1, none⟩ (.int .i64 x.task)).setCell ⟨g, 2, none⟩ (.int .i64 x.call)).setCell ⟨g, 3, none⟩ (.int .i64 x.a0)).setCell ⟨g, 4, none⟩ (.int .i64 x.a1)).setCell ⟨g, 5, none⟩ (.int .i64 x.a2)).setCell ⟨g, 6, none⟩ (.int .i64 x.result)).setCell ⟨g, 7, none⟩ (.slice A x.data.length c)
theorem setE_only (w : World) (g : Nat) (A : Option Addr) (c : Nat) (x : En) : Only (One g) w (setE w g A c x) := by
  unfold setE
  (repeat' (first | with_reducible exact Only.refl _ _ | with_reducible refine Only.setCell ?_ (Or.inl ?_) _ | with_reducible refine Only.drewN ?_ _ | with_reducible refine Only.drew ?_ | with_reducible refine Only.alloc ?_ _ | (exact rfl)))
theorem rEnt_eq (l : List UInt8) (pos : Nat) (f : Bool) (zs : List Int) (q : Nat) (g : Bool) (x : List UInt8) (q' : Nat) (g' : Bool) (h : rI 7 l pos f = (zs, q, g)) (hb : rByt 1536 l q g = (x, q', g')) :
    rEnt l pos f = if g' = true then (zE, pos, true) else (eOf zs x, q', false) := by
  unfold rEnt
  cases f
  · rw [if_neg (by simp)]
    have hd := rI_dec 7 l pos
    unfold decE
    cases hr : decN 7 (l.drop pos) with
    | none =>
      rw [hr] at hd
      dsimp only at hd
      rw [h] at hd
      dsimp only at hd
      subst hd
      rw [rByt_fail] at hb
      injection hb with _ hb
      injection hb with _ hb
      subst hb
      rfl
    | some r =>
      obtain ⟨ys, k⟩ := r
      rw [hr] at hd
      dsimp only at hd
      rw [h] at hd
      injection hd with e1 e2
      injection e2 with e2 e3
      subst e1 e2 e3
      unfold rByt at hb
      rw [if_neg (by simp)] at hb
      rw [← List.drop_drop] at hb
      dsimp only
      cases hB : decB 1536 ((l.drop pos).drop k) with
      | none =>
        rw [hB] at hb
        injection hb with _ hb
        injection hb with _ hb
        subst hb
        rfl
      | some r =>
        obtain ⟨d, j⟩ := r
        rw [hB] at hb
        injection hb with e1 e2
        injection e2 with e2 e3
        subst e1 e2 e3
        dsimp only
        rw [if_neg (by simp), Nat.add_assoc]
  · rw [if_pos rfl]
    have hf := rI_fail 7 l pos
    rw [h] at hf
    dsimp only at hf
    subst hf
    rw [rByt_fail] at hb
    injection hb with _ hb
    injection hb with _ hb
    subst hb
    rfl

/-- What Entry answers. -/
def RfEntPost (r : En × Nat × Bool) (p : Nat) (A : Option Addr) (c : Nat) (l : List UInt8) (w : World) (e : Ending) (w' : World) : Prop :=
  ∃ Ax cx, e = .returned (.agg (ecl Ax cx r.1)) ∧ r.1.data.length ≤ cx ∧ w'.ownsRow w.heap.size 5 1 (.slice Ax r.1.data.length cx) r.1.data.length (bcells r.1.data) ∧ RF w' p A c l r.2.1 r.2.2 ∧ Only (One p) w w'

set_option maxRecDepth 100000 in
set_option maxHeartbeats 4000000 in
theorem rfEnt_any (p : Nat) (A : Option Addr) (c : Nat) (l : List UInt8) (pos : Nat) (f : Bool) (w : World) (h : RF w p A c l pos f) (hp : pos ≤ l.length) (hl : l.length ≤ 1099511627776) (hc : c ≤ maxLen) :
    Calls Try.prog 52 #[.pointer (some ⟨p, 0, none⟩)] w (RfEntPost (rEnt l pos f) p A c l w) := by
  have hpw := h.box.lt
  obtain ⟨z1, p1, f1, e1⟩ : ∃ z q g, rInt l pos f = (z, q, g) := ⟨_, _, _, rfl⟩
  have b1 : p1 ≤ l.length := by have := rInt_pos (l := l) (pos := pos) f hp; rw [e1] at this; exact this
  obtain ⟨z2, p2, f2, e2⟩ : ∃ z q g, rInt l p1 f1 = (z, q, g) := ⟨_, _, _, rfl⟩
  have b2 : p2 ≤ l.length := by have := rInt_pos (l := l) (pos := p1) f1 b1; rw [e2] at this; exact this
  obtain ⟨z3, p3, f3, e3⟩ : ∃ z q g, rInt l p2 f2 = (z, q, g) := ⟨_, _, _, rfl⟩
  have b3 : p3 ≤ l.length := by have := rInt_pos (l := l) (pos := p2) f2 b2; rw [e3] at this; exact this
  obtain ⟨z4, p4, f4, e4⟩ : ∃ z q g, rInt l p3 f3 = (z, q, g) := ⟨_, _, _, rfl⟩
  have b4 : p4 ≤ l.length := by have := rInt_pos (l := l) (pos := p3) f3 b3; rw [e4] at this; exact this
  obtain ⟨z5, p5, f5, e5⟩ : ∃ z q g, rInt l p4 f4 = (z, q, g) := ⟨_, _, _, rfl⟩
  have b5 : p5 ≤ l.length := by have := rInt_pos (l := l) (pos := p4) f4 b4; rw [e5] at this; exact this
  obtain ⟨z6, p6, f6, e6⟩ : ∃ z q g, rInt l p5 f5 = (z, q, g) := ⟨_, _, _, rfl⟩
  have b6 : p6 ≤ l.length := by have := rInt_pos (l := l) (pos := p5) f5 b5; rw [e6] at this; exact this
  obtain ⟨z7, p7, f7, e7⟩ : ∃ z q g, rInt l p6 f6 = (z, q, g) := ⟨_, _, _, rfl⟩
  have b7 : p7 ≤ l.length := by have := rInt_pos (l := l) (pos := p6) f6 b6; rw [e7] at this; exact this
  obtain ⟨x, pb, fb, eb⟩ : ∃ z q g, rByt 1536 l p7 f7 = (z, q, g) := ⟨_, _, _, rfl⟩
  have h7 : rI 7 l pos f = ([z1, z2, z3, z4, z5, z6, z7], p7, f7) := by
    unfold rI rI rI rI rI rI rI rI
    simp only [e1, e2, e3, e4, e5, e6, e7]
  have hM := rEnt_eq l pos f _ _ _ _ _ _ h7 eb
  obtain ⟨r, hr⟩ : ∃ r, rEnt l pos f = r := ⟨_, rfl⟩
  rw [hr] at hM ⊢
  have HRR := Lib.hid hM
  clear hr
  have HEB := Lib.hid eb
  have HE1 := Lib.hid e1
  have HB1 := Lib.hid b1
  have HE2 := Lib.hid e2
  have HB2 := Lib.hid b2
  have HE3 := Lib.hid e3
  have HB3 := Lib.hid b3
  have HE4 := Lib.hid e4
  have HB4 := Lib.hid b4
  have HE5 := Lib.hid e5
  have HB5 := Lib.hid b5
  have HE6 := Lib.hid e6
  have HB6 := Lib.hid b6
  have HE7 := Lib.hid e7
  have HB7 := Lib.hid b7
  have H := Lib.hid h
  have HP := Lib.hid hp
  have HL := Lib.hid hl
  have HC := Lib.hid hc
  have HPW := Lib.hid hpw
  obtain ⟨w0, hw0⟩ : ∃ w0, w.alloc (.cells (ecl none 0 zE) 39) = w0 := ⟨_, rfl⟩
  have hO0 : Only Nil w w0 := by rw [← hw0]; exact (Only.refl _ _).alloc _
  have hg0 : Blk w0 w.heap.size 39 (ecl none 0 zE) := by rw [← hw0]; exact Blk.new _ _ _
  have hb0 := (h.onlyNil hO0).box
  obtain ⟨N, hN⟩ : ∃ N, l.length = N := ⟨_, rfl⟩
  rw [hN] at hb0
  have kp : ∀ i, w0.cell? ⟨p, i, none⟩ = #[Value.slice A N c, .int .i64 pos, .bool f][i]? := fun i => hb0.cell i
  have HN := Lib.hid hN
  have HO0 := Lib.hid hO0
  have HG0 := Lib.hid hg0
  unfold ecl ER.cells zE at hw0
  dsimp only at hw0
  rw [show ([] : List UInt8).length = 0 from rfl] at hw0
  have HC1 := Lib.hid (rfInt_any p A c l pos f w0 (h.onlyNil hO0) hp hl)
  rw [e1] at HC1
  clear h hp hl hc hpw hO0 hg0 hb0 hN eb h7 hM e1 e2 e3 e4 e5 e6 e7 b1 b2 b3 b4 b5 b6 b7
  go_enter Try.func52, Try.ntmps52
  go_wp2_with fail
  clear hw0
  refine HC1.out.mono ?_
  clear HC1
  rintro e w1 ⟨rfl, hR1, hO1⟩
  have HR1 := Lib.hid hR1
  have HN1 := Lib.hid hO1.size
  have HG1 := Lib.hid (HG0.out.only hO1 (fun hx => by have := HPW.out; unfold One at hx; omega))
  have HO1 : Hid (Only (One p) w w1) := Lib.hid ((HO0.out.any).then_ hO1)
  clear hR1 hO1 kp
  have HC2 := Lib.hid (rfInt_any p A c l p1 f1 w1 HR1.out HB1.out HL.out)
  rw [HE2.out] at HC2
  go_wp2_with fail
  refine HC2.out.mono ?_
  clear HC2
  rintro e w2 ⟨rfl, hR2, hO2⟩
  have HR2 := Lib.hid hR2
  have HN2 := Lib.hid (Nat.le_trans HN1.out hO2.size)
  have HG2 := Lib.hid (HG1.out.only hO2 (fun hx => by have := HPW.out; unfold One at hx; omega))
  have HO2 := Lib.hid (HO1.out.then_ hO2)
  clear hR2 hO2
  have HC3 := Lib.hid (rfInt_any p A c l p2 f2 w2 HR2.out HB2.out HL.out)
  rw [HE3.out] at HC3
  go_wp2_with fail
  refine HC3.out.mono ?_
  clear HC3
  rintro e w3 ⟨rfl, hR3, hO3⟩
  have HR3 := Lib.hid hR3
  have HN3 := Lib.hid (Nat.le_trans HN2.out hO3.size)
  have HG3 := Lib.hid (HG2.out.only hO3 (fun hx => by have := HPW.out; unfold One at hx; omega))
  have HO3 := Lib.hid (HO2.out.then_ hO3)
  clear hR3 hO3
  obtain ⟨g4, hg4⟩ : ∃ g4, g4 = w3.heap.size := ⟨_, rfl⟩
  obtain ⟨w4, hw4⟩ : ∃ w4, w4 = w3.alloc (.cells (ecl none 0 ⟨z1, z2, z3, 0, 0, 0, 0, []⟩) 39) := ⟨_, rfl⟩
  have hO4 : Only Nil w3 w4 := by rw [hw4]; exact (Only.refl _ _).alloc _
  have hm4 : Blk w4 g4 39 (ecl none 0 ⟨z1, z2, z3, 0, 0, 0, 0, []⟩) := by rw [hw4, hg4]; exact Blk.new _ _ _
  have hgp : p < g4 := by have := HR3.out.box.lt; omega
  have hgw : w.heap.size < g4 := by have := HG0.out.lt; have := HO0.out.size; have := HN3.out; omega
  have HGP := Lib.hid hgp
  have HGW := Lib.hid hgw
  have HR4 := Lib.hid (HR3.out.onlyNil hO4)
  have HG4 := Lib.hid (HG3.out.onlyNil hO4)
  have HM4 := Lib.hid hm4
  have HO4 := Lib.hid (HO3.out.thenNil hO4)
  unfold ecl ER.cells at hw4
  dsimp only at hw4
  rw [show ([] : List UInt8).length = 0 from rfl] at hw4
  have HGG := Lib.hid hg4
  have HW4 := Lib.hid hw4
  clear hO4 hm4 hgp hgw hg4 hw4
  go_wp2_with fail
  rw [← HGG.out, ← HW4.out]
  clear HGG HW4
  refine wp_loop_rounds 4 ?_
  rw [rounds_succ]
  have HC4 := Lib.hid (rfInt_any p A c l p3 f3 w4 HR4.out HB3.out HL.out)
  rw [HE4.out] at HC4
  go_wp2_with fail
  refine HC4.out.mono ?_
  clear HC4
  rintro e u4 ⟨rfl, hR, hO⟩
  have hm := HM4.out.only hO (fun hx => by have := HGP.out; unfold One at hx; omega)
  have km : ∀ i, u4.cell? ⟨g4, i, none⟩ = (ecl none 0 ⟨z1, z2, z3, 0, 0, 0, 0, []⟩)[i]? := fun i => hm.cell i
  have fm : ∀ i, u4.frozen? ⟨g4, i, none⟩ = false := fun i => hm.frozen i
  unfold ecl ER.cells at km
  dsimp only at km
  obtain ⟨w5, hw⟩ : ∃ v, u4.setCell ⟨g4, 3, none⟩ (.int .i64 z4) = v := ⟨_, rfl⟩
  have hS : Only (One g4) u4 w5 := by rw [← hw]; (repeat' (first | with_reducible exact Only.refl _ _ | with_reducible refine Only.setCell ?_ (Or.inl ?_) _ | with_reducible refine Only.drewN ?_ _ | with_reducible refine Only.drew ?_ | with_reducible refine Only.alloc ?_ _ | (exact rfl)))
  have hm2 : Blk w5 g4 39 (ecl none 0 ⟨z1, z2, z3, z4, 0, 0, 0, []⟩) := by
    rw [← hw]
    have := hm.set_ 3 (.int .i64 z4)
    simpa [ecl, ER.cells] using this
  have HR5 := Lib.hid (hR.far hm (ecl_no _ _ _) (by have := HGP.out; omega) hS)
  have HM5 := Lib.hid hm2
  have HG5 := Lib.hid ((HG4.out.only hO (fun hx => by have := HPW.out; unfold One at hx; omega)).only hS (fun hx => by have := HGW.out; unfold One at hx; omega))
  have HQ5 : Hid (w.heap.size ≤ w5.heap.size) := Lib.hid (by have := HGW.out; have := hm2.lt; omega)
  have HO5 := Lib.hid ((HO4.out.then_ hO).trans hS (fun x hx => .inr (by have := HGW.out; unfold One at hx; omega)))
  clear hR hO hm hS hm2
  go_wp2_with fail
  clear hw km fm
  rw [rounds_succ]
  have HC5 := Lib.hid (rfInt_any p A c l p4 f4 w5 HR5.out HB4.out HL.out)
  rw [HE5.out] at HC5
  go_wp2_with fail
  refine HC5.out.mono ?_
  clear HC5
  rintro e u5 ⟨rfl, hR, hO⟩
  have hm := HM5.out.only hO (fun hx => by have := HGP.out; unfold One at hx; omega)
  have km : ∀ i, u5.cell? ⟨g4, i, none⟩ = (ecl none 0 ⟨z1, z2, z3, z4, 0, 0, 0, []⟩)[i]? := fun i => hm.cell i
  have fm : ∀ i, u5.frozen? ⟨g4, i, none⟩ = false := fun i => hm.frozen i
  unfold ecl ER.cells at km
  dsimp only at km
  obtain ⟨w6, hw⟩ : ∃ v, u5.setCell ⟨g4, 4, none⟩ (.int .i64 z5) = v := ⟨_, rfl⟩
  have hS : Only (One g4) u5 w6 := by rw [← hw]; (repeat' (first | with_reducible exact Only.refl _ _ | with_reducible refine Only.setCell ?_ (Or.inl ?_) _ | with_reducible refine Only.drewN ?_ _ | with_reducible refine Only.drew ?_ | with_reducible refine Only.alloc ?_ _ | (exact rfl)))
  have hm2 : Blk w6 g4 39 (ecl none 0 ⟨z1, z2, z3, z4, z5, 0, 0, []⟩) := by
    rw [← hw]
    have := hm.set_ 4 (.int .i64 z5)
    simpa [ecl, ER.cells] using this
  have HR6 := Lib.hid (hR.far hm (ecl_no _ _ _) (by have := HGP.out; omega) hS)
  have HM6 := Lib.hid hm2
  have HG6 := Lib.hid ((HG5.out.only hO (fun hx => by have := HPW.out; unfold One at hx; omega)).only hS (fun hx => by have := HGW.out; unfold One at hx; omega))
  have HQ6 : Hid (w.heap.size ≤ w6.heap.size) := Lib.hid (by have := HGW.out; have := hm2.lt; omega)
  have HO6 := Lib.hid ((HO5.out.then_ hO).trans hS (fun x hx => .inr (by have := HGW.out; unfold One at hx; omega)))
  clear hR hO hm hS hm2
  go_wp2_with fail
  clear hw km fm
  rw [rounds_succ]
  have HC6 := Lib.hid (rfInt_any p A c l p5 f5 w6 HR6.out HB5.out HL.out)
  rw [HE6.out] at HC6
  go_wp2_with fail
  refine HC6.out.mono ?_
  clear HC6
  rintro e u6 ⟨rfl, hR, hO⟩
  have hm := HM6.out.only hO (fun hx => by have := HGP.out; unfold One at hx; omega)
  have km : ∀ i, u6.cell? ⟨g4, i, none⟩ = (ecl none 0 ⟨z1, z2, z3, z4, z5, 0, 0, []⟩)[i]? := fun i => hm.cell i
  have fm : ∀ i, u6.frozen? ⟨g4, i, none⟩ = false := fun i => hm.frozen i
  unfold ecl ER.cells at km
  dsimp only at km
  obtain ⟨w7, hw⟩ : ∃ v, u6.setCell ⟨g4, 5, none⟩ (.int .i64 z6) = v := ⟨_, rfl⟩
  have hS : Only (One g4) u6 w7 := by rw [← hw]; (repeat' (first | with_reducible exact Only.refl _ _ | with_reducible refine Only.setCell ?_ (Or.inl ?_) _ | with_reducible refine Only.drewN ?_ _ | with_reducible refine Only.drew ?_ | with_reducible refine Only.alloc ?_ _ | (exact rfl)))
  have hm2 : Blk w7 g4 39 (ecl none 0 ⟨z1, z2, z3, z4, z5, z6, 0, []⟩) := by
    rw [← hw]
    have := hm.set_ 5 (.int .i64 z6)
    simpa [ecl, ER.cells] using this
  have HR7 := Lib.hid (hR.far hm (ecl_no _ _ _) (by have := HGP.out; omega) hS)
  have HM7 := Lib.hid hm2
  have HG7 := Lib.hid ((HG6.out.only hO (fun hx => by have := HPW.out; unfold One at hx; omega)).only hS (fun hx => by have := HGW.out; unfold One at hx; omega))
  have HQ7 : Hid (w.heap.size ≤ w7.heap.size) := Lib.hid (by have := HGW.out; have := hm2.lt; omega)
  have HO7 := Lib.hid ((HO6.out.then_ hO).trans hS (fun x hx => .inr (by have := HGW.out; unfold One at hx; omega)))
  clear hR hO hm hS hm2
  go_wp2_with fail
  clear hw km fm
  rw [rounds_succ]
  have HC7 := Lib.hid (rfInt_any p A c l p6 f6 w7 HR7.out HB6.out HL.out)
  rw [HE7.out] at HC7
  go_wp2_with fail
  refine HC7.out.mono ?_
  clear HC7
  rintro e u7 ⟨rfl, hR, hO⟩
  have hm := HM7.out.only hO (fun hx => by have := HGP.out; unfold One at hx; omega)
  have km : ∀ i, u7.cell? ⟨g4, i, none⟩ = (ecl none 0 ⟨z1, z2, z3, z4, z5, z6, 0, []⟩)[i]? := fun i => hm.cell i
  have fm : ∀ i, u7.frozen? ⟨g4, i, none⟩ = false := fun i => hm.frozen i
  unfold ecl ER.cells at km
  dsimp only at km
  obtain ⟨w8, hw⟩ : ∃ v, u7.setCell ⟨g4, 6, none⟩ (.int .i64 z7) = v := ⟨_, rfl⟩
  have hS : Only (One g4) u7 w8 := by rw [← hw]; (repeat' (first | with_reducible exact Only.refl _ _ | with_reducible refine Only.setCell ?_ (Or.inl ?_) _ | with_reducible refine Only.drewN ?_ _ | with_reducible refine Only.drew ?_ | with_reducible refine Only.alloc ?_ _ | (exact rfl)))
  have hm2 : Blk w8 g4 39 (ecl none 0 ⟨z1, z2, z3, z4, z5, z6, z7, []⟩) := by
    rw [← hw]
    have := hm.set_ 6 (.int .i64 z7)
    simpa [ecl, ER.cells] using this
  have HR8 := Lib.hid (hR.far hm (ecl_no _ _ _) (by have := HGP.out; omega) hS)
  have HM8 := Lib.hid hm2
  have HG8 := Lib.hid ((HG7.out.only hO (fun hx => by have := HPW.out; unfold One at hx; omega)).only hS (fun hx => by have := HGW.out; unfold One at hx; omega))
  have HQ8 : Hid (w.heap.size ≤ w8.heap.size) := Lib.hid (by have := HGW.out; have := hm2.lt; omega)
  have HO8 := Lib.hid ((HO7.out.then_ hO).trans hS (fun x hx => .inr (by have := HGW.out; unfold One at hx; omega)))
  clear hR hO hm hS hm2
  go_wp2_with fail
  clear hw km fm
  have HCB := Lib.hid (rfByt_any 1536 p A c l p7 f7 w8 HR8.out HB7.out HL.out HC.out)
  rw [HEB.out] at HCB
  go_wp2_with fail
  refine HCB.out.mono ?_
  clear HCB
  rintro e w10 ⟨Ax, cx, rfl, hcx, hown, hR, hO⟩
  dsimp only at hcx hown hR ⊢
  have hm := HM8.out.only hO (fun hx => by have := HGP.out; unfold One at hx; omega)
  have km : ∀ i, w10.cell? ⟨g4, i, none⟩ = (ecl none 0 ⟨z1, z2, z3, z4, z5, z6, z7, []⟩)[i]? := fun i => hm.cell i
  have fm : ∀ i, w10.frozen? ⟨g4, i, none⟩ = false := fun i => hm.frozen i
  have hS : Only (One g4) w10 (w10.setCell ⟨g4, 7, none⟩ (.slice Ax x.length cx)) := by (repeat' (first | with_reducible exact Only.refl _ _ | with_reducible refine Only.setCell ?_ (Or.inl ?_) _ | with_reducible refine Only.drewN ?_ _ | with_reducible refine Only.drew ?_ | with_reducible refine Only.alloc ?_ _ | (exact rfl)))
  have hm2 : Blk (w10.setCell ⟨g4, 7, none⟩ (.slice Ax x.length cx)) g4 39 (ecl Ax cx ⟨z1, z2, z3, z4, z5, z6, z7, x⟩) := by
    have := hm.set_ 7 (.slice Ax x.length cx)
    simpa [ecl, ER.cells] using this
  have hR11 := hR.far hm (ecl_no _ _ _) (by have := HGP.out; omega) hS
  have hown11 := own_only hown hS (fun q hq hx => own_blk_ne hown hm (by decide) (by rw [hq, hx]))
  have hg : Blk (w10.setCell ⟨g4, 7, none⟩ (.slice Ax x.length cx)) w.heap.size 39 (ecl none 0 zE) := (HG8.out.only hO (fun hx => by have := HPW.out; unfold One at hx; omega)).only hS (fun hx => by have := HGW.out; unfold One at hx; omega)
  have hO11 := (HO8.out.then_ hO).trans hS (fun x hx => .inr (by have := HGW.out; unfold One at hx; omega))
  unfold ecl ER.cells at km hm2
  dsimp only at km hm2
  obtain ⟨X, hX⟩ : ∃ X, x.length = X := ⟨_, rfl⟩
  have HX := Lib.hid hX
  rw [hX] at hcx hS hm2 hR11 hown11 hg hO11 ⊢
  obtain ⟨w11, hw11⟩ : ∃ v, v = w10.setCell ⟨g4, 7, none⟩ (.slice Ax X cx) := ⟨_, rfl⟩
  rw [← hw11] at hm2 hR11 hown11 hg hO11
  have HW := Lib.hid hw11
  have HM11 := Lib.hid hm2
  have HR11 := Lib.hid hR11
  have HW11 := Lib.hid hown11
  have HG11 := Lib.hid hg
  have HO11 := Lib.hid hO11
  have HCX := Lib.hid hcx
  clear hcx hown hR hO hm hS hm2 hR11 hown11 hg hO11 hX hw11
  go_upto_region 9 with fail
  rw [← HW.out]
  clear HW km fm
  have hbx := HR11.out.box
  rw [HN.out] at hbx
  have kp : ∀ i, w11.cell? ⟨p, i, none⟩ = #[Value.slice A N c, .int .i64 pb, .bool fb][i]? := fun i => hbx.cell i
  have fp : ∀ i, w11.frozen? ⟨p, i, none⟩ = false := fun i => hbx.frozen i
  have HBX := Lib.hid hbx
  have n1 : p ≠ w.heap.size := by have := HPW.out; omega
  have n2 : w.heap.size ≠ p := by have := HPW.out; omega
  have n3 : g4 ≠ w.heap.size := by have := HGW.out; omega
  have n4 : w.heap.size ≠ g4 := by have := HGW.out; omega
  have km : ∀ i, w11.cell? ⟨g4, i, none⟩ = #[Value.int .i64 z1, .int .i64 z2, .int .i64 z3, .int .i64 z4, .int .i64 z5, .int .i64 z6, .int .i64 z7, .slice Ax X cx][i]? := fun i => HM11.out.cell i
  have kg : ∀ i, w11.cell? ⟨w.heap.size, i, none⟩ = #[Value.int .i64 0, .int .i64 0, .int .i64 0, .int .i64 0, .int .i64 0, .int .i64 0, .int .i64 0, .slice none 0 0][i]? := fun i => HG11.out.cell i
  have fg : ∀ i, w11.frozen? ⟨w.heap.size, i, none⟩ = false := fun i => HG11.out.frozen i
  clear hbx
  cases fb
  · have hfin : RfEntPost r p A c l w (.returned (.agg (ecl Ax cx ⟨z1, z2, z3, z4, z5, z6, z7, x⟩))) (setE w11 w.heap.size Ax cx ⟨z1, z2, z3, z4, z5, z6, z7, x⟩) := by
      have hS := setE_only w11 w.heap.size Ax cx ⟨z1, z2, z3, z4, z5, z6, z7, x⟩
      rw [HRR.out, if_neg (by simp)]
      refine ⟨Ax, cx, rfl, ?_, ?_, HR11.out.far HG11.out (ecl_no _ _ _) n1 hS, HO11.out.trans hS (fun x hx => .inr (by unfold One at hx; omega))⟩
      · show x.length ≤ cx
        rw [HX.out]; exact HCX.out
      · show (setE w11 w.heap.size Ax cx ⟨z1, z2, z3, z4, z5, z6, z7, x⟩).ownsRow w.heap.size 5 1 (.slice Ax x.length cx) x.length (bcells x)
        rw [HX.out]
        exact own_base (own_only HW11.out hS (fun q hq hx => own_blk_ne HW11.out HG11.out (by decide) (by rw [hq, hx]))) HQ8.out
    unfold setE ecl ER.cells at hfin
    dsimp only at hfin
    rw [HX.out] at hfin
    have HF := Lib.hid hfin
    clear hfin
    go_wp2_with fail
    refine bodyPost_ret (v := .agg #[.int .i64 z1, .int .i64 z2, .int .i64 z3, .int .i64 z4, .int .i64 z5, .int .i64 z6, .int .i64 z7, .slice Ax X cx]) (by simp [results, Try.results52, go_sem, kg, km]) rfl ?_
    exact HF.out
  · obtain ⟨w12, hw12⟩ : ∃ v, v = w11.setCell ⟨p, 1, none⟩ (.int .i64 pos) := ⟨_, rfl⟩
    have hS1 : Only (One p) w11 w12 := by rw [hw12]; (repeat' (first | with_reducible exact Only.refl _ _ | with_reducible refine Only.setCell ?_ (Or.inl ?_) _ | with_reducible refine Only.drewN ?_ _ | with_reducible refine Only.drew ?_ | with_reducible refine Only.alloc ?_ _ | (exact rfl)))
    have hb12 : Blk w12 p 81 #[.slice A N c, .int .i64 pos, .bool true] := by rw [hw12]; exact HBX.out.set_ 1 _
    rw [← HN.out] at hb12
    have hR12 := HR11.out.move hS1 hb12
    have hg12 := HG11.out.only hS1 (fun hx => n2 hx)
    have hfin : RfEntPost r p A c l w (.returned (.agg (ecl none 0 zE))) (setE w12 w.heap.size none 0 zE) := by
      have hS := setE_only w12 w.heap.size none 0 zE
      rw [HRR.out, if_pos rfl]
      exact ⟨none, 0, rfl, Nat.le_refl _, World.ownsRow_nil _ _ _ _, hR12.far hg12 (ecl_no _ _ _) n1 hS, (HO11.out.then_ hS1).trans hS (fun x hx => .inr (by unfold One at hx; omega))⟩
    rw [hw12] at hfin
    unfold setE ecl ER.cells zE at hfin
    dsimp only at hfin
    rw [show ([] : List UInt8).length = 0 from rfl] at hfin
    have HF := Lib.hid hfin
    clear hfin hw12 hS1 hb12 hR12 hg12
    go_wp2_with fail
    refine bodyPost_ret (v := .agg #[.int .i64 0, .int .i64 0, .int .i64 0, .int .i64 0, .int .i64 0, .int .i64 0, .int .i64 0, .slice none 0 0]) (by simp [results, Try.results52, go_sem, kg]) rfl ?_
    exact HF.out

end Go.Proofs.Ytkcmdibpndkfbaa

namespace Go.Proofs.Ytkcmdibpndkfbaa
open Go.RowKit

def NxPost (r : En × Nat × Nat × Int) (w : World) (e : Ending) (w' : World) : Prop :=
  ∃ Ax cx, e = .returned (.tuple #[.agg (ecl Ax cx r.1), .int .i64 (r.2.2.1 : Nat), .int .u64 (r.2.1 : Nat), .int .i64 r.2.2.2]) ∧ r.1.data.length ≤ cx ∧ w'.ownsRow w.heap.size 5 1 (.slice Ax r.1.data.length cx) r.1.data.length (bcells r.1.data) ∧ Only Nil w w'

def OwnB8 (_base : Nat) (l : List UInt8) : VPred := fun v w => ∃ A c, v = .slice A 8 c ∧ Bs w w.heap.size A l
theorem Stays.ownB8 {base : Nat} {l : List UInt8} : Stays Nil (OwnB8 base l) := fun _ _ _ hO h => by
  obtain ⟨A, c, h1, h2⟩ := h
  exact ⟨A, c, h1, (h2.onlyNil hO (Nat.le_refl _)).up hO.size⟩
set_option maxRecDepth 100000 in
set_option maxHeartbeats 4000000 in
theorem Ref.next_any (A : Option Addr) (c : Nat) (l : List UInt8) (h : Nat) (w : World) (hb : Bs w w.heap.size A l) (hl : l.length ≤ 1099511627776) (hlc : l.length ≤ c) (hcm : c ≤ maxLen) (hh : h < 18446744073709551616) :
    Calls Try.prog 43 #[.slice A l.length c, .int .u64 h] w (NxPost (frameR l h) w) := by
  obtain ⟨N, hN⟩ : ∃ N, l.length = N := ⟨_, rfl⟩
  obtain ⟨R, hR⟩ : ∃ R, frameR l h = R := ⟨_, rfl⟩
  obtain ⟨w2, hw2⟩ : ∃ w2, w2 = w.alloc (.cells #[Value.int .i64 0, .int .i64 0, .int .i64 0, .int .i64 0, .int .i64 0, .int .i64 0, .int .i64 0, .slice none 0 0] 39) := ⟨_, rfl⟩
  have hO2 : Only Nil w w2 := by rw [hw2]; exact (Only.refl _ _).alloc _
  have hb1 : Blk w2 w.heap.size 39 #[Value.int .i64 0, .int .i64 0, .int .i64 0, .int .i64 0, .int .i64 0, .int .i64 0, .int .i64 0, .slice none 0 0] := by rw [hw2]; exact Blk.new _ _ _
  have hbs := (hb.onlyNil hO2 (Nat.le_refl _)).up hO2.size
  have hbad : ∀ (n : Int) u v, R = (zE, 0, 0, n) → Only Nil w2 u → Only (One w.heap.size) u v → NxPost R w (.returned (.tuple #[.agg #[Value.int .i64 0, .int .i64 0, .int .i64 0, .int .i64 0, .int .i64 0, .int .i64 0, .int .i64 0, .slice none 0 0], .int .i64 0, .int .u64 0, .int .i64 n])) v := fun n u v e h1 h2 => by
    rw [e]
    exact ⟨none, 0, rfl, Nat.le_refl _, World.ownsRow_nil _ _ _ _, (hO2.thenNil h1).trans h2 (fun x hx => .inr (by unfold One at hx; omega))⟩
  rw [hR, hN]
  unfold frameR at hR
  rw [hN] at hR
  have k1 : ∀ i, w2.cell? ⟨w.heap.size, i, none⟩ = #[Value.int .i64 0, .int .i64 0, .int .i64 0, .int .i64 0, .int .i64 0, .int .i64 0, .int .i64 0, .slice none 0 0][i]? := fun i => hb1.cell i
  have f1 : ∀ i, w2.frozen? ⟨w.heap.size, i, none⟩ = false := fun i => hb1.frozen i
  have k1d : ∀ m i, (w2.drewN m).cell? ⟨w.heap.size, i, none⟩ = #[Value.int .i64 0, .int .i64 0, .int .i64 0, .int .i64 0, .int .i64 0, .int .i64 0, .int .i64 0, .slice none 0 0][i]? := fun m i => (hb1.drewN m).cell i
  have f1d : ∀ m i, (w2.drewN m).frozen? ⟨w.heap.size, i, none⟩ = false := fun m i => (hb1.drewN m).frozen i
  have HW2 := Lib.hid hw2
  have HO2 := Lib.hid hO2
  have HB1 := Lib.hid hb1
  have HBS := Lib.hid hbs
  have HBAD := Lib.hid hbad
  have HN := Lib.hid hN
  have HH := Lib.hid hh
  have HL := Lib.hid (show N ≤ 1099511627776 by omega)
  have hNc : N ≤ c := by omega
  clear hw2 hO2 hb1 hbs hbad hb hl hlc hh
  by_cases h8 : N < 8
  · rw [if_pos h8] at hR
    have HR := Lib.hid hR.symm
    have h8i : (N : Int) < 8 := by omega
    have h8d : decide ((N : Int) < 8) = true := decide_eq_true h8i
    clear hR hN
    go_enter Try.func43, Try.ntmps43
    go_upto_region 1 with fail
    rw [← HW2.out]
    go_big_quiet (fail)
    go_wp2_with fail
    refine bodyPost_ret (v := .tuple #[.agg #[Value.int .i64 0, .int .i64 0, .int .i64 0, .int .i64 0, .int .i64 0, .int .i64 0, .int .i64 0, .slice none 0 0], .int .i64 0, .int .u64 0, .int .i64 4]) (by simp [results, Try.results43, go_sem, k1, k1d]) rfl ?_
    refine HBAD.out 4 w2 _ HR.out (Only.refl _ _) ?_
    (repeat' (first | with_reducible exact Only.refl _ _ | with_reducible refine Only.setCell ?_ (Or.inl ?_) _ | with_reducible refine Only.drewN ?_ _ | with_reducible refine Only.drew ?_ | with_reducible refine Only.alloc ?_ _ | (exact rfl)))
  rw [if_neg h8] at hR
  have h8i : ¬ (N : Int) < 8 := by omega
  have h8d : decide ((N : Int) < 8) = false := decide_eq_false h8i
  obtain ⟨g, off, rfl, _, _⟩ := HBS.out.2 (by rw [hN]; omega)
  have hc4 : (4 : Int) ≤ (c : Int) := by omega
  have h4N : (4 : Int) ≤ (N : Int) := by omega
  have h8c : (8 : Int) ≤ (c : Int) := by omega
  have h8N : (8 : Int) ≤ (N : Int) := by omega
  have hnc4 : ¬ c = 4 := by omega
  have hnum1 : ∀ k, Calls Try.prog 51 #[.slice (some ⟨g, off, none⟩) N c] (w2.drewN k) fun e w' => e = .returned (.int .i64 (nB l : Nat)) ∧ ∃ m, w' = (w2.drewN k).drewN m := fun k => by
    have := Ref.number_any (some ⟨g, off, none⟩) c l (w2.drewN k) ((HBS.out.onlyNil ((Only.refl _ _).drewN k) (Nat.le_refl _)).up ((Only.refl Nil w2).drewN k).size) (by omega)
    rwa [hN] at this
  have hcut := Bs.cut (k := 4) (cap := c) HBS.out (by omega) (by omega)
  rw [if_neg hnc4, show Option.map (fun x : Addr => x.add 4) (some ⟨g, off, none⟩) = some ⟨g, off + 4, none⟩ from rfl] at hcut
  have hcut4 := Bs.take hcut 4 (by rw [List.length_drop]; omega)
  have hl4 : ((l.drop 4).take 4).length = 4 := by rw [List.length_take, List.length_drop]; omega
  have hn44 : nB ((l.drop 4).take 4) = nB (l.drop 4) := by unfold nB; rw [List.take_take, Nat.min_self]
  have hnum2 : ∀ k, Calls Try.prog 51 #[.slice (some ⟨g, off + 4, none⟩) 4 (c - 4)] (w2.drewN k) fun e w' => e = .returned (.int .i64 (nB (l.drop 4) : Nat)) ∧ ∃ m, w' = (w2.drewN k).drewN m := fun k => by
    have := Ref.number_any (some ⟨g, off + 4, none⟩) (c - 4) ((l.drop 4).take 4) (w2.drewN k) ((hcut4.onlyNil ((Only.refl _ _).drewN k) (Nat.le_refl _)).up ((Only.refl Nil w2).drewN k).size) (by rw [hl4]; exact Nat.le_refl _)
    rwa [hl4, hn44] at this
  obtain ⟨n, hn⟩ : ∃ n, nB l = n := ⟨_, rfl⟩
  obtain ⟨m, hm⟩ : ∃ m, nB (l.drop 4) = m := ⟨_, rfl⟩
  rw [hn] at hnum1 hR
  rw [hm] at hnum2 hR
  have HNUM1 := Lib.hid hnum1
  have HNUM2 := Lib.hid hnum2
  have HR := Lib.hid hR
  have HNN := Lib.hid hn
  have hn4 : n < 4294967296 := by rw [← hn]; exact fN_lt l 4
  have hm4 : m < 4294967296 := by rw [← hm]; exact fN_lt (l.drop 4) 4
  have hwnm : IntKind.i64.wrap ((n : Int) + (m : Int)) = (n : Int) + (m : Int) := IntWalk.i64_in _ (by omega)
  have hwn8 : IntKind.i64.wrap ((n : Int) + 8) = (n : Int) + 8 := IntWalk.i64_in _ (by omega)
  have hlN := HL.out
  have hwN8 : IntKind.i64.wrap ((N : Int) - 8) = (N : Int) - 8 := IntWalk.i64_in _ (by omega)
  have hw8n : IntKind.i64.wrap (8 + (n : Int)) = 8 + (n : Int) := IntWalk.i64_in _ (by omega)
  have hw16n : IntKind.i64.wrap (16 + (n : Int)) = 16 + (n : Int) := IntWalk.i64_in _ (by omega)
  clear hR hN hnum1 hnum2 hcut hcut4 hl4 hn44 hn hm h8
  by_cases hnm : m + n = 4294967295
  rotate_left
  · have e1 : ((n : Int) + (m : Int) != 4294967295) = true := by
      simp only [bne_iff_ne, ne_eq]
      omega
    have e2 : ((n : Int) + (m : Int) == 4294967295) = false := beq_false_of_ne (by omega)
    have HR4 := Lib.hid (HR.out.symm.trans (if_pos (.inl hnm)))
    clear hnm
    go_enter Try.func43, Try.ntmps43
    go_upto_region 1 with fail
    rw [← HW2.out]
    go_big_quiet ((go_at_call 51; first | with_reducible exact Calls.quiet_of (HNUM1.out _) | with_reducible exact Calls.quiet_of (HNUM2.out _)))
    go_wp2_with fail
    refine bodyPost_ret (v := .tuple #[.agg #[Value.int .i64 0, .int .i64 0, .int .i64 0, .int .i64 0, .int .i64 0, .int .i64 0, .int .i64 0, .slice none 0 0], .int .i64 0, .int .u64 0, .int .i64 4]) (by simp [results, Try.results43, go_sem, k1, k1d]) rfl ?_
    refine HBAD.out 4 w2 _ HR4.out (Only.refl _ _) ?_
    (repeat' (first | with_reducible exact Only.refl _ _ | with_reducible refine Only.setCell ?_ (Or.inl ?_) _ | with_reducible refine Only.drewN ?_ _ | with_reducible refine Only.drew ?_ | with_reducible refine Only.alloc ?_ _ | (exact rfl)))
  have e1 : ((n : Int) + (m : Int) != 4294967295) = false := by
    have : (n : Int) + (m : Int) = 4294967295 := by omega
    rw [this]
    rfl
  have e2 : ((n : Int) + (m : Int) == 4294967295) = true := by
    have : (n : Int) + (m : Int) = 4294967295 := by omega
    rw [this]
    rfl
  by_cases hNn : N < n + 16
  · have e3 : decide ((N : Int) - 8 < (n : Int) + 8) = true := decide_eq_true (by omega)
    have HR4 := Lib.hid (HR.out.symm.trans (if_pos (.inr (by omega))))
    clear hnm hNn
    go_enter Try.func43, Try.ntmps43
    go_upto_region 1 with fail
    rw [← HW2.out]
    go_big_quiet ((go_at_call 51; first | with_reducible exact Calls.quiet_of (HNUM1.out _) | with_reducible exact Calls.quiet_of (HNUM2.out _)))
    go_wp2_with fail
    refine bodyPost_ret (v := .tuple #[.agg #[Value.int .i64 0, .int .i64 0, .int .i64 0, .int .i64 0, .int .i64 0, .int .i64 0, .int .i64 0, .slice none 0 0], .int .i64 0, .int .u64 0, .int .i64 4]) (by simp [results, Try.results43, go_sem, k1, k1d]) rfl ?_
    refine HBAD.out 4 w2 _ HR4.out (Only.refl _ _) ?_
    (repeat' (first | with_reducible exact Only.refl _ _ | with_reducible refine Only.setCell ?_ (Or.inl ?_) _ | with_reducible refine Only.drewN ?_ _ | with_reducible refine Only.drew ?_ | with_reducible refine Only.alloc ?_ _ | (exact rfl)))
  have e3 : decide ((N : Int) - 8 < (n : Int) + 8) = false := decide_eq_false (by omega)
  have HR2 := Lib.hid (HR.out.symm.trans (if_neg (by omega)))
  have hNn : n + 16 ≤ N := by omega
  clear hnm
  go_enter Try.func43, Try.ntmps43
  go_upto_region 1 with fail
  rw [← HW2.out]
  go_big_quiet ((go_at_call 51; first | with_reducible exact Calls.quiet_of (HNUM1.out _) | with_reducible exact Calls.quiet_of (HNUM2.out _)))
  obtain ⟨wc, hwc⟩ : ∃ wc, wc = w2.drewN nq := ⟨_, rfl⟩
  have hOc : Only Nil w2 wc := by rw [hwc]; exact (Only.refl _ _).drewN _
  have hnum3 := HNUM1.out nq
  rw [← hwc] at hnum3 ⊢
  have HNUM3 := Lib.hid hnum3
  have HOC := Lib.hid hOc
  have hbc := HB1.out.onlyNil hOc
  have HBC := Lib.hid hbc
  have kc : ∀ i, wc.cell? ⟨w.heap.size, i, none⟩ = #[Value.int .i64 0, .int .i64 0, .int .i64 0, .int .i64 0, .int .i64 0, .int .i64 0, .int .i64 0, .slice none 0 0][i]? := fun i => hbc.cell i
  have fc : ∀ i, wc.frozen? ⟨w.heap.size, i, none⟩ = false := fun i => hbc.frozen i
  clear hOc hbc k1 f1 k1d f1d hwc hnum3 e1 e2 e3
  have hbsc := (HBS.out.onlyNil HOC.out (Nat.le_refl _)).up HOC.out.size
  have hcut8 := Bs.cut (k := 8) (cap := c) hbsc (by rw [HN.out]; omega) (by rw [HN.out]; omega)
  rw [if_neg (by omega : ¬ c = 8), show Option.map (fun x : Addr => x.add 8) (some ⟨g, off, none⟩) = some ⟨g, off + 8, none⟩ from rfl] at hcut8
  have htk := Bs.take hcut8 n (by rw [List.length_drop, HN.out]; omega)
  have hcutE := Bs.cut (k := 8 + n) (cap := c) hbsc (by rw [HN.out]; omega) (by rw [HN.out]; omega)
  rw [if_neg (by omega : ¬ c = 8 + n), show Option.map (fun x : Addr => x.add (8 + n)) (some ⟨g, off, none⟩) = some ⟨g, off + (8 + n), none⟩ from congrArg some (add_at g off (8 + n))] at hcutE
  have htkE := Bs.take hcutE 8 (by rw [List.length_drop, HN.out]; omega)
  obtain ⟨bb, hbb⟩ : ∃ bb, (l.drop 8).take n = bb := ⟨_, rfl⟩
  have hbl : bb.length = n := by rw [← hbb, List.length_take, List.length_drop, HN.out]; omega
  obtain ⟨sb, hsb⟩ : ∃ sb, (l.drop (8 + n)).take 8 = sb := ⟨_, rfl⟩
  have hsl : sb.length = 8 := by rw [← hsb, List.length_take, List.length_drop, HN.out]; omega
  have hR2 := HR2.out
  rw [hbb] at htk hR2
  rw [hsb] at htkE hR2
  have hfr := fun u (hu : Only Nil wc u) => Ref.from_any h (some ⟨g, off + 8, none⟩) (c - 8) bb u ((htk.onlyNil hu (Nat.le_refl _)).up hu.size) HH.out (by omega)
  obtain ⟨H, hH⟩ : ∃ H, fromS h bb = H := ⟨_, rfl⟩
  rw [hbl, hH] at hfr
  rw [hH] at hR2
  have HFR := Lib.hid hfr
  have HBB := Lib.hid htk
  have HSB := Lib.hid htkE
  have HBL := Lib.hid hbl
  have HSL := Lib.hid hsl
  have HR3 := Lib.hid hR2
  have hHlt : H < 18446744073709551616 := by rw [← hH]; exact fromS_lt HH.out bb
  have HHL := Lib.hid hHlt
  have hn8c : (8 : Int) + (n : Int) ≤ (c : Int) := by omega
  have hn16c : (16 : Int) + (n : Int) ≤ (c : Int) := by omega
  have hn88 : (8 : Int) ≤ 8 + (n : Int) := by omega
  have hn816 : (8 : Int) + (n : Int) ≤ 16 + (n : Int) := by omega
  have ht8 : ((8 : Int) + (n : Int) - 8).toNat = n := by omega
  have h16p : (0 : Int) ≤ 16 + (n : Int) := by omega
  have h8p : (0 : Int) ≤ 8 + (n : Int) := by omega
  have hmx : (8 : Int) + (n : Int) ≤ max (16 + (n : Int)) 0 := by omega
  have ht8n : ((8 : Int) + (n : Int)).toNat = 8 + n := by omega
  have ht16n : ((16 : Int) + (n : Int)).toNat = 16 + n := by omega
  have hc8n : ¬ c = 8 + n := by omega
  have h168 : 16 + n - (8 + n) = 8 := by omega
  have ht16 : ((16 : Int) + (n : Int) - (8 + (n : Int))).toNat = 8 := by omega
  clear htk htkE hbl hsl hcut8 hcutE hbb hsb hH hR2 hfr HR2 hHlt hbsc
  go_wp2_with fail
  refine HNUM3.out.mono ?_
  rintro e w3 ⟨rfl, mq, hq3⟩
  have HO3 : Hid (Only Nil wc w3) := Lib.hid (by rw [hq3]; exact (Only.refl _ _).drewN _)
  clear hq3
  go_wp2_with fail
  refine (HFR.out _ HO3.out).mono ?_
  rintro e w3 ⟨rfl, rfl⟩
  obtain ⟨Tq, hTq⟩ : ∃ Tq : Bool, (sb != le8 H) = Tq := ⟨_, rfl⟩
  have HTQ := Lib.hid hTq
  clear hTq
  have HE8 := Lib.hid (fun u => Ref.eight_any H u HHL.out)
  have HST1 := Lib.hid (fun (u : World) (hu : Only Nil wc u) => run_str (P := Try.prog) u 26 9 5 Try.underlying26 Try.underlying5 Try.underlying9 (c := c - (8 + n)) (HSB.out.onlyNil hu (Nat.le_refl _)) HSL.out.symm)
  have HST2 := Lib.hid (fun (u : World) (Ax : Option Addr) (cx : Nat) (hb : Bs u u.heap.size Ax (le8 H)) => run_str (P := Try.prog) u 26 9 5 Try.underlying26 Try.underlying5 Try.underlying9 (c := cx) hb (le8_len H).symm)
  clear kc fc
  go_upto_region 5 with fail
  go_cut [51] (fun v wd => v = .bool Tq ∧ Only Nil w3 wd)
  case first =>
    have hT1 : (sb != le8 H) = Tq := HTQ.out
    obtain ⟨L8, hL8⟩ : ∃ L8, le8 H = L8 := ⟨_, rfl⟩
    rw [hL8] at hT1 HST2 HE8
    have hl8 : L8.length = 8 := by rw [← hL8]; exact le8_len H
    unfold BytesPost at HE8
    rw [hl8] at HE8
    clear hL8 hl8
    have HIN : Hid (∀ (L : Nat → Bool) (vs : Nat → Value) (u u' : World), Only Nil u u' → (fun _ _ u => Only Nil w3 u) L vs u → (fun _ _ u => Only Nil w3 u) L vs u') := Lib.hid (fun L vs u u' hO hI => by
      exact hI.thenNil hO)
    refine wp_region_any (by kernel_rfl) ?_
    change wpAny _ _ _ _ _ _ _ (World.drew _)
    refine take_first (i := 0) (v := ?v0_9) (some 41) rfl (by rfl) (by kernel_rfl) (by kernel_rfl) (by kernel_rfl) (fun _ _ _ h => h) (Or.inl ⟨by rfl, ?hy0_9⟩) ?rest0_9
    case hy0_9 => (intro w; go_simp <;> with_reducible rfl)
    refine take_first (i := 1) (v := ?v1_9) (some 42) rfl (by rfl) (by kernel_rfl) (by kernel_rfl) (by kernel_rfl) (fun _ _ _ h => h) (Or.inl ⟨by rfl, ?hy1_9⟩) ?rest1_9
    case hy1_9 => (intro w; go_simp <;> with_reducible rfl)
    refine take_first (i := 2) (v := ?v2_9) (some 43) rfl (by rfl) (by kernel_rfl) (by kernel_rfl) (by kernel_rfl) (fun _ _ _ h => h) (Or.inl ⟨by rfl, ?hy2_9⟩) ?rest2_9
    case hy2_9 => (intro w; go_simp <;> with_reducible rfl)
    refine take_first (i := 3) (v := ?v3_9) (some 44) rfl (by rfl) (by kernel_rfl) (by kernel_rfl) (by kernel_rfl) (fun _ _ _ h => h) (Or.inl ⟨by rfl, ?hy3_9⟩) ?rest3_9
    case hy3_9 => (intro w; go_simp <;> with_reducible rfl)
    refine take_first (i := 4) (v := ?v4_9) (some 45) rfl (by rfl) (by kernel_rfl) (by kernel_rfl) (by kernel_rfl) (fun _ _ _ h => h) (Or.inl ⟨by rfl, ?hy4_9⟩) ?rest4_9
    case hy4_9 => (intro w; go_simp <;> with_reducible rfl)
    refine take_first (i := 5) (v := ?v5_9) (some 46) rfl (by rfl) (by kernel_rfl) (by kernel_rfl) (by kernel_rfl) (fun _ _ _ h => h) (Or.inl ⟨by rfl, ?hy5_9⟩) ?rest5_9
    case hy5_9 => (intro w; go_simp <;> with_reducible rfl)
    refine take_first (i := 7) (v := ?v7_9) (some 48) rfl (by rfl) (by kernel_rfl) (by kernel_rfl) (by kernel_rfl) (fun _ _ _ h => h) (Or.inl ⟨by rfl, ?hy7_9⟩) ?rest7_9
    case hy7_9 => (intro w; go_simp <;> with_reducible rfl)
    refine wpAny_inv2 (X := [(6, some 47, []), (8, some 49, []), (9, some 50, [8])]) (n := 3) (g := 1) (m := 10) (l0 := [true, true, true, true, true, true, false, true, false, false, false]) (T := Nil) (Ps := [Any, Any, Any, Any, Any, Any, Cst (.string ⟨sb.toArray⟩), Any, OwnB8 w3.heap.size L8, Cst (.string ⟨L8.toArray⟩)])
      (I := fun _ _ u => Only Nil w3 u)
      (by kernel_rfl) rfl (by kernel_rfl) (by kernel_rfl) (by kernel_rfl) rfl ?h0_9 ?st_9 ?i0_9 ?step_9 ?fin_9
    case h0_9 =>
      intro j hj v u
      match j, hj with
      | 0, hj => trivial
      | 1, hj => trivial
      | 2, hj => trivial
      | 3, hj => trivial
      | 4, hj => trivial
      | 5, hj => trivial
      | 6, hj => exact absurd hj (by decide)
      | 7, hj => trivial
      | 8, hj => exact absurd hj (by decide)
      | 9, hj => exact absurd hj (by decide)
      | 10, hj => exact absurd hj (by decide)
      | n + 11, hj => exact absurd hj (by simp)
    case st_9 =>
      have hT : ∀ x, (Nil) x → x < 0 := fun x h => h.elim
      intro p hp
      simp only [List.mem_cons, List.not_mem_nil, or_false] at hp
      rcases hp with rfl | rfl | rfl | rfl | rfl | rfl | rfl | rfl | rfl | rfl <;> first | exact Stays.cst _ | exact Stays.own hT | exact Stays.emp hT | exact Stays.any | exact Stays.ownB8
    case i0_9 =>
      intro vs
      exact (Only.refl _ _).drew
    case step_9 =>
      intro x hx L vs u hI hA h0 hd
      simp only [List.mem_cons, List.not_mem_nil, or_false] at hx
      rcases hx with rfl | rfl | rfl
      · refine inv_step _ (by rfl) (by rfl) (fun K' hK => ?_)
        simp only [putAll, Act.put, List.setIfInBounds_toArray, List.set_cons_succ, List.set_cons_zero] at hK ⊢
        have ks := HST1.out u (HO3.out.thenNil hI)
        go_simp
        exact hK _ _ ⟨Only.refl _ _, hI, rfl⟩
      · refine inv_step _ (by rfl) (by rfl) (fun K' hK => ?_)
        simp only [putAll, Act.put, List.setIfInBounds_toArray, List.set_cons_succ, List.set_cons_zero] at hK ⊢
        go_simp
        go_at_call 41
        refine (HE8.out u).mono ?_
        rintro z u2 ⟨A2, c2, rfl, hc2, ho2, hO2⟩
        go_simp
        exact hK _ _ ⟨hO2, HIN.out L vs _ _ hO2 hI, ⟨A2, c2, rfl, (Bs.of_own ho2).1⟩⟩
      · refine inv_step _ (by rfl) (by rfl) (fun K' hK => ?_)
        simp only [putAll, Act.put, List.setIfInBounds_toArray, List.set_cons_succ, List.set_cons_zero] at hK ⊢
        obtain ⟨A2, c2, e8, hb8⟩ := hA 8 (hd 8 (by simp))
        have ks := HST2.out u A2 c2 hb8
        simp only [e8] at hK ⊢
        go_simp
        exact hK _ _ ⟨Only.refl _ _, hI, rfl⟩
    case fin_9 =>
      intro L vs u hI hL hA
      simp only [putAll, Act.put, List.setIfInBounds_toArray, List.set_cons_succ, List.set_cons_zero, List.drop_succ_cons, List.drop_zero]
      have e6 := hA 6 (by omega)
      change vs 6 = .string ⟨sb.toArray⟩ at e6
      have e9 := hA 9 (by omega)
      change vs 9 = .string ⟨L8.toArray⟩ at e9
      simp only [e6, e9]
      have HI := Lib.hid hI
      clear hA hL hI e6 e9
      go_wp2_with fail
      go_meet
      case rel => exact ⟨by rw [← hT1]; rfl, HI.out⟩
  case rest =>
  obtain ⟨rfl, hOd⟩ := hcut
  obtain ⟨w4, rfl⟩ : ∃ w4, w4 = wc := ⟨_, rfl⟩
  have HO4 := Lib.hid ((HOC.out.thenNil HO3.out).thenNil hOd)
  have HO34 := Lib.hid (HO3.out.thenNil hOd)
  have hb4 := HB1.out.onlyNil HO4.out
  have k4 : ∀ i, w4.cell? ⟨w.heap.size, i, none⟩ = #[Value.int .i64 0, .int .i64 0, .int .i64 0, .int .i64 0, .int .i64 0, .int .i64 0, .int .i64 0, .slice none 0 0][i]? := fun i => hb4.cell i
  have f4 : ∀ i, w4.frozen? ⟨w.heap.size, i, none⟩ = false := fun i => hb4.frozen i
  clear hOd hb4
  cases Tq
  rotate_left
  · have hne : sb ≠ le8 H := fun e => by
      have h1 := HTQ.out
      rw [e] at h1
      simp at h1
    have HR4 := Lib.hid (HR3.out.trans (if_pos hne))
    clear hne
    go_wp2_with fail
    refine bodyPost_ret (v := .tuple #[.agg #[Value.int .i64 0, .int .i64 0, .int .i64 0, .int .i64 0, .int .i64 0, .int .i64 0, .int .i64 0, .slice none 0 0], .int .i64 0, .int .u64 0, .int .i64 5]) (by simp [results, Try.results43, go_sem, k4]) rfl ?_
    refine HBAD.out 5 w4 _ HR4.out HO4.out ?_
    (repeat' (first | with_reducible exact Only.refl _ _ | with_reducible refine Only.setCell ?_ (Or.inl ?_) _ | with_reducible refine Only.drewN ?_ _ | with_reducible refine Only.drew ?_ | with_reducible refine Only.alloc ?_ _ | (exact rfl)))
  have heq : sb = le8 H := by
    have h1 := HTQ.out
    simpa using h1
  have HR4 := Lib.hid (HR3.out.trans (if_neg (by simp [heq])))
  obtain ⟨i0, hi0, hz0, hz1, hz2⟩ := info_parts byte_info
  have hqrd : Rd (w4.alloc (.cells #[] 5)) wc.heap.size 1 (some ⟨g, off + 8, none⟩) n (bcells bb) := by
    have h1 := Rd.onlyNil HBB.out (HO34.out.thenNil ((Only.refl Nil w4).alloc (.cells #[] 5))) (Nat.le_refl _)
    rwa [HBL.out] at h1
  have hqown : (w4.alloc (.cells #[] 5)).ownsRow w4.heap.size 5 1 (.slice (some ⟨w4.heap.size, 0, none⟩) 0 0) 0 [] := World.ownsRow_lit w4 #[] 0 (Nat.le_refl _) (by unfold maxLen; omega) rfl
  have HQRD := Lib.hid hqrd
  have HQOWN := Lib.hid hqown
  clear heq hqrd hqown
  go_wp2_with (at_builtin; go_must (refine wpList_append_rd _ rfl (.tmp 53) (.tmp 57) _ rfl w4.heap.size 5 i0 (.int .u8 0) 1 1 Try.underlying26 hi0 hz0 hz1 hz2 rfl (by omega) (.slice (some ⟨w4.heap.size, 0, none⟩) 0 0) 0 [] rfl HQOWN.out _ (some ⟨g, off + 8, none⟩) n (c - 8) (bcells bb) rfl HQRD.out (bcells_one bb) n (by omega) (bcells bb) rfl (by unfold maxLen; omega) (by omega) (by simp) ?_))
  intro A7 c7 w7 hc7 hown7 hgr7 hat7
  have hO7 : Only Nil w4 w7 := ((Only.refl _ _).alloc _).grown hgr7 (fun q hq => .inr (Nat.le_of_eq (by simpa [Value.ownBlock] using hq)))
  obtain ⟨w8, hw8⟩ : ∃ w8, w8 = w7.alloc (.cells #[.slice A7 n c7, .int .i64 0, .bool false] 81) := ⟨_, rfl⟩
  have hO8 : Only Nil w7 w8 := by rw [hw8]; exact (Only.refl _ _).alloc _
  have hb8 : Blk w8 w7.heap.size 81 #[.slice A7 n c7, .int .i64 0, .bool false] := by rw [hw8]; exact Blk.new _ _ _
  have hbs8 := own_onlyNil hown7 hO8
  have hrf : RF w8 w7.heap.size A7 c7 bb 0 false := ⟨by rw [HBL.out]; exact hb8, by have := (Bs.of_own hbs8).1; exact this, by rw [HBL.out]; exact hc7⟩
  have hre := rfEnt_any w7.heap.size A7 c7 bb 0 false w8 hrf (Nat.zero_le _) (by rw [HBL.out]; omega) (cap_of_own hown7)
  obtain ⟨⟨x, q1, fl⟩, hrE⟩ : ∃ r, rEnt bb 0 false = r := ⟨_, rfl⟩
  have hreq := readE_eq bb
  rw [hrE] at hre hreq
  dsimp only at hreq
  have HREQ := Lib.hid hreq
  have HRE := Lib.hid hre
  have HW8 := Lib.hid hw8
  have HO8 := Lib.hid ((HO4.out.thenNil hO7).thenNil hO8)
  have HSZ8 := Lib.hid (show w2.heap.size ≤ w7.heap.size by have := HO4.out.size; have := hO7.size; omega)
  clear hc7 hown7 hgr7 hat7 hO7 hw8 hO8 hb8 hbs8 hrf hre hrE hreq k4 f4
  go_upto_region 8 with fail
  go_wp2_with fail
  rw [← HW8.out]
  refine HRE.out.mono ?_
  clear HRE
  rintro e w9 ⟨Ax, cx, rfl, hcx, hown, hRF, hO9⟩
  dsimp only at hcx hown hRF ⊢
  have hO9w : Only Nil w2 w9 := HO8.out.trans hO9 (fun x hx => .inr (by unfold One at hx; have := HSZ8.out; have := HO2.out.size; have := HO8.out.size; omega))
  obtain ⟨w10, hw10⟩ : ∃ w10, w10 = w9.alloc (.cells (ecl Ax cx x) 39) := ⟨_, rfl⟩
  have hO10 : Only Nil w9 w10 := by rw [hw10]; exact (Only.refl _ _).alloc _
  have hb10 : Blk w10 w9.heap.size 39 (ecl Ax cx x) := by rw [hw10]; exact Blk.new _ _ _
  have HEND := Lib.hid (rfEnd_any w7.heap.size A7 c7 bb q1 fl w10 (hRF.onlyNil hO10))
  have HO10 := Lib.hid (hO9w.thenNil hO10)
  have HB10 := Lib.hid hb10
  have HOWN10 := Lib.hid (own_base (own_onlyNil hown hO10) (by have := HSZ8.out; have := HO8.out.size; have := HO2.out.size; omega : w.heap.size ≤ w8.heap.size))
  have HCX := Lib.hid hcx
  clear hcx hown hRF hO9 hO9w hO10 hb10
  obtain ⟨kind, task, call, a0, a1, a2, result, data⟩ := x
  unfold ecl ER.cells at hw10 HB10 ⊢
  dsimp only at hw10 HB10 HCX HOWN10 ⊢
  have HW10 := Lib.hid hw10
  clear hw10
  go_upto_region 9 with fail
  rw [← HW10.out]
  go_wp2_with fail
  refine HEND.out.mono ?_
  clear HEND
  rintro e w11 ⟨rfl, hO11⟩
  have HO11 := Lib.hid (HO10.out.thenNil hO11)
  have HOWN11 := Lib.hid (own_onlyNil HOWN10.out hO11)
  have hb11 := HB10.out.onlyNil hO11
  have kx11 : ∀ i, w11.cell? ⟨w9.heap.size, i, none⟩ = #[Value.int .i64 kind, .int .i64 task, .int .i64 call, .int .i64 a0, .int .i64 a1, .int .i64 a2, .int .i64 result, .slice Ax data.length cx][i]? := fun i => hb11.cell i
  have hr11 := HB1.out.onlyNil HO11.out
  have k11 : ∀ i, w11.cell? ⟨w.heap.size, i, none⟩ = #[Value.int .i64 0, .int .i64 0, .int .i64 0, .int .i64 0, .int .i64 0, .int .i64 0, .int .i64 0, .slice none 0 0][i]? := fun i => hr11.cell i
  have f11 : ∀ i, w11.frozen? ⟨w.heap.size, i, none⟩ = false := fun i => hr11.frozen i
  have HB11 := Lib.hid hb11
  clear hO11 hb11 hr11
  by_cases hE : fl = true ∨ q1 ≠ bb.length
  · have hre := HREQ.out
    rw [if_pos hE] at hre
    rw [if_pos hE]
    have HR5 := Lib.hid (HR4.out.trans (if_pos (.inl (by rw [hre]; simp))))
    clear hre hE
    go_wp2_with fail
    refine bodyPost_ret (v := .tuple #[.agg #[Value.int .i64 0, .int .i64 0, .int .i64 0, .int .i64 0, .int .i64 0, .int .i64 0, .int .i64 0, .slice none 0 0], .int .i64 0, .int .u64 0, .int .i64 4]) (by simp [results, Try.results43, go_sem, k11]) rfl ?_
    refine HBAD.out 4 w11 _ HR5.out HO11.out ?_
    (repeat' (first | with_reducible exact Only.refl _ _ | with_reducible refine Only.setCell ?_ (Or.inl ?_) _ | with_reducible refine Only.drewN ?_ _ | with_reducible refine Only.drew ?_ | with_reducible refine Only.alloc ?_ _ | (exact rfl)))
  have hre := HREQ.out
  rw [if_neg hE] at hre
  rw [if_neg hE]
  have hr4 := HR4.out
  rw [hre] at hr4
  dsimp only at hr4
  have hva := Ref.valid_any ⟨Ax, cx, ⟨kind, task, call, a0, a1, a2, result, data⟩⟩ w11
  unfold ER.cells at hva
  dsimp only at hva
  obtain ⟨V, hV⟩ : ∃ V, vE ⟨kind, task, call, a0, a1, a2, result, data⟩ = V := ⟨_, rfl⟩
  rw [hV] at hva hr4
  have HVA := Lib.hid hva
  have HR5 := Lib.hid hr4
  clear hva hV hr4 hre hE
  go_wp2_with fail
  refine HVA.out.mono ?_
  rintro e w12 ⟨rfl, hO12⟩
  have HO12 := Lib.hid (HO11.out.thenNil hO12)
  have HOWN12 := Lib.hid (own_onlyNil HOWN11.out hO12)
  have hb12 := HB11.out.onlyNil hO12
  have kx12 : ∀ i, w12.cell? ⟨w9.heap.size, i, none⟩ = #[Value.int .i64 kind, .int .i64 task, .int .i64 call, .int .i64 a0, .int .i64 a1, .int .i64 a2, .int .i64 result, .slice Ax data.length cx][i]? := fun i => hb12.cell i
  have hr12 := HB1.out.onlyNil HO12.out
  have k12 : ∀ i, w12.cell? ⟨w.heap.size, i, none⟩ = #[Value.int .i64 0, .int .i64 0, .int .i64 0, .int .i64 0, .int .i64 0, .int .i64 0, .int .i64 0, .slice none 0 0][i]? := fun i => hr12.cell i
  have f12 : ∀ i, w12.frozen? ⟨w.heap.size, i, none⟩ = false := fun i => hr12.frozen i
  have HB12 := Lib.hid hr12
  clear hO12 hb12 kx11 k11 f11 hr12
  cases V
  · have HR6 := Lib.hid (HR5.out.trans (if_pos (.inr rfl)))
    go_wp2_with fail
    refine bodyPost_ret (v := .tuple #[.agg #[Value.int .i64 0, .int .i64 0, .int .i64 0, .int .i64 0, .int .i64 0, .int .i64 0, .int .i64 0, .slice none 0 0], .int .i64 0, .int .u64 0, .int .i64 4]) (by simp [results, Try.results43, go_sem, k12]) rfl ?_
    refine HBAD.out 4 w12 _ HR6.out HO12.out ?_
    (repeat' (first | with_reducible exact Only.refl _ _ | with_reducible refine Only.setCell ?_ (Or.inl ?_) _ | with_reducible refine Only.drewN ?_ _ | with_reducible refine Only.drew ?_ | with_reducible refine Only.alloc ?_ _ | (exact rfl)))
  · have HR6 := Lib.hid (HR5.out.trans (if_neg (by simp)))
    have hgood : ∀ v, Only (One w.heap.size) w12 v → NxPost R w (.returned (.tuple #[.agg #[Value.int .i64 kind, .int .i64 task, .int .i64 call, .int .i64 a0, .int .i64 a1, .int .i64 a2, .int .i64 result, .slice Ax data.length cx], .int .i64 (16 + (n : Int)), .int .u64 H, .int .i64 0])) v := fun v h1 => by
      rw [HR6.out]
      refine ⟨Ax, cx, ?_, HCX.out, ?_, (HO2.out.thenNil HO12.out).trans h1 (fun x hx => .inr (by unfold One at hx; omega))⟩
      · show _ = Ending.returned (.tuple #[.agg #[Value.int .i64 kind, .int .i64 task, .int .i64 call, .int .i64 a0, .int .i64 a1, .int .i64 a2, .int .i64 result, .slice Ax data.length cx], .int .i64 ((16 + n : Nat) : Int), .int .u64 H, .int .i64 0])
        rw [show ((16 + n : Nat) : Int) = 16 + (n : Int) by omega]
      · exact own_only HOWN12.out h1 (fun q hq hx => own_blk_ne HOWN12.out HB12.out (by decide) (by rw [hq, hx]))
    have HGOOD := Lib.hid hgood
    clear hgood
    go_wp2_with fail
    refine bodyPost_ret (v := .tuple #[.agg #[Value.int .i64 kind, .int .i64 task, .int .i64 call, .int .i64 a0, .int .i64 a1, .int .i64 a2, .int .i64 result, .slice Ax data.length cx], .int .i64 (16 + (n : Int)), .int .u64 H, .int .i64 0]) (by simp [results, Try.results43, go_sem, k12]) rfl ?_
    refine HGOOD.out _ ?_
    (repeat' (first | with_reducible exact Only.refl _ _ | with_reducible refine Only.setCell ?_ (Or.inl ?_) _ | with_reducible refine Only.drewN ?_ _ | with_reducible refine Only.drew ?_ | with_reducible refine Only.alloc ?_ _ | (exact rfl)))

end Go.Proofs.Ytkcmdibpndkfbaa

namespace Go.Proofs.Ytkcmdibpndkfbaa
open Go.RowKit

set_option maxRecDepth 100000 in
set_option maxHeartbeats 4000000 in
theorem Ref.read_any (A : Option Addr) (c : Nat) (l : List UInt8) (w : World) (hb : Bs w w.heap.size A l) (hl : l.length ≤ 1000000) (hlc : l.length ≤ c) (hcm : c ≤ maxLen) :
    Calls Try.prog 27 #[.slice A l.length c] w (RdPost (readR l) w) := by
  obtain ⟨N, hN⟩ : ∃ N, l.length = N := ⟨_, rfl⟩
  obtain ⟨R, hR⟩ : ∃ R, readR l = R := ⟨_, rfl⟩
  rw [hN, hR]
  unfold readR at hR
  rw [hN] at hR
  have HN := Lib.hid hN
  have HB := Lib.hid hb
  have hlN : N ≤ 1000000 := by omega
  have hNc : N ≤ c := by omega
  have hno : ∀ e, ([], 0, 4) = R → e = .returned (.tuple #[.slice none 0 0, .int .i64 0, .int .i64 4]) → ∀ u, Only Nil w u → RdPost R w e u := fun e h1 h2 u hu => by
    rw [← h1, h2]
    exact ⟨none, 0, [], rfl, rfl, Nat.le_refl _, ⟨World.ownsRow_nil _ _ _ _, fun r hr => by cases hr⟩, hu⟩
  have HNO := Lib.hid hno
  have HCM := Lib.hid hcm
  clear hno hb hl hlc hcm
  by_cases h5 : N < 5
  · have h5i : (N : Int) < 5 := by omega
    rw [if_neg (fun e => by have h1 := congrArg List.length e; rw [List.length_take, hN] at h1; have h2 : magic.length = 5 := rfl; omega)] at hR
    have HR := Lib.hid hR
    clear hR hN h5
    go_enter Try.func27, Try.ntmps27
    go_wp2_with fail
    refine bodyPost_ret (v := .tuple #[.slice none 0 0, .int .i64 0, .int .i64 4]) (by simp [results, Try.results27, go_sem]) rfl ?_
    exact HNO.out _ HR.out rfl _ (by (repeat' (first | with_reducible exact Only.refl _ _ | with_reducible refine Only.setCell ?_ (Or.inl ?_) _ | with_reducible refine Only.drewN ?_ _ | with_reducible refine Only.drew ?_ | with_reducible refine Only.alloc ?_ _ | (fail))))
  have h5i : ¬ (N : Int) < 5 := by omega
  have h5c : (5 : Int) ≤ (c : Int) := by omega
  obtain ⟨T, hT⟩ : ∃ T, l.take 5 = T := ⟨_, rfl⟩
  have htk := Bs.take HB.out 5 (by rw [HN.out]; omega)
  rw [hT] at htk hR
  have hTl : 5 = T.length := by rw [← hT, List.length_take, HN.out]; omega
  have kst := run_str (P := Try.prog) w 26 9 5 Try.underlying26 Try.underlying5 Try.underlying9 (c := c) htk hTl
  by_cases hm : T = magic
  rotate_left
  · rw [if_neg hm] at hR
    have HR := Lib.hid hR
    have hst : (T == [82, 84, 78, 82, 49]) = false := by rw [beq_eq_false_iff_ne]; exact hm
    clear hR hN h5 hm hT htk hTl
    go_enter Try.func27, Try.ntmps27
    go_wp2_with fail
    refine bodyPost_ret (v := .tuple #[.slice none 0 0, .int .i64 0, .int .i64 4]) (by simp [results, Try.results27, go_sem]) rfl ?_
    exact HNO.out _ HR.out rfl _ (by (repeat' (first | with_reducible exact Only.refl _ _ | with_reducible refine Only.setCell ?_ (Or.inl ?_) _ | with_reducible refine Only.drewN ?_ _ | with_reducible refine Only.drew ?_ | with_reducible refine Only.alloc ?_ _ | (fail))))
  obtain ⟨i0, hi0, hz0, hz1, hz2⟩ := info_parts entry_info
  rw [if_pos hm] at hR
  subst hm
  obtain ⟨W1, hW1⟩ : ∃ W1, W1 = w.alloc (.cells #[.int .u8 82, .int .u8 84, .int .u8 78, .int .u8 82, .int .u8 49] 5 (5, 6)) := ⟨_, rfl⟩
  have hO1 : Only Nil w W1 := by rw [hW1]; exact (Only.refl _ _).alloc _
  have hown1 : OwnX W1 w.heap.size (some ⟨w.heap.size, 0, none⟩) 5 magic := by
    rw [hW1]
    exact .inr ⟨_, _, rfl, rfl, Nat.le_refl _, heap_alloc_new w _, Nat.le_refl _, by decide, by decide⟩
  have hof := Ref.of_any _ 5 magic W1 hown1.bs (by decide)
  rw [show magic.length = 5 from rfl] at hof
  obtain ⟨S, hS⟩ : ∃ S, ofS magic = S := ⟨_, rfl⟩
  have hSl : S < 18446744073709551616 := by rw [← hS]; exact ofS_lt magic
  rw [hS] at hof hR
  have HOF := Lib.hid hof
  have HW1 := Lib.hid hW1
  have HO1 := Lib.hid hO1
  have HSL := Lib.hid hSl
  have HR := Lib.hid hR
  unfold magic at kst
  have kc := Lib.run_convert_bytes_const (P := Try.prog) w 26 5 #[.int .u8 82, .int .u8 84, .int .u8 78, .int .u8 82, .int .u8 49] 5 5 Try.underlying26 Try.underlying5
  have KC := Lib.hid kc
  have h5n : 5 ≤ N := by omega
  clear kc hof hW1 hO1 hown1 hS hSl hR hN h5 hT htk hTl
  go_enter Try.func27, Try.ntmps27
  go_upto_region 4 with fail
  go_wp2_with fail
  rw [KC.out]
  go_wp2_with fail
  rw [← HW1.out]
  refine HOF.out.mono ?_
  rintro e w2 ⟨rfl, hO2⟩
  have HO2 := Lib.hid (HO1.out.thenNil hO2)
  clear hO2 kst
  go_wp2_with fail
  go_loopw [5, 6, 7] (fun vo va vh wr => ∃ (Ao : Option Addr) (co : Nat) (rs : List ER) (h k f : Nat), vo = .slice Ao rs.length co ∧ vh = .int .u64 h ∧ va = .int .i64 k ∧ k ≤ N ∧ h < 18446744073709551616 ∧ N < f + k ∧ rs.length ≤ k ∧ rs.length ≤ co ∧
    rs.map ER.x ++ (readB f (l.drop k) h).1 = R.1 ∧ k + (readB f (l.drop k) h).2.1 = R.2.1 ∧ (readB f (l.drop k) h).2.2 = R.2.2 ∧ EL w.heap.size wr Ao co rs ∧ Only Nil w wr) (fun _ va _ _ => N - (intOf va).toNat)
  case atStart =>
    refine ⟨none, 0, [], S, 5, N, rfl, rfl, rfl, h5n, HSL.out, by omega, Nat.zero_le _, Nat.le_refl _, ?_, ?_, ?_, ⟨World.ownsRow_nil _ _ _ _, fun r hr => by cases hr⟩, HO2.out⟩
    · rw [← HR.out]; rfl
    · rw [← HR.out]
    · rw [← HR.out]
  case round =>
    obtain ⟨Ao, co, rs, h, k, f, rfl, rfl, rfl, hk, hh, hf, hrk, hco, hr1, hr2, hr3, hel, hO⟩ := hrel
    obtain ⟨M, hM⟩ : ∃ M, rs.length = M := ⟨_, rfl⟩
    rw [hM] at hrk hco ⊢
    have HEL := Lib.hid hel
    have HO := Lib.hid hO
    have HM := Lib.hid hM
    have HK := Lib.hid hk
    have HRK := Lib.hid hrk
    have HCO := Lib.hid hco
    obtain ⟨f, rfl⟩ : ∃ f', f = f' + 1 := ⟨f - 1, by omega⟩
    by_cases hlt : k < N
    · have hki : (k : Int) < N := by omega
      have hkc : ¬ c = k := by omega
      have hkc1 : (k : Int) ≤ (c : Int) := by omega
      have hkN1 : (k : Int) ≤ (N : Int) := by omega
      have hb1 := (HB.out.onlyNil HO.out (Nat.le_refl _)).up HO.out.size
      obtain ⟨g, off, rfl, _, _⟩ := HB.out.2 (by rw [HN.out]; omega)
      have hcut := Bs.cut (k := k) (cap := c) hb1 (by rw [HN.out]; omega) (by rw [HN.out]; omega)
      rw [if_neg hkc, show Option.map (fun x : Addr => x.add k) (some ⟨g, off, none⟩) = some ⟨g, off + k, none⟩ from congrArg some (add_at g off k)] at hcut
      have hfr := Ref.next_any (some ⟨g, off + k, none⟩) (c - k) (l.drop k) h wr hcut (by rw [List.length_drop, HN.out]; omega) (by rw [List.length_drop, HN.out]; omega) (Nat.le_trans (Nat.sub_le _ _) HCM.out) hh
      rw [List.length_drop, HN.out] at hfr
      have hN0 : ¬ (l.drop k).length = 0 := by rw [List.length_drop, HN.out]; omega
      have hfb := frameR_bound (l.drop k) h
      rw [List.length_drop, HN.out] at hfb
      unfold readB at hr1 hr2 hr3
      rw [if_neg hN0] at hr1 hr2 hr3
      obtain ⟨⟨x, h2, n, q⟩, hF⟩ : ∃ F, frameR (l.drop k) h = F := ⟨_, rfl⟩
      rw [hF] at hfr hr1 hr2 hr3 hfb
      dsimp only at hr1 hr2 hr3 hfb
      have HFR := Lib.hid hfr
      have HRR := Lib.hid (And.intro hr1 (And.intro hr2 hr3))
      have HF := Lib.hid hf
      have HFB := Lib.hid hfb
      clear hfr hr1 hr2 hr3 hF hfb hcut hb1 hN0 hel hO hM hk hrk hco hlt hf
      go_wp2_with fail
      refine HFR.out.mono ?_
      rintro e w4 ⟨Ax, cx, rfl, hcx, hown, hO4⟩
      obtain ⟨kind, task, call, a0, a1, a2, result, data⟩ := x
      obtain ⟨w5, hw5⟩ : ∃ w5, w5 = w4.alloc (.cells #[Value.int .i64 kind, .int .i64 task, .int .i64 call, .int .i64 a0, .int .i64 a1, .int .i64 a2, .int .i64 result, .slice Ax data.length cx] 39) := ⟨_, rfl⟩
      have hO5 : Only Nil w4 w5 := by rw [hw5]; exact (Only.refl _ _).alloc _
      have hb5 : Blk w5 w4.heap.size 39 #[Value.int .i64 kind, .int .i64 task, .int .i64 call, .int .i64 a0, .int .i64 a1, .int .i64 a2, .int .i64 result, .slice Ax data.length cx] := by rw [hw5]; exact Blk.new _ _ _
      have kx5 : ∀ i, w5.cell? ⟨w4.heap.size, i, none⟩ = #[Value.int .i64 kind, .int .i64 task, .int .i64 call, .int .i64 a0, .int .i64 a1, .int .i64 a2, .int .i64 result, .slice Ax data.length cx][i]? := fun i => hb5.cell i
      have HW5 := Lib.hid hw5
      have HOW := Lib.hid (own_base (own_onlyNil hown hO5) HO.out.size)
      have HO5 := Lib.hid (HO.out.thenNil (hO4.thenNil hO5))
      have HEL5 := Lib.hid ((HEL.out.onlyNil hO4).onlyNil hO5)
      have HCX := Lib.hid hcx
      clear hw5 hO5 hb5 hown hO4 hcx
      unfold ecl ER.cells
      dsimp only
      go_upto_region 7 with fail
      rw [← HW5.out]
      by_cases hq : q = 0
      rotate_left
      · have hqb : (q != 0) = true := by simp [hq]
        have hqb2 : (q == 0) = false := by simp [hq]
        obtain ⟨e1, e2, e3⟩ := HRR.out
        rw [if_pos hq] at e1 e2 e3
        have HE := Lib.hid (And.intro e1 (And.intro e2 e3))
        clear e1 e2 e3 hq
        go_wp2_with fail
        refine bodyPost_ret (v := .tuple #[.slice Ao M co, .int .i64 k, .int .i64 q]) (by simp [results, Try.results27, go_sem]) rfl ?_
        obtain ⟨e1, e2, e3⟩ := HE.out
        rw [List.append_nil] at e1
        rw [Nat.add_zero] at e2
        refine ⟨Ao, co, rs, e1, ?_, by rw [HM.out]; exact HCO.out, ?_, ?_⟩
        · rw [HM.out, ← e2, ← e3]
        · exact HEL5.out.onlyNil (by (repeat' (first | with_reducible exact Only.refl _ _ | with_reducible refine Only.setCell ?_ (Or.inl ?_) _ | with_reducible refine Only.drewN ?_ _ | with_reducible refine Only.drew ?_ | with_reducible refine Only.alloc ?_ _ | (fail))))
        · exact HO5.out.thenNil (by (repeat' (first | with_reducible exact Only.refl _ _ | with_reducible refine Only.setCell ?_ (Or.inl ?_) _ | with_reducible refine Only.drewN ?_ _ | with_reducible refine Only.drew ?_ | with_reducible refine Only.alloc ?_ _ | (fail))))
      · subst hq
        obtain ⟨e1, e2, e3⟩ := HRR.out
        rw [if_neg (by simp)] at e1 e2 e3
        dsimp only at e1 e2 e3
        have hfb2 := HFB.out rfl
        have HE := Lib.hid (And.intro e1 (And.intro e2 e3))
        obtain ⟨w6, hw6⟩ : ∃ w6, w6 = w5.alloc (.cells #[Value.int .i64 kind, .int .i64 task, .int .i64 call, .int .i64 a0, .int .i64 a1, .int .i64 a2, .int .i64 result, .slice Ax data.length cx] 39) := ⟨_, rfl⟩
        have hO6 : Only Nil w5 w6 := by rw [hw6]; exact (Only.refl _ _).alloc _
        have hb6 : Blk w6 w5.heap.size 39 #[Value.int .i64 kind, .int .i64 task, .int .i64 call, .int .i64 a0, .int .i64 a1, .int .i64 a2, .int .i64 result, .slice Ax data.length cx] := by rw [hw6]; exact Blk.new _ _ _
        have hs6 : w5.heap.size < w6.heap.size := hb6.lt
        have hrow := (HEL5.out.onlyNil hO6).row
        have hbase : w.heap.size ≤ w6.heap.size := by have := HO5.out.size; omega
        rw [HM.out] at hrow
        subst hw6
        have HB6 := Lib.hid hb6
        have HO6 := Lib.hid hO6
        have HFB2 := Lib.hid hfb2
        have HBASE := Lib.hid hbase
        have hM1 : M ≤ 1000000 := by have := HRK.out; omega
        have hcells : rs.flatMap ER.cells ++ [Value.int .i64 kind, .int .i64 task, .int .i64 call, .int .i64 a0, .int .i64 a1, .int .i64 a2, .int .i64 result, .slice Ax data.length cx] = (rs ++ [(⟨Ax, cx, ⟨kind, task, call, a0, a1, a2, result, data⟩⟩ : ER)]).flatMap ER.cells := by simp [ER.cells]
        have HCELLS := Lib.hid hcells
        have HROW := Lib.hid hrow
        have HM1 := Lib.hid hM1
        clear e1 e2 e3 hO6 hb6 hs6 hcells hfb2 hM1 hrow hbase
        go_wp2_with (at_builtin; go_must (refine wpList_append_rd _ rfl (.tmp 43) (.tmp 45) _ rfl w.heap.size 39 i0 _ 8 80 Try.underlying22 hi0 hz0 hz1 hz2 rfl (by omega) (.slice Ao M co) M (rs.flatMap ER.cells) rfl HROW.out (w5.heap.size + 1) (some ⟨w5.heap.size, 0, none⟩) 1 1 [Value.int .i64 kind, .int .i64 task, .int .i64 call, .int .i64 a0, .int .i64 a1, .int .i64 a2, .int .i64 result, .slice Ax data.length cx] rfl (Rd.blk HB6.out rfl) (ER.cells_one ⟨Ax, cx, ⟨kind, task, call, a0, a1, a2, result, data⟩⟩) (M + 1) rfl _ HCELLS.out (by have := HM1.out; unfold maxLen; omega) (by have := HM1.out; omega) HBASE.out ?_))
        intro A7 c7 w7 hc7 hown7 hgr7 hat7
        have HR7 := Lib.hid hown7
        have HG7 := Lib.hid hgr7
        have HC7 := Lib.hid hc7
        clear hown7 hgr7 hc7 hat7
        obtain ⟨hn1, hn2, hn3, hn4⟩ := HFB2.out
        have HH2 := Lib.hid (hn3 hh)
        have HFIT := Lib.hid hn4
        clear hn3 hn4
        have hlen : M + 1 = (rs ++ [(⟨Ax, cx, ⟨kind, task, call, a0, a1, a2, result, data⟩⟩ : ER)]).length := by rw [List.length_append, HM.out]; rfl
        have HLEN := Lib.hid hlen
        clear hlen
        go_wp2_with fail
        go_roundw
        case rel =>
          obtain ⟨e1, e2, e3⟩ := HE.out
          rw [List.drop_drop] at e1 e2 e3
          have hO67 : Only (fun x => (Value.slice Ao rs.length co).ownBlock = some x) w5 w7 := by
            rw [HM.out]
            exact HO6.out.any.grown HG7.out (fun q hq => .inl hq)
          have hel7 := HEL5.out.more (r := ⟨Ax, cx, ⟨kind, task, call, a0, a1, a2, result, data⟩⟩) hO67 (by rw [← HLEN.out, ← HCELLS.out]; exact HR7.out) ⟨HFIT.out, HCX.out, HOW.out⟩
          refine ⟨A7, c7, rs ++ [⟨Ax, cx, ⟨kind, task, call, a0, a1, a2, result, data⟩⟩], h2, k + n, f, by rw [HLEN.out], rfl, by go_num, by omega, HH2.out, by have := HF.out; omega, by rw [← HLEN.out]; have := HRK.out; omega, by rw [← HLEN.out]; exact HC7.out, ?_, ?_, e3, hel7, ?_⟩
          · rw [List.map_append, List.append_assoc]
            exact e1
          · rw [← e2]; omega
          · refine (HO5.out.thenNil HO6.out).grown HG7.out (fun q hq => .inr ?_)
            exact ownBlock_ge HROW.out hq
        case measure => simp [intOf]; omega
    · have hkN : k = N := by omega
      have hki : ¬ (k : Int) < N := by omega
      subst hkN
      have hN0 : (l.drop k).length = 0 := by rw [List.length_drop, HN.out]; omega
      unfold readB at hr1 hr2 hr3
      rw [if_pos hN0] at hr1 hr2 hr3
      dsimp only at hr1 hr2 hr3
      rw [List.append_nil] at hr1
      rw [Nat.add_zero] at hr2
      have HE := Lib.hid (And.intro hr1 (And.intro hr2 hr3))
      clear hr1 hr2 hr3 hN0 hlt hel hO hM hk hrk hco hf
      go_wp2_with fail
      refine bodyPost_ret (v := .tuple #[.slice Ao M co, .int .i64 k, .int .i64 0]) (by simp [results, Try.results27, go_sem]) rfl ?_
      obtain ⟨e1, e2, e3⟩ := HE.out
      refine ⟨Ao, co, rs, e1, ?_, by rw [HM.out]; exact HCO.out, ?_, ?_⟩
      · rw [HM.out, ← e2, ← e3]
      · exact HEL.out.onlyNil (by (repeat' (first | with_reducible exact Only.refl _ _ | with_reducible refine Only.setCell ?_ (Or.inl ?_) _ | with_reducible refine Only.drewN ?_ _ | with_reducible refine Only.drew ?_ | with_reducible refine Only.alloc ?_ _ | (fail))))
      · exact HO.out.thenNil (by (repeat' (first | with_reducible exact Only.refl _ _ | with_reducible refine Only.setCell ?_ (Or.inl ?_) _ | with_reducible refine Only.drewN ?_ _ | with_reducible refine Only.drew ?_ | with_reducible refine Only.alloc ?_ _ | (fail))))

end Go.Proofs.Ytkcmdibpndkfbaa

namespace Go.Proofs.Ytkcmdibpndkfbaa
open Go.RowKit

set_option maxRecDepth 100000 in
set_option maxHeartbeats 4000000 in
theorem Ref.append_any (A : Option Addr) (c : Nat) (l : List UInt8) (r : ER) (w : World) (hb : Bs w w.heap.size A l) (hl : l.length ≤ 1000000) (hlc : l.length ≤ c) (hcm : c ≤ maxLen) (hr : ER.ok w w.heap.size r) (hes : (readR l).1.length ≤ 400) :
    Calls Try.prog 15 #[.slice A l.length c, .agg r.cells.toArray] w (ApPost (readR l) r.x w) := by
  obtain ⟨i0, hi0, hz0, hz1, hz2⟩ := info_parts entry_info
  obtain ⟨w1, hw1⟩ : ∃ w1, w1 = w.alloc (.cells r.cells.toArray 39) := ⟨_, rfl⟩
  have hO1 : Only Nil w w1 := by rw [hw1]; exact (Only.refl _ _).alloc _
  have hk1 : Blk w1 w.heap.size 39 r.cells.toArray := by rw [hw1]; exact Blk.new _ _ _
  have hrd := Ref.read_any A c l w1 ((hb.onlyNil hO1 (Nat.le_refl _)).up hO1.size) hl hlc hcm
  obtain ⟨⟨es, used, q⟩, hR⟩ : ∃ R, readR l = R := ⟨_, rfl⟩
  rw [hR] at hrd hes ⊢
  obtain ⟨N, hN⟩ : ∃ N, l.length = N := ⟨_, rfl⟩
  rw [hN] at hrd ⊢
  obtain ⟨x, hx⟩ : ∃ x, r.x = x := ⟨_, rfl⟩
  have HRD := Lib.hid hrd
  have HW1 := Lib.hid hw1
  have HO1 := Lib.hid hO1
  have HK1 := Lib.hid hk1
  have HES := Lib.hid hes
  have HOKR := Lib.hid ((hr.onlyNil hO1 (Nat.le_refl _)).up hO1.size)
  have HX := Lib.hid hx
  have HONE := Lib.hid (ER.cells_one r)
  rw [hx]
  clear hrd hO1 hes hr hb hl hlc hR hN hx hw1 hk1
  obtain ⟨Ad, cd, ⟨kind, task, call, a0, a1, a2, result, data⟩⟩ := r
  unfold ER.cells at HW1 HK1 HONE ⊢
  dsimp only at HW1 HK1 HONE ⊢
  by_cases hq : q = 0
  rotate_left
  · have hqb : (q != 0) = true := by simp [hq]
    have hqb2 : (q == 0) = false := by simp [hq]
    have HQ := Lib.hid hq
    clear hq
    go_enter Try.func15, Try.ntmps15
    go_upto_region 1 with fail
    rw [← HW1.out]
    go_wp2_with fail
    refine HRD.out.mono ?_
    rintro e w2 ⟨Ao, co, rs, hmap, rfl, hco, hel, hO2⟩
    have HO2 := Lib.hid (HO1.out.thenNil hO2)
    clear hmap hco hel hO2
    go_wp2_with fail
    refine bodyPost_ret (v := .tuple #[.slice none 0 0, .int .i64 4]) (by simp [results, Try.results15, go_sem]) rfl ?_
    exact ⟨HO2.out.thenNil (by (repeat' (first | with_reducible exact Only.refl _ _ | with_reducible refine Only.setCell ?_ (Or.inl ?_) _ | with_reducible refine Only.drewN ?_ _ | with_reducible refine Only.drew ?_ | with_reducible refine Only.alloc ?_ _ | (fail)))), .inl ⟨HQ.out, rfl⟩⟩
  subst hq
  go_enter Try.func15, Try.ntmps15
  go_upto_region 1 with fail
  rw [← HW1.out]
  go_wp2_with fail
  refine HRD.out.mono ?_
  rintro e w2 ⟨Ao, co, rs, hmap, rfl, hco, hel, hO2⟩
  dsimp only at hmap
  obtain ⟨M, hM⟩ : ∃ M, rs.length = M := ⟨_, rfl⟩
  rw [hM] at hco ⊢
  have hM4 : M ≤ 400 := by have h1 := congrArg List.length hmap; rw [List.length_map] at h1; have h2 : es.length ≤ 400 := HES.out; omega
  have k2 : ∀ i, w2.cell? ⟨w.heap.size, i, none⟩ = #[Value.int .i64 kind, .int .i64 task, .int .i64 call, .int .i64 a0, .int .i64 a1, .int .i64 a2, .int .i64 result, .slice Ad data.length cd][i]? := fun i => (HK1.out.onlyNil hO2).cell i
  have HK2 := Lib.hid (HK1.out.onlyNil hO2)
  have HO2 := Lib.hid (HO1.out.thenNil hO2)
  have HOKR2 := Lib.hid ((HOKR.out.onlyNil hO2 (Nat.le_refl _)).up hO2.size)
  have HMAP := Lib.hid hmap
  have HM := Lib.hid hM
  have HEL := Lib.hid hel
  have HCO := Lib.hid hco
  have HK3 := Lib.hid HK2.out
  have HEL3 := Lib.hid HEL.out
  have HOKR3 := Lib.hid HOKR2.out
  obtain ⟨w3, rfl⟩ : ∃ w3, w3 = w2 := ⟨_, rfl⟩
  have HO3 := Lib.hid HO2.out
  clear hmap hM hel hco hO2 k2
  have hrd3 : Rd w3 w3.heap.size 8 Ao M (rs.flatMap ER.cells) := by
    have := Rd.of_own HEL3.out.row
    rwa [HM.out] at this
  have hone : ∀ v ∈ rs.flatMap ER.cells, v.oneCell' = true := fun v hv => by
    obtain ⟨q, _, hq⟩ := List.mem_flatMap.1 hv
    exact ER.cells_one q v hq
  have hcells : rs.flatMap ER.cells ++ [Value.int .i64 kind, .int .i64 task, .int .i64 call, .int .i64 a0, .int .i64 a1, .int .i64 a2, .int .i64 result, .slice Ad data.length cd] = (rs ++ [(⟨Ad, cd, ⟨kind, task, call, a0, a1, a2, result, data⟩⟩ : ER)]).flatMap ER.cells := by simp [ER.cells]
  obtain ⟨rs2, hrs2⟩ : ∃ rs2, rs ++ [(⟨Ad, cd, ⟨kind, task, call, a0, a1, a2, result, data⟩⟩ : ER)] = rs2 := ⟨_, rfl⟩
  have hlen2 : rs2.length = M + 1 := by rw [← hrs2, List.length_append, HM.out]; rfl
  have hmap2 : rs2.map ER.x = es ++ [x] := by
    rw [← hrs2, List.map_append, HMAP.out, ← HX.out]
    rfl
  have hok2 : ∀ u, Only Nil w3 u → ∀ z ∈ rs2, ER.ok u u.heap.size z := fun u hO z hz => by
    rw [← hrs2] at hz
    rcases List.mem_append.1 hz with hz | hz
    · exact ((HEL3.out.es.ok z hz).onlyNil hO (Nat.le_refl _)).up hO.size
    · rw [List.mem_singleton] at hz
      subst hz
      exact (HOKR3.out.onlyNil hO (Nat.le_refl _)).up hO.size
  rw [hrs2] at hcells
  have HRD3 := Lib.hid hrd3
  have HONE3 := Lib.hid hone
  have HCELLS := Lib.hid hcells
  have HLEN2 := Lib.hid hlen2
  have HMAP2 := Lib.hid hmap2
  have HOK2 := Lib.hid hok2
  clear hrd3 hone hcells hlen2 hmap2 hok2 hrs2
  go_upto_region 4 with fail
  have HIN : Hid (∀ (L : Nat → Bool) (vs : Nat → Value) (u u' : World), Only Nil u u' → (fun L vs u => Only Nil w3 u ∧ (L 2 = true → L 5 = false → OwnRE w3.heap.size M (rs.flatMap ER.cells) (vs 2) u) ∧ (L 4 = true → L 5 = false → NewRE w3.heap.size #[Value.int .i64 kind, .int .i64 task, .int .i64 call, .int .i64 a0, .int .i64 a1, .int .i64 a2, .int .i64 result, .slice Ad data.length cd] (vs 4) u) ∧ (L 5 = true → L 6 = false → OwnRE w3.heap.size (M + 1) (rs2.flatMap ER.cells) (vs 5) u) ∧ (L 6 = true → ∃ a b, vs 6 = .tuple #[a, b] ∧ WrPost (es ++ [x]) w (.returned (.tuple #[a, b])) u) ∧ (L 7 = true → L 6 = true ∧ ∀ a b, vs 6 = .tuple #[a, b] → vs 7 = a) ∧ (L 8 = true → L 6 = true ∧ ∀ a b, vs 6 = .tuple #[a, b] → vs 8 = b) ∧ (L 6 = true → L 5 = true) ∧ (L 0 = true → L 2 = false → Emp 39 w3.heap.size (vs 0) u)) L vs u → (fun L vs u => Only Nil w3 u ∧ (L 2 = true → L 5 = false → OwnRE w3.heap.size M (rs.flatMap ER.cells) (vs 2) u) ∧ (L 4 = true → L 5 = false → NewRE w3.heap.size #[Value.int .i64 kind, .int .i64 task, .int .i64 call, .int .i64 a0, .int .i64 a1, .int .i64 a2, .int .i64 result, .slice Ad data.length cd] (vs 4) u) ∧ (L 5 = true → L 6 = false → OwnRE w3.heap.size (M + 1) (rs2.flatMap ER.cells) (vs 5) u) ∧ (L 6 = true → ∃ a b, vs 6 = .tuple #[a, b] ∧ WrPost (es ++ [x]) w (.returned (.tuple #[a, b])) u) ∧ (L 7 = true → L 6 = true ∧ ∀ a b, vs 6 = .tuple #[a, b] → vs 7 = a) ∧ (L 8 = true → L 6 = true ∧ ∀ a b, vs 6 = .tuple #[a, b] → vs 8 = b) ∧ (L 6 = true → L 5 = true) ∧ (L 0 = true → L 2 = false → Emp 39 w3.heap.size (vs 0) u)) L vs u') := Lib.hid (fun L vs u u' hO hI => by
    obtain ⟨a1, a2, a3, a4, a5, a6, a7, a8, a9⟩ := hI; exact ⟨a1.thenNil hO, fun h h' => Stays.ownRE _ _ _ hO (a2 h h'), fun h h' => (by obtain ⟨g, q1, q2, q3⟩ := a3 h h'; exact ⟨g, q1, q2, q3.onlyNil hO⟩), fun h h' => Stays.ownRE _ _ _ hO (a4 h h'), fun h => (by obtain ⟨a, b, q1, q2⟩ := a5 h; exact ⟨a, b, q1, q2.next hO⟩), a6, a7, a8, fun h h' => Stays.emp (T := Nil) (fun _ h => h.elim) _ _ _ hO (a9 h h')⟩)
  refine wp_region_any (by kernel_rfl) ?_
  change wpAny _ _ _ _ _ _ _ (World.drew _)
  refine take_first (i := 1) (v := ?v1_10) (some 18) rfl (by rfl) (by kernel_rfl) (by kernel_rfl) (by kernel_rfl) (fun _ _ _ h => h) (Or.inl ⟨by rfl, ?hy1_10⟩) ?rest1_10
  case hy1_10 => (intro w; go_simp <;> with_reducible rfl)
  refine wpAny_inv2 (X := [(0, some 17, []), (2, some 19, [0]), (3, some 20, []), (4, some 21, [3]), (5, some 22, [2, 4]), (6, some 23, [5]), (7, some 24, [6]), (8, some 25, [6])]) (n := 8) (g := 2) (m := 9) (l0 := [false, true, false, false, false, false, false, false, false, false, false]) (T := fun z => w3.heap.size ≤ z) (Ps := [Any, Any, Any, Cst (.agg #[Value.int .i64 kind, .int .i64 task, .int .i64 call, .int .i64 a0, .int .i64 a1, .int .i64 a2, .int .i64 result, .slice Ad data.length cd]), Any, Any, Any, Any, Any])
    (I := fun L vs u => Only Nil w3 u ∧ (L 2 = true → L 5 = false → OwnRE w3.heap.size M (rs.flatMap ER.cells) (vs 2) u) ∧ (L 4 = true → L 5 = false → NewRE w3.heap.size #[Value.int .i64 kind, .int .i64 task, .int .i64 call, .int .i64 a0, .int .i64 a1, .int .i64 a2, .int .i64 result, .slice Ad data.length cd] (vs 4) u) ∧ (L 5 = true → L 6 = false → OwnRE w3.heap.size (M + 1) (rs2.flatMap ER.cells) (vs 5) u) ∧ (L 6 = true → ∃ a b, vs 6 = .tuple #[a, b] ∧ WrPost (es ++ [x]) w (.returned (.tuple #[a, b])) u) ∧ (L 7 = true → L 6 = true ∧ ∀ a b, vs 6 = .tuple #[a, b] → vs 7 = a) ∧ (L 8 = true → L 6 = true ∧ ∀ a b, vs 6 = .tuple #[a, b] → vs 8 = b) ∧ (L 6 = true → L 5 = true) ∧ (L 0 = true → L 2 = false → Emp 39 w3.heap.size (vs 0) u))
    (by kernel_rfl) rfl (by kernel_rfl) (by kernel_rfl) (by kernel_rfl) rfl ?h0_10 ?st_10 ?i0_10 ?step_10 ?fin_10
  case h0_10 =>
    intro j hj v u
    match j, hj with
    | 0, hj => exact absurd hj (by decide)
    | 1, hj => trivial
    | 2, hj => exact absurd hj (by decide)
    | 3, hj => exact absurd hj (by decide)
    | 4, hj => exact absurd hj (by decide)
    | 5, hj => exact absurd hj (by decide)
    | 6, hj => exact absurd hj (by decide)
    | 7, hj => exact absurd hj (by decide)
    | 8, hj => exact absurd hj (by decide)
    | 9, hj => exact absurd hj (by decide)
    | 10, hj => exact absurd hj (by decide)
    | n + 11, hj => exact absurd hj (by simp)
  case st_10 =>
    intro p hp
    simp only [List.mem_cons, List.not_mem_nil, or_false] at hp
    rcases hp with rfl | rfl | rfl | rfl | rfl | rfl | rfl | rfl | rfl <;> first | exact Stays.cst _ | exact Stays.any
  case i0_10 =>
    intro vs
    exact ⟨(Only.refl _ _).drew, (fun h => by cases h), (fun h => by cases h), (fun h => by cases h), (fun h => by cases h), (fun h => by cases h), (fun h => by cases h), (fun h => by cases h), (fun h => by cases h)⟩
  case step_10 =>
    intro x hx L vs u hI hA h0 hd
    simp only [List.mem_cons, List.not_mem_nil, or_false] at hx
    rcases hx with rfl | rfl | rfl | rfl | rfl | rfl | rfl | rfl
    · refine inv_step _ (by rfl) (by rfl) (fun K' hK => ?_)
      simp only [putAll, Act.put, List.setIfInBounds_toArray, List.set_cons_succ, List.set_cons_zero] at hK ⊢
      go_simp
      have hI' := HIN.out L vs _ _ ((Only.refl Nil u).alloc (.cells #[] 39)) hI
      exact hK _ _ ⟨(Only.refl _ _).alloc _, ⟨hI'.1, hI'.2.1, hI'.2.2.1, hI'.2.2.2.1, hI'.2.2.2.2.1, hI'.2.2.2.2.2.1, hI'.2.2.2.2.2.2.1, hI'.2.2.2.2.2.2.2.1, fun _ _ => ⟨_, rfl, hI.1.size, Blk.new _ _ _⟩⟩, trivial⟩
    · refine inv_step _ (by rfl) (by rfl) (fun K' hK => ?_)
      simp only [putAll, Act.put, List.setIfInBounds_toArray, List.set_cons_succ, List.set_cons_zero] at hK
      obtain ⟨g0, e0, hg0, hE0⟩ := hI.2.2.2.2.2.2.2.2 (hd 0 (by simp)) h0
      refine step_append_new (by rfl) (.tmp 17) (.tmp 18) _ (by rfl) w3.heap.size 39 i0 _ 8 80 Try.underlying22 hi0 hz0 hz1 hz2 rfl (by decide) g0 (by simp [Act.eval, putAll, Act.put, e0]) hE0 hg0 _ _ M _ (rs.flatMap ER.cells) (by simp [Act.eval, putAll, Act.put] <;> rfl) (Rd.more (Rd.onlyNil HRD3.out hI.1 (Nat.le_refl _)) hI.1.size) HONE3.out (by unfold maxLen; omega) (by omega) hI.1.size ?_
      intro A3 c3 u3 hc3 hown3 hO3 hat3
      have hI' := HIN.out L vs _ _ hO3 hI
      simp only [putAll, Act.put, List.setIfInBounds_toArray, List.set_cons_succ, List.set_cons_zero]
      exact hK _ _ ⟨hO3.any, ⟨hI'.1, fun _ _ => ⟨A3, c3, rfl, hc3, hown3⟩, hI'.2.2.1, hI'.2.2.2.1, hI'.2.2.2.2.1, hI'.2.2.2.2.2.1, hI'.2.2.2.2.2.2.1, hI'.2.2.2.2.2.2.2.1, fun _ h => by cases h⟩, trivial⟩
    · refine inv_step _ (by rfl) (by rfl) (fun K' hK => ?_)
      simp only [putAll, Act.put, List.setIfInBounds_toArray, List.set_cons_succ, List.set_cons_zero] at hK ⊢
      have ks : ∀ i, u.cell? ⟨w.heap.size, i, none⟩ = #[Value.int .i64 kind, .int .i64 task, .int .i64 call, .int .i64 a0, .int .i64 a1, .int .i64 a2, .int .i64 result, .slice Ad data.length cd][i]? := fun i => (HK3.out.onlyNil hI.1).cell i
      go_simp
      exact hK _ _ ⟨Only.refl _ _, hI, rfl⟩
    · refine inv_step _ (by rfl) (by rfl) (fun K' hK => ?_)
      simp only [putAll, Act.put, List.setIfInBounds_toArray, List.set_cons_succ, List.set_cons_zero] at hK ⊢
      have e3 := hA 3 (hd 3 (by simp))
      change vs 3 = (.agg #[Value.int .i64 kind, .int .i64 task, .int .i64 call, .int .i64 a0, .int .i64 a1, .int .i64 a2, .int .i64 result, .slice Ad data.length cd]) at e3
      simp only [e3] at hK
      go_simp
      have hI' := HIN.out L vs _ _ ((Only.refl Nil u).alloc (.cells #[Value.int .i64 kind, .int .i64 task, .int .i64 call, .int .i64 a0, .int .i64 a1, .int .i64 a2, .int .i64 result, .slice Ad data.length cd] 39)) hI
      exact hK _ _ ⟨(Only.refl _ _).alloc _, ⟨hI'.1, hI'.2.1, fun _ _ => ⟨_, rfl, hI.1.size, Blk.new _ _ _⟩, hI'.2.2.2⟩, trivial⟩
    · refine inv_step _ (by rfl) (by rfl) (fun K' hK => ?_)
      simp only [putAll, Act.put, List.setIfInBounds_toArray, List.set_cons_succ, List.set_cons_zero] at hK
      obtain ⟨A2, c2, e2, hc2, ho2⟩ := hI.2.1 (hd 2 (by simp)) h0
      obtain ⟨g3, e4, hg3, hb3⟩ := hI.2.2.1 (hd 4 (by simp)) h0
      refine step_append_rd _ (by rfl) (.tmp 19) (.tmp 21) _ (by rfl) w3.heap.size 39 i0 _ 8 80 Try.underlying22 hi0 hz0 hz1 hz2 rfl (by decide) (.slice A2 M c2) M (rs.flatMap ER.cells) (by simp [Act.eval, putAll, Act.put, e2]) ho2 (g3 + 1) (some ⟨g3, 0, none⟩) 1 1 [Value.int .i64 kind, .int .i64 task, .int .i64 call, .int .i64 a0, .int .i64 a1, .int .i64 a2, .int .i64 result, .slice Ad data.length cd] (by simp [Act.eval, putAll, Act.put, e4]) (Rd.blk hb3 rfl) HONE.out (M + 1) rfl (rs2.flatMap ER.cells) HCELLS.out (by unfold maxLen; omega) (by omega) hI.1.size ?_
      intro A4 c4 w4 hc4 hown4 hgr4 hat4
      simp only [putAll, Act.put, List.setIfInBounds_toArray, List.set_cons_succ, List.set_cons_zero]
      have hT : Only (fun z => w3.heap.size ≤ z) _ w4 := grown_only ho2 hgr4
      exact hK _ _ ⟨hT, ⟨hI.1.trans hT (fun z hz => .inr hz), (fun _ h => by cases h), (fun _ h => by cases h), (fun _ _ => ⟨A4, c4, rfl, hc4, hown4⟩), (fun h => absurd ((hI.2.2.2.2.2.2.2.1 h).symm.trans h0) (by decide)), (fun h => absurd ((hI.2.2.2.2.2.2.2.1 (hI.2.2.2.2.2.1 h).1).symm.trans h0) (by decide)), (fun h => absurd ((hI.2.2.2.2.2.2.2.1 (hI.2.2.2.2.2.2.1 h).1).symm.trans h0) (by decide)), (fun _ => rfl), (fun _ h => absurd ((hd 2 (by simp)).symm.trans h) (by decide))⟩, trivial⟩
    · refine inv_step _ (by rfl) (by rfl) (fun K' hK => ?_)
      simp only [putAll, Act.put, List.setIfInBounds_toArray, List.set_cons_succ, List.set_cons_zero] at hK ⊢
      obtain ⟨A4, c4, e5, hc4, ho4⟩ := hI.2.2.2.1 (hd 5 (by simp)) h0
      have hes : Es u u.heap.size A4 rs2 := ⟨(by have := Rd.of_own ho4; rwa [← HLEN2.out] at this), HOK2.out u hI.1⟩
      have hwr := Ref.write_any A4 c4 rs2 u hes (by rw [HLEN2.out]; omega)
      rw [HLEN2.out, HMAP2.out] at hwr
      have HWR := Lib.hid hwr
      simp only [e5] at hK ⊢
      go_simp
      go_at_call 13
      refine HWR.out.mono ?_
      rintro z w9 hpost
      have hI' := HIN.out L vs _ _ hpost.1 hI
      have hpost2 := hpost.base (HO3.out.thenNil hI.1)
      have hq : ∃ a b, z = .returned (.tuple #[a, b]) := by
        rcases hpost.2 with ⟨_, A9, c9, hz, _⟩ | ⟨_, hz⟩
        · exact ⟨_, _, hz⟩
        · exact ⟨_, _, hz⟩
      obtain ⟨a, b, rfl⟩ := hq
      go_simp
      exact hK _ _ ⟨hpost.1.any, ⟨hI'.1, hI'.2.1, hI'.2.2.1, (fun _ h => by cases h), (fun _ => ⟨a, b, rfl, hpost2⟩), (fun h => absurd ((hI.2.2.2.2.2.1 h).1.symm.trans h0) (by decide)), (fun h => absurd ((hI.2.2.2.2.2.2.1 h).1.symm.trans h0) (by decide)), (fun _ => hd 5 (by simp)), hI'.2.2.2.2.2.2.2.2⟩, trivial⟩
    · refine inv_step _ (by rfl) (by rfl) (fun K' hK => ?_)
      simp only [putAll, Act.put, List.setIfInBounds_toArray, List.set_cons_succ, List.set_cons_zero] at hK ⊢
      obtain ⟨a, b, e6, hp⟩ := hI.2.2.2.2.1 (hd 6 (by simp))
      simp only [e6] at hK ⊢
      go_simp
      exact hK _ _ ⟨Only.refl _ _, ⟨hI.1, hI.2.1, hI.2.2.1, hI.2.2.2.1, hI.2.2.2.2.1, (fun _ => ⟨hd 6 (by simp), fun a' b' h => by have h1 := e6.symm.trans h; simp at h1; exact h1.1⟩), hI.2.2.2.2.2.2.1, hI.2.2.2.2.2.2.2⟩, trivial⟩
    · refine inv_step _ (by rfl) (by rfl) (fun K' hK => ?_)
      simp only [putAll, Act.put, List.setIfInBounds_toArray, List.set_cons_succ, List.set_cons_zero] at hK ⊢
      obtain ⟨a, b, e6, hp⟩ := hI.2.2.2.2.1 (hd 6 (by simp))
      simp only [e6] at hK ⊢
      go_simp
      exact hK _ _ ⟨Only.refl _ _, ⟨hI.1, hI.2.1, hI.2.2.1, hI.2.2.2.1, hI.2.2.2.2.1, hI.2.2.2.2.2.1, (fun _ => ⟨hd 6 (by simp), fun a' b' h => by have h1 := e6.symm.trans h; simp at h1; exact h1.2⟩), hI.2.2.2.2.2.2.2⟩, trivial⟩
  case fin_10 =>
    intro L vs u hI hL hA
    simp only [putAll, Act.put, List.setIfInBounds_toArray, List.set_cons_succ, List.set_cons_zero, List.drop_succ_cons, List.drop_zero]
    obtain ⟨a, b, e6, hp⟩ := hI.2.2.2.2.1 (hL 6 (by omega))
    have e7 := (hI.2.2.2.2.2.1 (hL 7 (by omega))).2 a b e6
    have e8 := (hI.2.2.2.2.2.2.1 (hL 8 (by omega))).2 a b e6
    simp only [e7, e8]
    have HP := Lib.hid hp
    clear hA hL hI e6 e7 e8 hp
    go_wp2_with fail
    refine bodyPost_ret (v := .tuple #[a, b]) (by simp [results, Try.results15, go_sem]) rfl ?_
    cases hV : vE x with
    | false =>
      rcases HP.out.2 with ⟨hall, _⟩ | ⟨_, he⟩
      · rw [List.all_append] at hall
        simp [hV] at hall
      · exact ⟨HP.out.1, .inr (.inl ⟨rfl, hV, he⟩)⟩
    | true => exact ⟨HP.out.1, .inr (.inr ⟨rfl, hV, HP.out⟩)⟩

end Go.Proofs.Ytkcmdibpndkfbaa

namespace Go.Proofs.Ytkcmdibpndkfbaa

theorem xor_inj_left {a b c : Nat} (h : a ^^^ c = b ^^^ c) : a = b := by
  have h1 : (a ^^^ c) ^^^ c = (b ^^^ c) ^^^ c := by rw [h]
  rwa [Nat.xor_assoc, Nat.xor_self, Nat.xor_zero, Nat.xor_assoc, Nat.xor_self, Nat.xor_zero] at h1
theorem xs_inj {x y : Nat} (h : x ^^^ x / 536870912 = y ^^^ y / 536870912) : x = y := by
  have hd : (x ^^^ y) / 536870912 = x / 536870912 ^^^ y / 536870912 := by
    have := Nat.shiftRight_xor_distrib (a := x) (b := y) (i := 29)
    simpa [Nat.shiftRight_eq_div_pow] using this
  have h1 : x ^^^ y = x / 536870912 ^^^ y / 536870912 := by
    have h2 : (x ^^^ x / 536870912) ^^^ (x / 536870912 ^^^ y) = (y ^^^ y / 536870912) ^^^ (x / 536870912 ^^^ y) := by rw [h]
    have h3 : (x ^^^ x / 536870912) ^^^ (x / 536870912 ^^^ y) = x ^^^ y := by
      rw [Nat.xor_assoc, ← Nat.xor_assoc (x / 536870912), Nat.xor_self, Nat.zero_xor]
    have h4 : (y ^^^ y / 536870912) ^^^ (x / 536870912 ^^^ y) = x / 536870912 ^^^ y / 536870912 := by
      rw [Nat.xor_comm y, Nat.xor_comm (x / 536870912) y, Nat.xor_assoc, ← Nat.xor_assoc y, Nat.xor_self, Nat.zero_xor, Nat.xor_comm]
    rw [← h3, h2, h4]
  rw [← hd] at h1
  have h5 : x ^^^ y = 0 := by omega
  exact xor_inj_left (c := y) (h5.trans (Nat.xor_self y).symm)
theorem mulF_inj {x y : Nat} (hx : x < 18446744073709551616) (hy : y < 18446744073709551616) (h : x * sF % 18446744073709551616 = y * sF % 18446744073709551616) : x = y := by
  have key : ∀ z, z < 18446744073709551616 → (z * sF % 18446744073709551616) * 436968802925209003 % 18446744073709551616 = z := fun z hz => by
    rw [Nat.mod_mul_mod, Nat.mul_assoc]
    have e : sF * 436968802925209003 % 18446744073709551616 = 1 := by decide
    rw [Nat.mul_mod, e, Nat.mul_one, Nat.mod_mod, Nat.mod_eq_of_lt hz]
  rw [← key x hx, ← key y hy, h]
theorem stepS_inj {h h' : Nat} {c c' : UInt8} (hh : h < 18446744073709551616) (hh' : h' < 18446744073709551616) (e : stepS h c = stepS h' c') : h ^^^ c.toNat = h' ^^^ c'.toNat := by
  unfold stepS at e
  have hx : h ^^^ c.toNat < 2 ^ 64 := Nat.xor_lt_two_pow (by omega) (by have := c.toNat_lt; omega)
  have hy : h' ^^^ c'.toNat < 2 ^ 64 := Nat.xor_lt_two_pow (by omega) (by have := c'.toNat_lt; omega)
  exact mulF_inj hx hy (xs_inj e)
theorem stepS_inj_h {h h' : Nat} {c : UInt8} (hh : h < 18446744073709551616) (hh' : h' < 18446744073709551616) (e : stepS h c = stepS h' c) : h = h' := xor_inj_left (stepS_inj hh hh' e)
theorem stepS_inj_c {h : Nat} {c c' : UInt8} (hh : h < 18446744073709551616) (e : stepS h c = stepS h c') : c = c' := by
  have h1 := stepS_inj hh hh e
  rw [Nat.xor_comm h, Nat.xor_comm h] at h1
  exact UInt8.toNat_inj.1 (xor_inj_left h1)
theorem fromS_inj {h h' : Nat} (hh : h < 18446744073709551616) (hh' : h' < 18446744073709551616) : ∀ {l : List UInt8}, fromS h l = fromS h' l → h = h' := by
  intro l
  induction l generalizing h h' with
  | nil => exact fun e => e
  | cons c l ih =>
    intro e
    have e1 : fromS (stepS h c) l = fromS (stepS h' c) l := e
    exact stepS_inj_h hh hh' (ih (stepS_lt h c) (stepS_lt h' c) e1)
/-- One byte changed: another sum. -/
theorem fromS_set {h : Nat} (hh : h < 18446744073709551616) {l : List UInt8} {k : Nat} {b c : UInt8} (hk : l[k]? = some b) (hb : b ≠ c) : fromS h (l.set k c) ≠ fromS h l := by
  induction l generalizing h k with
  | nil => simp at hk
  | cons x l ih =>
    cases k with
    | zero =>
      simp at hk
      subst hk
      intro e
      have e1 : fromS (stepS h c) l = fromS (stepS h x) l := e
      exact hb (stepS_inj_c hh (fromS_inj (stepS_lt h c) (stepS_lt h x) e1)).symm
    | succ k =>
      intro e
      exact ih (stepS_lt h x) (k := k) (by simpa using hk) e
theorem le8_inj {a b : Nat} (ha : a < 18446744073709551616) (hb : b < 18446744073709551616) (h : le8 a = le8 b) : a = b := by
  have key : ∀ i, i < 8 → a / 256 ^ i % 256 = b / 256 ^ i % 256 := fun i hi => by
    have h1 : (le8 a)[i]? = (le8 b)[i]? := by rw [h]
    unfold le8 at h1
    rw [List.getElem?_map, List.getElem?_map, List.getElem?_range hi] at h1
    simp only [Option.map_some, Option.some.injEq] at h1
    have h2 := congrArg UInt8.toNat h1
    rw [UInt8.toNat_ofNat_of_lt' (by simpa using Nat.mod_lt _ (by decide)), UInt8.toNat_ofNat_of_lt' (by simpa using Nat.mod_lt _ (by decide))] at h2
    exact h2
  have k0 := key 0 (by decide)
  have k1 := key 1 (by decide)
  have k2 := key 2 (by decide)
  have k3 := key 3 (by decide)
  have k4 := key 4 (by decide)
  have k5 := key 5 (by decide)
  have k6 := key 6 (by decide)
  have k7 := key 7 (by decide)
  simp only [Nat.reducePow] at k0 k1 k2 k3 k4 k5 k6 k7
  omega

end Go.Proofs.Ytkcmdibpndkfbaa

namespace Go.Proofs.Ytkcmdibpndkfbaa

/-- The bytes of the first entries' frames. -/
def endB (h : Nat) (l : List En) (n : Nat) : Nat := (bodyB h (l.take n)).length
theorem endB_zero (h : Nat) (l : List En) : endB h l 0 = 0 := rfl
theorem endB_cons (h : Nat) (x : En) (l : List En) (n : Nat) : endB h (x :: l) (n + 1) = (frB x h).length + endB (fromS h (encE x)) l n := by
  unfold endB
  rw [List.take_succ_cons]
  show (frB x h ++ bodyB (fromS h (encE x)) (l.take n)).length = _
  rw [List.length_append]
/-- Where the reading stops. -/
theorem readB_take {l : List En} (hv : ∀ x ∈ l, vE x = true ∧ x.fits) (h f k : Nat) (hf : k < f) (hk : k ≤ (bodyB h l).length) :
    ∃ n, n ≤ l.length ∧ endB h l n ≤ k ∧ (n < l.length → k < endB h l (n + 1)) ∧ readB f ((bodyB h l).take k) h = (l.take n, endB h l n, if endB h l n = k then 0 else 4) := by
  induction l generalizing h f k with
  | nil =>
    have h0 : k = 0 := by
      have e : (bodyB h []).length = 0 := rfl
      omega
    subst h0
    match f, hf with
    | f + 1, _ => exact ⟨0, Nat.le_refl _, Nat.le_refl _, fun h => by simp at h, rfl⟩
  | cons x l ih =>
    match f, hf with
    | f + 1, hf =>
      have h3 := frB_length x h
      have hbl : (bodyB h (x :: l)).length = (frB x h).length + (bodyB (fromS h (encE x)) l).length := by
        show (frB x h ++ bodyB (fromS h (encE x)) l).length = _
        rw [List.length_append]
      by_cases hlt : k < (frB x h).length
      · refine ⟨0, Nat.zero_le _, by rw [endB_zero]; exact Nat.zero_le _, fun _ => ?_, ?_⟩
        · rw [endB_cons, endB_zero]
          omega
        · have htk : (bodyB h (x :: l)).take k = (frB x h).take k := by
            show (frB x h ++ bodyB (fromS h (encE x)) l).take k = _
            rw [List.take_append_of_le_length (by omega)]
          have hkl : ((frB x h).take k).length = k := by rw [List.length_take]; omega
          rw [htk, endB_zero, List.take_zero]
          unfold readB
          rw [hkl]
          by_cases h0 : k = 0
          · rw [if_pos h0, if_pos h0.symm]
          · rw [if_neg h0, frameR_cut (hv x (by simp)).1 (hv x (by simp)).2 h k hlt]
            dsimp only
            rw [if_pos (by simp), if_neg (fun e => h0 e.symm)]
      · obtain ⟨n, hn, h4, h5, h6⟩ := ih (fun y hy => hv y (by simp [hy])) (fromS h (encE x)) f (k - (frB x h).length) (by omega) (by omega)
        refine ⟨n + 1, by simpa using hn, by rw [endB_cons]; omega, fun h7 => ?_, ?_⟩
        · rw [endB_cons]
          have := h5 (by simpa using h7)
          omega
        · have htk : (bodyB h (x :: l)).take k = frB x h ++ (bodyB (fromS h (encE x)) l).take (k - (frB x h).length) := by
            show (frB x h ++ bodyB (fromS h (encE x)) l).take k = _
            rw [List.take_append, List.take_of_length_le (by omega)]
          have h1 := frameR_frB (hv x (by simp)).1 (hv x (by simp)).2 h ((bodyB (fromS h (encE x)) l).take (k - (frB x h).length))
          rw [htk, endB_cons, List.take_succ_cons]
          unfold readB
          rw [if_neg (by rw [List.length_append, h3]; omega), h1]
          dsimp only
          rw [if_neg (by simp), List.drop_left' h3, h6, h3]
          have e : (endB (fromS h (encE x)) l n = k - (16 + (encE x).length)) ↔ (16 + (encE x).length + endB (fromS h (encE x)) l n = k) := by omega
          simp only [e]

theorem nB_four {a b c d : UInt8} {r : List UInt8} : nB (a :: b :: c :: d :: r) = ((a.toNat * 256 + b.toNat) * 256 + c.toNat) * 256 + d.toNat := by
  unfold nB
  simp
/-- Four bytes, one of them changed, are another number. -/
theorem nB_set {l r : List UInt8} {k : Nat} {b c : UInt8} (hl : l.length = 4) (hk : l[k]? = some b) (hb : b ≠ c) : nB (l.set k c ++ r) ≠ nB (l ++ r) := by
  match l, hl with
  | [x0, x1, x2, x3], _ =>
    have hb' : b.toNat ≠ c.toNat := fun e => hb (UInt8.toNat_inj.1 e)
    have h0 := x0.toNat_lt
    have h1 := x1.toNat_lt
    have h2 := x2.toNat_lt
    have h3 := x3.toNat_lt
    have hc := c.toNat_lt
    have hbl := b.toNat_lt
    match k, hk with
    | 0, hk => simp at hk; subst hk; simp only [List.set_cons_zero, List.cons_append, List.nil_append, nB_four]; omega
    | 1, hk => simp at hk; subst hk; simp only [List.set_cons_zero, List.set_cons_succ, List.cons_append, List.nil_append, nB_four]; omega
    | 2, hk => simp at hk; subst hk; simp only [List.set_cons_zero, List.set_cons_succ, List.cons_append, List.nil_append, nB_four]; omega
    | 3, hk => simp at hk; subst hk; simp only [List.set_cons_zero, List.set_cons_succ, List.cons_append, List.nil_append, nB_four]; omega
    | n + 4, hk => simp at hk
theorem set_ne {l : List UInt8} {k : Nat} {b c : UInt8} (hk : l[k]? = some b) (hb : b ≠ c) : l.set k c ≠ l := fun e => by
  have h1 : (l.set k c)[k]? = some b := by rw [e]; exact hk
  have h2 : k < l.length := (List.getElem?_eq_some_iff.1 hk).1
  rw [List.getElem?_set_self h2] at h1
  injection h1 with h1
  exact hb h1.symm
/-- A frame with one byte changed is none. -/
theorem frameR_set {x : En} (hv : vE x = true) (hf : x.fits) {h k : Nat} (hh : h < 18446744073709551616) {b c : UInt8} (hk : (frB x h)[k]? = some b) (hb : b ≠ c) (rest : List UInt8) : (frameR ((frB x h).set k c ++ rest) h).2.2.2 ≠ 0 := by
  have hd := vE_data hv
  have hel := encE_len hf (by omega : x.data.length ≤ 1099511627776)
  have hfl := frB_length x h
  have hkl : k < 16 + (encE x).length := by
    have := (List.getElem?_eq_some_iff.1 hk).1
    omega
  have hfs := fun (k : Nat) (b : UInt8) hk (hb : b ≠ c) => fromS_set (h := h) (l := encE x) (k := k) (b := b) (c := c) hh hk hb
  have hS1 := fun l : List UInt8 => fromS_lt hh l
  unfold frB at hk ⊢
  obtain ⟨E, hE⟩ : ∃ E, encE x = E := ⟨_, rfl⟩
  rw [hE] at hel hkl hfs hk ⊢
  obtain ⟨n, hn⟩ : ∃ n, E.length = n := ⟨_, rfl⟩
  rw [hn] at hel hkl hk ⊢
  obtain ⟨S, hS⟩ : ∃ S, fromS h E = S := ⟨_, rfl⟩
  rw [hS] at hfs hk ⊢
  have hSl : S < 18446744073709551616 := by rw [← hS]; exact hS1 E
  have l4 : ∀ n, (be4 n).length = 4 := fun _ => rfl
  have hassoc : be4 n ++ be4 (4294967295 - n) ++ E ++ le8 S = be4 n ++ (be4 (4294967295 - n) ++ (E ++ le8 S)) := by simp only [List.append_assoc]
  rw [hassoc] at hk ⊢
  have e1 : ∀ r, nB (be4 n ++ r) = n := fun r => nB_be4 n (by omega) _
  have e2 : ∀ r, nB (be4 (4294967295 - n) ++ r) = 4294967295 - n := fun r => nB_be4 _ (by omega) _
  by_cases k4 : k < 4
  · rw [List.getElem?_append_left (by rw [l4]; exact k4)] at hk
    rw [List.set_append_left _ _ (by rw [l4]; exact k4)]
    have h1 := nB_set (r := be4 (4294967295 - n) ++ (E ++ le8 S) ++ rest) (l4 n) hk hb
    rw [e1, ← List.append_assoc] at h1
    obtain ⟨G, hG⟩ : ∃ G, (be4 n).set k c = G := ⟨_, rfl⟩
    have hGl : G.length = 4 := by rw [← hG, List.length_set]; rfl
    rw [hG] at h1 ⊢
    unfold frameR
    have e3 : nB ((G ++ (be4 (4294967295 - n) ++ (E ++ le8 S)) ++ rest).drop 4) = 4294967295 - n := by
      rw [List.append_assoc, List.drop_left' hGl, List.append_assoc]
      exact e2 _
    rw [e3]
    split
    · simp
    · rw [if_pos (.inl (by omega))]
      simp
  · rw [List.getElem?_append_right (by rw [l4]; omega), l4] at hk
    rw [List.set_append_right _ _ (by rw [l4]; omega), l4]
    by_cases k8 : k - 4 < 4
    · rw [List.getElem?_append_left (by rw [l4]; exact k8)] at hk
      rw [List.set_append_left _ _ (by rw [l4]; exact k8)]
      have h1 := nB_set (r := E ++ le8 S ++ rest) (l4 _) hk hb
      rw [List.append_assoc, e2] at h1
      obtain ⟨G, hG⟩ : ∃ G, (be4 (4294967295 - n)).set (k - 4) c = G := ⟨_, rfl⟩
      rw [hG] at h1 ⊢
      unfold frameR
      rw [show be4 n ++ (G ++ (E ++ le8 S)) ++ rest = be4 n ++ (G ++ (E ++ (le8 S ++ rest))) by simp only [List.append_assoc], List.drop_left' (l4 n), e1]
      split
      · simp
      · rw [if_pos (.inl (by omega))]
        simp
    · rw [List.getElem?_append_right (by rw [l4]; omega), l4] at hk
      rw [List.set_append_right _ _ (by rw [l4]; omega), l4]
      by_cases kn : k - 4 - 4 < n
      · rw [List.getElem?_append_left (by omega)] at hk
        rw [List.set_append_left _ _ (by omega)]
        have h1 := hfs _ _ hk hb
        obtain ⟨G, hG⟩ : ∃ G, E.set (k - 4 - 4) c = G := ⟨_, rfl⟩
        have hGl : G.length = n := by rw [← hG, List.length_set, hn]
        rw [hG] at h1 ⊢
        have e8 : (be4 n ++ (be4 (4294967295 - n) ++ (G ++ le8 S)) ++ rest).drop 8 = G ++ (le8 S ++ rest) := by
          rw [show be4 n ++ (be4 (4294967295 - n) ++ (G ++ le8 S)) ++ rest = (be4 n ++ be4 (4294967295 - n)) ++ (G ++ (le8 S ++ rest)) by simp only [List.append_assoc], List.drop_left' (show (be4 n ++ be4 (4294967295 - n)).length = 8 from rfl)]
        have e9 : nB (be4 n ++ (be4 (4294967295 - n) ++ (G ++ le8 S)) ++ rest) = n := by rw [List.append_assoc]; exact e1 _
        have e10 : ((be4 n ++ (be4 (4294967295 - n) ++ (G ++ le8 S)) ++ rest).drop (8 + n)).take 8 = le8 S := by
          rw [← List.drop_drop, e8, List.drop_left' hGl, List.take_left' (le8_len S)]
        obtain ⟨L, hL⟩ : ∃ L, be4 n ++ (be4 (4294967295 - n) ++ (G ++ le8 S)) ++ rest = L := ⟨_, rfl⟩
        rw [hL] at e8 e9 e10 ⊢
        unfold frameR
        rw [e9, e10, e8, List.take_left' hGl]
        split
        · simp
        · split
          · simp
          · rw [if_pos (fun e => h1 (le8_inj (hS1 _) hSl e.symm))]
            simp
      · rw [List.getElem?_append_right (by omega), hn] at hk
        rw [List.set_append_right _ _ (by omega), hn]
        have h1 := set_ne hk hb
        obtain ⟨G, hG⟩ : ∃ G, (le8 S).set (k - 4 - 4 - n) c = G := ⟨_, rfl⟩
        have hGl : G.length = 8 := by rw [← hG, List.length_set]; exact le8_len S
        rw [hG] at h1 ⊢
        have e8 : (be4 n ++ (be4 (4294967295 - n) ++ (E ++ G)) ++ rest).drop 8 = E ++ (G ++ rest) := by
          rw [show be4 n ++ (be4 (4294967295 - n) ++ (E ++ G)) ++ rest = (be4 n ++ be4 (4294967295 - n)) ++ (E ++ (G ++ rest)) by simp only [List.append_assoc], List.drop_left' (show (be4 n ++ be4 (4294967295 - n)).length = 8 from rfl)]
        have e9 : nB (be4 n ++ (be4 (4294967295 - n) ++ (E ++ G)) ++ rest) = n := by rw [List.append_assoc]; exact e1 _
        have e10 : ((be4 n ++ (be4 (4294967295 - n) ++ (E ++ G)) ++ rest).drop (8 + n)).take 8 = G := by
          rw [← List.drop_drop, e8, List.drop_left' hn, List.take_left' hGl]
        obtain ⟨L, hL⟩ : ∃ L, be4 n ++ (be4 (4294967295 - n) ++ (E ++ G)) ++ rest = L := ⟨_, rfl⟩
        rw [hL] at e8 e9 e10 ⊢
        unfold frameR
        rw [e9, e10, e8, List.take_left' hn, hS, if_pos h1]
        split
        · simp
        · split <;> simp
/-- With one byte changed the entries ahead of it are read, with an error. -/
theorem readB_set {l : List En} (hv : ∀ x ∈ l, vE x = true ∧ x.fits) (h f k : Nat) (hh : h < 18446744073709551616) (hf : l.length < f) {b c : UInt8} (hk : (bodyB h l)[k]? = some b) (hb : b ≠ c) :
    ∃ n e, n < l.length ∧ endB h l n ≤ k ∧ k < endB h l (n + 1) ∧ e ≠ 0 ∧ readB f ((bodyB h l).set k c) h = (l.take n, endB h l n, e) := by
  induction l generalizing h f k with
  | nil => simp [bodyB] at hk
  | cons x l ih =>
    match f, hf with
    | f + 1, hf =>
      have h3 := frB_length x h
      have hbody : bodyB h (x :: l) = frB x h ++ bodyB (fromS h (encE x)) l := rfl
      rw [hbody] at hk ⊢
      by_cases hlt : k < (frB x h).length
      · rw [List.getElem?_append_left hlt] at hk
        rw [List.set_append_left _ _ hlt]
        have h4 := frameR_set (hv x (by simp)).1 (hv x (by simp)).2 hh hk hb (bodyB (fromS h (encE x)) l)
        refine ⟨0, _, by simp, by rw [endB_zero]; exact Nat.zero_le _, by rw [endB_cons, endB_zero]; omega, h4, ?_⟩
        rw [endB_zero, List.take_zero]
        unfold readB
        rw [if_neg (by rw [List.length_append, List.length_set, h3]; omega), if_pos h4]
      · rw [List.getElem?_append_right (by omega)] at hk
        rw [List.set_append_right _ _ (by omega)]
        obtain ⟨n, e, h4, h5, h6, h7, h8⟩ := ih (fun y hy => hv y (by simp [hy])) (fromS h (encE x)) f (k - (frB x h).length) (fromS_lt hh _) (by simpa using hf) hk
        refine ⟨n + 1, e, by simpa using h4, by rw [endB_cons]; omega, by rw [endB_cons]; omega, h7, ?_⟩
        have h1 := frameR_frB (hv x (by simp)).1 (hv x (by simp)).2 h ((bodyB (fromS h (encE x)) l).set (k - (frB x h).length) c)
        rw [endB_cons, List.take_succ_cons]
        unfold readB
        rw [if_neg (by rw [List.length_append, h3]; omega), h1]
        dsimp only
        rw [if_neg (by simp), List.drop_left' h3, h8, h3]

/-- Where the text and the frames end. -/
def endR (l : List En) (n : Nat) : Nat := 5 + endB (ofS magic) l n
theorem recB_len (l : List En) : (recB l).length = 5 + (bodyB (ofS magic) l).length := by
  unfold recB
  rw [List.length_append]
  rfl
theorem endR_last (l : List En) : endR l l.length = (recB l).length := by
  unfold endR endB
  rw [recB_len, List.take_length]
theorem endB_mono {h : Nat} {l : List En} {n m : Nat} (hm : m ≤ l.length) (h1 : n < m) : endB h l n < endB h l m := by
  induction l generalizing h n m with
  | nil => simp at hm; omega
  | cons x l ih =>
    match m, h1 with
    | m + 1, h1 =>
      have h3 := frB_length x h
      match n with
      | 0 => rw [endB_zero, endB_cons]; omega
      | n + 1 =>
        rw [endB_cons, endB_cons]
        have := ih (h := fromS h (encE x)) (n := n) (m := m) (by simpa using hm) (by omega)
        omega
theorem endR_mono {l : List En} {n m : Nat} (hm : m ≤ l.length) (h1 : n < m) : endR l n < endR l m := by
  have := endB_mono (h := ofS magic) hm h1
  unfold endR
  omega
theorem endR_next {l : List En} {n : Nat} {x : En} (hx : l[n]? = some x) : endR l (n + 1) = endR l n + 16 + (encE x).length := by
  obtain ⟨h1, h2⟩ := List.getElem?_eq_some_iff.1 hx
  unfold endR endB
  rw [List.take_succ_eq_append_getElem h1, h2, bodyB_snoc, List.length_append, frB_length]
  omega
theorem take_magic {l : List UInt8} {k : Nat} (h : k < 5) : ((magic ++ l).take k).take 5 ≠ magic := fun e => by
  have h1 := congrArg List.length e
  rw [List.length_take, List.length_take] at h1
  have : magic.length = 5 := rfl
  omega
/-- What is read of a record. -/
theorem readR_recB {l : List En} (hv : ∀ x ∈ l, vE x = true ∧ x.fits) : readR (recB l) = (l, (recB l).length, 0) := by
  have hl : l.length ≤ (bodyB (ofS magic) l).length := by
    have key : ∀ (l : List En) h, l.length ≤ (bodyB h l).length := by
      intro l
      induction l with
      | nil => intro h; exact Nat.zero_le _
      | cons x l ih =>
        intro h
        have h3 := frB_length x h
        have := ih (fromS h (encE x))
        show l.length + 1 ≤ (frB x h ++ bodyB (fromS h (encE x)) l).length
        rw [List.length_append]
        omega
    exact key l _
  have h1 := readB_body hv (ofS magic) (recB l).length (by rw [recB_len]; omega)
  have e1 : (recB l).take 5 = magic := List.take_left' rfl
  have e2 : (recB l).drop 5 = bodyB (ofS magic) l := List.drop_left' rfl
  unfold readR
  rw [if_pos e1, e2, h1, recB_len]
theorem recB_inj {l m : List En} (hl : ∀ x ∈ l, vE x = true ∧ x.fits) (hm : ∀ x ∈ m, vE x = true ∧ x.fits) (h : recB l = recB m) : l = m := by
  have h1 := readR_recB hl
  rw [h, readR_recB hm] at h1
  injection h1 with h1
  exact h1.symm
theorem readR_take {l : List En} (hv : ∀ x ∈ l, vE x = true ∧ x.fits) (k : Nat) (hk : k ≤ (recB l).length) :
    (k < 5 ∧ readR ((recB l).take k) = ([], 0, 4)) ∨
    ∃ n, n ≤ l.length ∧ endR l n ≤ k ∧ (n < l.length → k < endR l (n + 1)) ∧ readR ((recB l).take k) = (l.take n, endR l n, if endR l n = k then 0 else 4) := by
  by_cases h5 : k < 5
  · refine .inl ⟨h5, ?_⟩
    unfold readR
    rw [if_neg (show ¬ ((recB l).take k).take 5 = magic from take_magic h5)]
  · have h1 := recB_len l
    obtain ⟨n, hn, h2, h3, h4⟩ := readB_take hv (ofS magic) k (k - 5) (by omega) (by omega)
    refine .inr ⟨n, hn, by unfold endR; omega, fun h => by have := h3 h; unfold endR; omega, ?_⟩
    have e1 : ((recB l).take k).take 5 = magic := by
      rw [List.take_take, Nat.min_eq_left (by omega)]
      exact List.take_left' rfl
    have e2 : ((recB l).take k).drop 5 = (bodyB (ofS magic) l).take (k - 5) := by
      rw [List.drop_take]
      unfold recB
      rw [List.drop_left' (show magic.length = 5 from rfl)]
    have e3 : ((recB l).take k).length = k := by rw [List.length_take]; omega
    unfold readR
    rw [if_pos e1, e2, e3, h4]
    dsimp only
    unfold endR
    have e : (endB (ofS magic) l n = k - 5) ↔ (5 + endB (ofS magic) l n = k) := by omega
    simp only [e]
theorem readR_set {l : List En} (hv : ∀ x ∈ l, vE x = true ∧ x.fits) {k : Nat} {b c : UInt8} (hk : (recB l)[k]? = some b) (hb : b ≠ c) :
    (k < 5 ∧ readR ((recB l).set k c) = ([], 0, 4)) ∨
    ∃ n e, n < l.length ∧ endR l n ≤ k ∧ k < endR l (n + 1) ∧ e ≠ 0 ∧ readR ((recB l).set k c) = (l.take n, endR l n, e) := by
  by_cases h5 : k < 5
  · refine .inl ⟨h5, ?_⟩
    have h1 : magic[k]? = some b := by
      unfold recB at hk
      rwa [List.getElem?_append_left (show k < magic.length from h5)] at hk
    have e1 : (recB l).set k c = magic.set k c ++ bodyB (ofS magic) l := by
      unfold recB
      rw [List.set_append_left _ _ (show k < magic.length from h5)]
    unfold readR
    rw [e1, List.take_left' (by rw [List.length_set]; rfl), if_neg (set_ne h1 hb)]
  · have hkl := (List.getElem?_eq_some_iff.1 hk).1
    have h1 := recB_len l
    have hk2 : (bodyB (ofS magic) l)[k - 5]? = some b := by
      unfold recB at hk
      rwa [List.getElem?_append_right (show magic.length ≤ k by have : magic.length = 5 := rfl; omega)] at hk
    have hlen : l.length < (recB l).length := by
      have key : ∀ (l : List En) h, l.length ≤ (bodyB h l).length := by
        intro l
        induction l with
        | nil => intro h; exact Nat.zero_le _
        | cons x l ih =>
          intro h
          have h3 := frB_length x h
          have := ih (fromS h (encE x))
          show l.length + 1 ≤ (frB x h ++ bodyB (fromS h (encE x)) l).length
          rw [List.length_append]
          omega
      have := key l (ofS magic)
      omega
    obtain ⟨n, e, hn, h2, h3, h4, h6⟩ := readB_set hv (ofS magic) (recB l).length (k - 5) (ofS_lt magic) hlen hk2 hb
    refine .inr ⟨n, e, hn, by unfold endR; omega, by unfold endR; omega, h4, ?_⟩
    have e1 : (recB l).set k c = magic ++ (bodyB (ofS magic) l).set (k - 5) c := by
      unfold recB
      rw [List.set_append_right _ _ (show magic.length ≤ k by have : magic.length = 5 := rfl; omega)]
      rfl
    unfold readR
    rw [e1, List.take_left' (show magic.length = 5 from rfl), if_pos rfl, List.drop_left' (show magic.length = 5 from rfl)]
    rw [show (magic ++ (bodyB (ofS magic) l).set (k - 5) c).length = (recB l).length by rw [← e1, List.length_set], h6]
    rfl

end Go.Proofs.Ytkcmdibpndkfbaa

namespace Go.Proofs.Ytkcmdibpndkfbaa
open Go.RowKit

/-- Few entries with few bytes. -/
def fewR (l : List En) : Bool := l.all (fun x => decide (x.data.length ≤ 200)) && decide (l.length ≤ 20)
theorem fewR_of {l : List En} (h : fewR l = true) : (∀ x ∈ l, x.data.length ≤ 200) ∧ l.length ≤ 20 := by
  unfold fewR at h
  simp only [Bool.and_eq_true, List.all_eq_true, decide_eq_true_eq] at h
  exact h

set_option maxRecDepth 100000 in
set_option maxHeartbeats 1000000 in
theorem Ref.few_any (A : Option Addr) (c : Nat) (rs : List ER) (w : World) (hE : Es w w.heap.size A rs) (hl : rs.length ≤ maxLen) :
    Calls Try.prog 8 #[.slice A rs.length c] w fun e w' => e = .returned (.bool (fewR (rs.map ER.x))) ∧ w' = w := by
  obtain ⟨N, hN⟩ : ∃ N, rs.length = N := ⟨_, rfl⟩
  obtain ⟨F, hF⟩ : ∃ F, fewR (rs.map ER.x) = F := ⟨_, rfl⟩
  have HE := Lib.hid hE
  have HF := Lib.hid hF
  have HN := Lib.hid hN
  rw [hN, hF]
  rw [hN] at hl
  unfold maxLen at hl
  clear hE hF hN
  go_enter Try.func8, Try.ntmps8
  go_wp2_with fail
  go_loopw [3] (fun i wr => ∃ k : Nat, k ≤ N ∧ i = .int .i64 k ∧ (∀ x ∈ (rs.take k).map ER.x, x.data.length ≤ 200) ∧ wr = w) (fun i _ => N - (intOf i).toNat)
  case atStart => exact ⟨0, Nat.zero_le _, rfl, fun x hx => by simp at hx, rfl⟩
  case round =>
    obtain ⟨k, hk, rfl, hpre, rfl⟩ := hrel
    have HPRE := Lib.hid hpre
    clear hpre
    by_cases hlt : k < N
    · obtain ⟨r, hr⟩ : ∃ r, rs[k]? = some r := ⟨rs[k]'(by rw [HN.out]; exact hlt), List.getElem?_eq_getElem _⟩
      obtain ⟨hkl, hge⟩ := List.getElem?_eq_some_iff.1 hr
      have htk : (rs.take (k + 1)).map ER.x = (rs.take k).map ER.x ++ [r.x] := by
        rw [List.take_succ_eq_append_getElem hkl, hge, List.map_append]
        rfl
      obtain ⟨b, off, rfl, _, hc⟩ := HE.out.at_ hr
      have e7 : wr.cell? ⟨b, off + (k * 8 + 7), none⟩ = some (.slice r.A r.x.data.length r.c) := hc 7 _ rfl
      rw [← Nat.add_assoc] at e7
      have hki : (k : Int) < N := by omega
      have HTK := Lib.hid htk
      have hmx : r.x ∈ rs.map ER.x := List.mem_map.2 ⟨r, List.mem_of_getElem? hr, rfl⟩
      have HMX := Lib.hid hmx
      obtain ⟨D, hD⟩ : ∃ D, r.x.data.length = D := ⟨_, rfl⟩
      rw [hD] at e7
      have HD := Lib.hid hD
      clear hc hr hkl hge htk hmx hD hlt
      by_cases hD : D ≤ 200
      · have hdi : ¬ (200 : Int) < (D : Int) := by omega
        go_wp2_with fail
        go_roundw
        case rel => exact ⟨k + 1, by omega, by go_num, fun x hx => by
          rw [HTK.out] at hx
          rcases List.mem_append.1 hx with hx | hx
          · exact HPRE.out x hx
          · rw [List.mem_singleton] at hx
            rw [hx, HD.out]
            exact hD, by first | rfl | trivial⟩
        case measure => simp [intOf]; omega
      · have hdi : (200 : Int) < (D : Int) := by omega
        have hFf : F = false := by
          rw [Bool.eq_false_iff]
          intro h
          have h1 := (fewR_of (HF.out.trans h)).1 _ HMX.out
          rw [HD.out] at h1
          omega
        have HFF := Lib.hid hFf
        clear hFf hD
        go_wp2_with fail
        refine bodyPost_ret (v := .bool false) (by simp [results, Try.results8, go_sem]) rfl ?_
        exact ⟨by rw [HFF.out], rfl⟩
    · have hkN : k = N := by omega
      subst hkN
      have hki : ¬ (k : Int) < k := by omega
      have hFf : decide ((k : Int) ≤ 20) = F := by
        rw [← HF.out]
        unfold fewR
        have h1 : (rs.map ER.x).all (fun x => decide (x.data.length ≤ 200)) = true := by
          rw [List.all_eq_true]
          intro x hx
          have h2 := HPRE.out x (by rw [List.take_of_length_le (by rw [HN.out]; exact Nat.le_refl _)]; exact hx)
          simpa using h2
        rw [h1, List.length_map, HN.out, Bool.true_and]
        by_cases h : k ≤ 20
        · rw [decide_eq_true h, decide_eq_true (by omega)]
        · rw [decide_eq_false h, decide_eq_false (by omega)]
      have HFF := Lib.hid hFf
      clear hFf hlt
      go_wp2_with fail
      refine bodyPost_ret (v := .bool (decide ((k : Int) ≤ 20))) (by simp [results, Try.results8, go_sem]) rfl ?_
      exact ⟨by rw [← HFF.out], rfl⟩

def ex1 : En := ⟨6, 16, 0, 0, 0, 0, 0, []⟩
theorem ex1_v : vE ex1 = true := by decide
theorem ex1_fits : ex1.fits := by refine ⟨?_, ?_, ?_, ?_, ?_, ?_, ?_⟩ <;> (unfold I64 ex1; decide)

set_option maxRecDepth 100000 in
set_option maxHeartbeats 4000000 in
theorem awake_any (w : World) : Calls Try.prog 7 #[] w (LawPost w) := by
  obtain ⟨w1, hw1⟩ : ∃ w1, w1 = w.alloc (.cells #[Value.int .i64 6, .int .i64 16, .int .i64 0, .int .i64 0, .int .i64 0, .int .i64 0, .int .i64 0, .slice none 0 0] 39) := ⟨_, rfl⟩
  obtain ⟨w2, hw2⟩ : ∃ w2, w2 = w1.alloc (.cells #[Value.int .i64 6, .int .i64 16, .int .i64 0, .int .i64 0, .int .i64 0, .int .i64 0, .int .i64 0, .slice none 0 0] 39) := ⟨_, rfl⟩
  have hO1 : Only Nil w w1 := by rw [hw1]; exact (Only.refl _ _).alloc _
  have hO2 : Only Nil w1 w2 := by rw [hw2]; exact (Only.refl _ _).alloc _
  have hb1 : Blk w1 w.heap.size 39 #[Value.int .i64 6, .int .i64 16, .int .i64 0, .int .i64 0, .int .i64 0, .int .i64 0, .int .i64 0, .slice none 0 0] := by rw [hw1]; exact Blk.new _ _ _
  have hb2 : Blk w2 w1.heap.size 39 #[Value.int .i64 6, .int .i64 16, .int .i64 0, .int .i64 0, .int .i64 0, .int .i64 0, .int .i64 0, .slice none 0 0] := by rw [hw2]; exact Blk.new _ _ _
  have hs1 : w1.heap.size = w.heap.size + 1 := by rw [hw1]; exact World.size_alloc _ _
  have hes : Es w2 w2.heap.size (some ⟨w1.heap.size, 0, none⟩) [⟨none, 0, ex1⟩] :=
    ⟨Rd.more (Rd.blk (n := 1) hb2 rfl) hb2.lt, fun r hr => by
      rw [List.mem_singleton] at hr
      subst hr
      exact ⟨ex1_fits, Nat.le_refl _, by unfold maxLen; exact Nat.zero_le _, Bs.nil _ _ _⟩⟩
  have hwr := write_any (some ⟨w1.heap.size, 0, none⟩) 1 [⟨none, 0, ex1⟩] w2 hes (by decide)
  have hv1 : ∀ x ∈ [ex1], vE x = true ∧ x.fits := fun x hx => by rw [List.mem_singleton] at hx; subst hx; exact ⟨ex1_v, ex1_fits⟩
  have hrr := readR_recB hv1
  have hlen : 21 < (recB [ex1]).length := by
    rw [recB_len]
    show 21 < 5 + (frB ex1 (ofS magic) ++ []).length
    rw [List.append_nil, frB_length]
    have : 0 < (encE ex1).length := by
      unfold encE
      rw [List.append_assoc, List.append_assoc, List.append_assoc, List.length_append]
      have : 0 < (encL [ex1.kind, ex1.task, ex1.call]).length := by
        unfold encL
        rw [List.flatMap_cons, List.length_append]
        have : (encI ex1.kind).length = 1 := by
          unfold encI
          rw [encU_small (by decide)]
          rfl
        omega
      omega
    omega
  have hlen2 : (recB [ex1]).length ≤ 2000 := by
    rw [recB_len]
    have := bodyB_len (h := ofS magic) (l := [ex1]) (fun x hx => ⟨(hv1 x hx).2, vE_data (hv1 x hx).1⟩)
    have e : [ex1].length = 1 := rfl
    omega
  have htk : (recB [ex1]).take 5 = [82, 84, 78, 82, 49] := List.take_left' rfl
  change Calls Try.prog 9 #[.slice (some ⟨w1.heap.size, 0, none⟩) 1 1] w2 (WrPost [ex1] w2) at hwr
  obtain ⟨B, hB⟩ : ∃ B, recB [ex1] = B := ⟨_, rfl⟩
  unfold WrPost at hwr
  rw [hB] at hrr hlen hlen2 htk hwr
  obtain ⟨M, hM⟩ : ∃ M, B.length = M := ⟨_, rfl⟩
  rw [hM] at hrr hlen hlen2 hwr
  have HW1 := Lib.hid hw1
  have HW2 := Lib.hid hw2
  have HWR := Lib.hid hwr
  have HRR := Lib.hid hrr
  have HTK := Lib.hid htk
  have HM := Lib.hid hM
  have HO12 := Lib.hid (hO1.thenNil hO2)
  have HB1 := Lib.hid (hb1.onlyNil hO2)
  have k1 : ∀ i, w1.cell? ⟨w.heap.size, i, none⟩ = #[Value.int .i64 6, .int .i64 16, .int .i64 0, .int .i64 0, .int .i64 0, .int .i64 0, .int .i64 0, .slice none 0 0][i]? := fun i => hb1.cell i
  clear hw1 hw2 hO1 hO2 hb1 hb2 hs1 hes hwr hv1 hrr htk hM hB
  go_enter Try.func7, Try.ntmps7
  go_upto_region 2 with fail
  rw [← HW1.out]
  go_wp2_with fail
  rw [← HW2.out]
  refine HWR.out.mono ?_
  rintro e w3 ⟨hO3, hpost⟩
  have hpost2 : ∃ A c, e = .returned (.tuple #[.slice A M c, .int .i64 0]) ∧ OwnX w3 w2.heap.size A c B := by
    rcases hpost with ⟨_, A, c, h1, h2⟩ | ⟨h1, _⟩
    · exact ⟨A, c, h1, h2⟩
    · rw [show [ex1].all vE = true from by decide] at h1
      cases h1
  clear hpost
  obtain ⟨A, c, rfl, hown⟩ := hpost2
  have hform := hown.form
  rw [HM.out] at hform
  have hMc := hform.1
  have hrd := read_any A c B w3 hown.bs (by rw [HM.out]; omega) (by rw [HM.out]; exact hMc)
  rw [HRR.out, HM.out] at hrd
  have HRD := Lib.hid hrd
  have HOW := Lib.hid hown
  have HO3 := Lib.hid (HO12.out.thenNil hO3)
  have HB3 := Lib.hid (HB1.out.onlyNil hO3)
  clear hrd hown hO3 hform k1
  go_wp2_with fail
  refine HRD.out.mono ?_
  rintro e w4 ⟨A4, c4, rs, hmap, rfl, hc4, hel, hO4⟩
  obtain ⟨r, rfl⟩ : ∃ r, rs = [r] := List.length_eq_one_iff.1 (by have h := congrArg List.length hmap; rw [List.length_map] at h; exact h)
  have hrx : r.x = ex1 := by simpa using hmap
  have hr0 : ([r] : List ER)[0]? = some r := rfl
  obtain ⟨b, off, rfl, _, hc⟩ := hel.es.at_ hr0
  have HOKR := Lib.hid (hel.es.ok r (by simp))
  have HO4 := Lib.hid (HO3.out.thenNil hO4)
  have HB4 := Lib.hid (HB3.out.onlyNil hO4)
  have hb5 := (HOW.out.onlyNil hO4).bs.take 5 (by rw [HM.out]; omega)
  rw [HTK.out] at hb5
  have HB5 := Lib.hid hb5
  have HSE := Lib.hid (fun (u : World) (hu : Only Nil w4 u) => same_entry r ⟨none, 0, ex1⟩ u (((HOKR.out.onlyNil hu (Nat.le_refl _)).up hu.size).data) (Bs.nil _ _ _))
  have HC := Lib.hid (fun (u : World) (hu : Only Nil w4 u) j v (hj : r.cells[j]? = some v) => (hu.cell (lt_of_cell (hc j v hj)) (fun h => h)).trans (hc j v hj))
  clear hmap hel hc hc4 hO4 hr0 hb5
  obtain ⟨Ar, cr, xr⟩ := r
  dsimp only at hrx
  subst hrx
  rw [show sameE ex1 ex1 = true from sameE_iff.2 rfl] at HSE
  change Hid (∀ u, Only Nil w4 u → Calls Try.prog 18 #[.agg #[.int .i64 6, .int .i64 16, .int .i64 0, .int .i64 0, .int .i64 0, .int .i64 0, .int .i64 0, .slice Ar 0 cr], .agg #[.int .i64 6, .int .i64 16, .int .i64 0, .int .i64 0, .int .i64 0, .int .i64 0, .int .i64 0, .slice none 0 0]] u fun e w' => e = .returned (.bool true) ∧ Only Nil u w') at HSE
  have HS : Hid (∀ u, Only Nil w4 u → u.cell? ⟨b, off, none⟩ = some (.int .i64 6) ∧ u.cell? ⟨b, off + 1, none⟩ = some (.int .i64 16) ∧ u.cell? ⟨b, off + 2, none⟩ = some (.int .i64 0) ∧ u.cell? ⟨b, off + 3, none⟩ = some (.int .i64 0) ∧ u.cell? ⟨b, off + 4, none⟩ = some (.int .i64 0) ∧ u.cell? ⟨b, off + 5, none⟩ = some (.int .i64 0) ∧ u.cell? ⟨b, off + 6, none⟩ = some (.int .i64 0) ∧ u.cell? ⟨b, off + 7, none⟩ = some (.slice Ar 0 cr) ∧
      (∀ i, u.cell? ⟨w.heap.size, i, none⟩ = #[Value.int .i64 6, .int .i64 16, .int .i64 0, .int .i64 0, .int .i64 0, .int .i64 0, .int .i64 0, .slice none 0 0][i]?) ∧
      (convert 26 9 (.slice A 5 c)).run Try.prog u = .ok (.string ⟨#[82, 84, 78, 82, 49]⟩) u) := Lib.hid (fun u hu => by
    have e : ∀ (j : Nat) (v : Value), (⟨Ar, cr, ex1⟩ : ER).cells[j]? = some v → u.cell? ⟨b, off + j, none⟩ = some v := fun j v hj => by
      have := HC.out _ hu j v hj
      rwa [Nat.zero_mul, Nat.zero_add] at this
    have hb6 := HB5.out.onlyNil hu (Nat.le_refl _)
    exact ⟨e 0 _ rfl, e 1 _ rfl, e 2 _ rfl, e 3 _ rfl, e 4 _ rfl, e 5 _ rfl, e 6 _ rfl, e 7 _ rfl, fun i => (HB4.out.onlyNil hu).cell i,
      run_str (P := Try.prog) u 26 9 5 Try.underlying26 Try.underlying5 Try.underlying9 (c := c) hb6 rfl⟩)
  have hs0 := HS.out w4 (Only.refl _ _)
  have hs1 := HS.out w4.drew (Only.refl _ _).drew
  obtain ⟨x0, x1, x2, x3, x4, x5, x6, x7, x8, x9⟩ := hs0
  obtain ⟨z0, z1, z2, z3, z4, z5, z6, z7, z8, z9⟩ := hs1
  have hM21 : (21 : Int) < (M : Int) := by omega
  have h5c : (5 : Int) ≤ (c : Int) := by omega
  rw [show ([⟨Ar, cr, ex1⟩] : List ER).length = 1 from rfl]
  dsimp only
  go_wp2_with fail
  go_region_held3 (fun u => u.cell? ⟨b, off, none⟩ = some (.int .i64 6) ∧ u.cell? ⟨b, off + 1, none⟩ = some (.int .i64 16) ∧ u.cell? ⟨b, off + 2, none⟩ = some (.int .i64 0) ∧ u.cell? ⟨b, off + 3, none⟩ = some (.int .i64 0) ∧ u.cell? ⟨b, off + 4, none⟩ = some (.int .i64 0) ∧ u.cell? ⟨b, off + 5, none⟩ = some (.int .i64 0) ∧ u.cell? ⟨b, off + 6, none⟩ = some (.int .i64 0) ∧ u.cell? ⟨b, off + 7, none⟩ = some (.slice Ar 0 cr) ∧
      (∀ i, u.cell? ⟨w.heap.size, i, none⟩ = #[Value.int .i64 6, .int .i64 16, .int .i64 0, .int .i64 0, .int .i64 0, .int .i64 0, .int .i64 0, .slice none 0 0][i]?) ∧
      (convert 26 9 (.slice A 5 c)).run Try.prog u = .ok (.string ⟨#[82, 84, 78, 82, 49]⟩) u) (first | with_reducible assumption | go_keep)
    (first
      | (go_simp; go_at_call 18; refine (HSE.out _ (Only.refl _ _).drew).mono ?_; rintro x w5 ⟨rfl, hO5⟩; have hs2 := HS.out w5 ((Only.refl Nil w4).drew.thenNil hO5)))
  go_wp2_with fail
  go_ret
  exact ⟨rfl, HO4.out.thenNil ((Only.refl Nil w4).drew.thenNil hO5)⟩

end Go.Proofs.Ytkcmdibpndkfbaa

namespace Go.Proofs.Ytkcmdibpndkfbaa
open Go.ChangeShapes Go.WideShapes Go.ChangeAt Go.RowKit Go.Deep

theorem recB_le {l : List En} (hf : ∀ x ∈ l, x.fits) (hv : l.all vE = true) (hn : l.length ≤ 21) : (recB l).length ≤ 40000 := by
  have h1 := bodyB_len (h := ofS magic) (l := l) (fun y hy => ⟨hf y hy, vE_data (List.all_eq_true.1 hv y hy)⟩)
  rw [recB_len]
  omega

namespace recordAppends
set_option maxRecDepth 100000 in
set_option maxHeartbeats 4000000 in
theorem walk (A : Option Addr) (ca : Nat) (rs : List ER) (w : World) (ha : Es w w.heap.size A rs) (hal : rs.length ≤ maxLen) :
    Calls Try.prog 6 #[.slice A rs.length ca] w (LawPost w) := by
  have hfa := fun w' (hO : Only Nil w w') => Ref.few_any A ca rs w' (ha.next hO) hal
  have HA := Lib.hid ha
  obtain ⟨fa, hfa1⟩ : ∃ f, fewR (rs.map ER.x) = f := ⟨_, rfl⟩
  rw [hfa1] at hfa
  obtain ⟨N, hN⟩ : ∃ N, rs.length = N := ⟨_, rfl⟩
  rw [hN] at hfa hal ⊢
  have HFA := Lib.hid hfa
  have HFA1 := Lib.hid hfa1
  have HN := Lib.hid hN
  unfold maxLen at hal
  clear ha hfa hN hfa1
  go_enter Try.func6, Try.ntmps6
  go_wp2_with fail
  refine (awake_any _).mono ?_
  rintro x w1 ⟨rfl, hO1⟩
  have HO1 := Lib.hid hO1
  clear hO1
  go_wp2_with fail
  refine (HFA.out _ HO1.out).mono ?_
  rintro x w2 ⟨rfl, rfl⟩
  cases fa
  · go_wp2_with fail
    go_ret
    exact ⟨rfl, HO1.out⟩
  have h1 := fewR_of HFA1.out
  have hN20 : N ≤ 20 := by rw [← HN.out]; have := h1.2; rwa [List.length_map] at this
  have hfit : ∀ k, ∀ x ∈ (rs.take k).map ER.x, x.fits := fun k x hx => by
    obtain ⟨q, hq, rfl⟩ := List.mem_map.1 hx
    exact (HA.out.ok q (List.mem_of_mem_take hq)).fits
  have HFIT := Lib.hid hfit
  have hwl : ∀ u, Only Nil w u → Calls Try.prog 9 #[.slice A N ca] u (WrPost (rs.map ER.x) u) := fun u hO => by
    have := write_any A ca rs u (HA.out.next hO) (by rw [HN.out]; omega)
    rwa [HN.out] at this
  have HWL := Lib.hid hwl
  have hw0 := write_any none 0 [] w2 ⟨Rd.nil, fun r hr => by cases hr⟩ (by simp)
  have HW0 := Lib.hid hw0
  clear h1 hfit hwl hw0
  go_wp2_with fail
  refine HW0.out.mono ?_
  rintro x w3 ⟨hO3, hpost⟩
  have hpost2 : ∃ A c, x = .returned (.tuple #[.slice A (recB []).length c, .int .i64 0]) ∧ OwnX w3 w2.heap.size A c (recB []) := by
    rcases hpost with ⟨_, A, c, h1, h2⟩ | ⟨h1, _⟩
    · exact ⟨A, c, h1, h2⟩
    · cases h1
  clear hpost
  obtain ⟨A0, c0, rfl, hown0⟩ := hpost2
  have HOW0 := Lib.hid hown0
  have HO3 := Lib.hid (HO1.out.thenNil hO3)
  clear hO3 hown0
  obtain ⟨M0, hM0⟩ : ∃ M, (recB []).length = M := ⟨_, rfl⟩
  rw [hM0]
  have HM0 := Lib.hid hM0
  clear hM0
  go_wp2_with fail
  go_loopw [3, 4, 5] (fun vb ve vi wr => ∃ k : Nat, k ≤ N ∧ vi = .int .i64 k ∧ Only Nil w wr ∧
      ((((rs.take k).map ER.x).all vE = true ∧ ve = .int .i64 0 ∧ ∃ Ab cb M, (recB ((rs.take k).map ER.x)).length = M ∧ vb = .slice Ab M cb ∧ ∃ base, OwnX wr base Ab cb (recB ((rs.take k).map ER.x))) ∨
       ((rs.map ER.x).all vE = false ∧ ve = .int .i64 1 ∧ vb = .slice none 0 0))) (fun _ _ vi _ => N - (intOf vi).toNat)
  case atStart => exact ⟨0, Nat.zero_le _, rfl, HO3.out, .inl ⟨rfl, rfl, A0, c0, M0, HM0.out, rfl, _, HOW0.out⟩⟩
  case round =>
    obtain ⟨k, hk, rfl, hO, hcase⟩ := hrel
    have HO := Lib.hid hO
    clear hO
    rcases hcase with ⟨hall, rfl, Ab, cb, M, hM, rfl, base, hown⟩ | ⟨hall, rfl, rfl⟩
    · have HALL := Lib.hid hall
      have HM := Lib.hid hM
      have HOWN := Lib.hid hown
      clear hall hM hown
      by_cases hlt : k < N
      · obtain ⟨r, hr⟩ : ∃ r, rs[k]? = some r := ⟨rs[k]'(by rw [HN.out]; exact hlt), List.getElem?_eq_getElem _⟩
        obtain ⟨hkl, hge⟩ := List.getElem?_eq_some_iff.1 hr
        have htk : (rs.take (k + 1)).map ER.x = (rs.take k).map ER.x ++ [r.x] := by
          rw [List.take_succ_eq_append_getElem hkl, hge, List.map_append]
          rfl
        have hok : ER.ok wr wr.heap.size r := ((HA.out.next HO.out).ok r (List.mem_of_getElem? hr))
        have hMle := recB_le (HFIT.out k) HALL.out (by rw [List.length_map, List.length_take]; omega)
        have hrr := readR_recB (l := (rs.take k).map ER.x) (fun x hx => ⟨List.all_eq_true.1 HALL.out x hx, HFIT.out k x hx⟩)
        have hform := HOWN.out.form
        rw [HM.out] at hMle hform
        have happ := append_any Ab cb (recB ((rs.take k).map ER.x)) r wr HOWN.out.bs (by rw [HM.out]; omega) (by rw [HM.out]; exact hform.1) hok (by rw [hrr, List.length_map, List.length_take]; omega)
        rw [hrr, HM.out] at happ
        obtain ⟨b, off, rfl, _, hc⟩ := (HA.out.next HO.out).at_ hr
        have hki : (k : Int) < N := by omega
        have hmx : (rs.map ER.x)[k]? = some r.x := by rw [List.getElem?_map, hr]; rfl
        have HMX := Lib.hid hmx
        have HTK := Lib.hid htk
        have HAPP := Lib.hid happ
        obtain ⟨Ad, cd, ⟨kind, task, call, a0, a1, a2, result, data⟩⟩ := r
        unfold ER.cells at hc HAPP
        dsimp only at hc HAPP
        have e0 : wr.cell? ⟨b, off + k * 8, none⟩ = some (.int .i64 kind) := by have := hc 0 _ rfl; rwa [Nat.add_zero] at this
        have e1 : wr.cell? ⟨b, off + k * 8 + 1, none⟩ = some (.int .i64 task) := by have := hc 1 _ rfl; rwa [← Nat.add_assoc] at this
        have e2 : wr.cell? ⟨b, off + k * 8 + 2, none⟩ = some (.int .i64 call) := by have := hc 2 _ rfl; rwa [← Nat.add_assoc] at this
        have e3 : wr.cell? ⟨b, off + k * 8 + 3, none⟩ = some (.int .i64 a0) := by have := hc 3 _ rfl; rwa [← Nat.add_assoc] at this
        have e4 : wr.cell? ⟨b, off + k * 8 + 4, none⟩ = some (.int .i64 a1) := by have := hc 4 _ rfl; rwa [← Nat.add_assoc] at this
        have e5 : wr.cell? ⟨b, off + k * 8 + 5, none⟩ = some (.int .i64 a2) := by have := hc 5 _ rfl; rwa [← Nat.add_assoc] at this
        have e6 : wr.cell? ⟨b, off + k * 8 + 6, none⟩ = some (.int .i64 result) := by have := hc 6 _ rfl; rwa [← Nat.add_assoc] at this
        have e7 : wr.cell? ⟨b, off + k * 8 + 7, none⟩ = some (.slice Ad data.length cd) := by have := hc 7 _ rfl; rwa [← Nat.add_assoc] at this
        clear hc hr hkl hge htk hok hMle hrr hform happ hmx
        go_wp2_with fail
        refine HAPP.out.mono ?_
        rintro x w5 ⟨hO5, hpost⟩
        dsimp only at hpost
        rw [← HTK.out] at hpost
        have hp2 : (((rs.take (k + 1)).map ER.x).all vE = true ∧ ∃ Ab cb M, (recB ((rs.take (k + 1)).map ER.x)).length = M ∧ x = .returned (.tuple #[.slice Ab M cb, .int .i64 0]) ∧ ∃ base, OwnX w5 base Ab cb (recB ((rs.take (k + 1)).map ER.x))) ∨
            ((rs.map ER.x).all vE = false ∧ x = .returned (.tuple #[.slice none 0 0, .int .i64 1])) := by
          rcases hpost with ⟨h1, _⟩ | ⟨_, h1, h2⟩ | ⟨_, h1, h2⟩
          · exact absurd rfl h1
          · exact .inr ⟨all_take HMX.out h1, h2⟩
          · rcases h2.2 with ⟨h3, A3, c3, h4, h5⟩ | ⟨h3, _⟩
            · exact .inl ⟨h3, A3, c3, _, rfl, h4, _, h5⟩
            · exfalso
              rw [HTK.out, List.all_append, HALL.out] at h3
              simp [h1] at h3
        clear hpost
        have HO5 := Lib.hid (HO.out.thenNil hO5)
        clear hO5 e0 e1 e2 e3 e4 e5 e6 e7
        rcases hp2 with ⟨h1, A5, c5, M5, h2, rfl, base5, h3⟩ | ⟨h1, rfl⟩
        · have HH := Lib.hid (And.intro h1 (And.intro h2 h3))
          clear h1 h2 h3
          go_wp2_with fail
          go_roundw
          case rel => exact ⟨k + 1, by omega, by go_num, HO5.out, .inl ⟨HH.out.1, rfl, A5, c5, M5, HH.out.2.1, rfl, base5, HH.out.2.2⟩⟩
          case measure => simp [intOf]; omega
        · have HH := Lib.hid h1
          clear h1
          go_wp2_with fail
          go_roundw
          case rel => exact ⟨k + 1, by omega, by go_num, HO5.out, .inr ⟨HH.out, rfl, rfl⟩⟩
          case measure => simp [intOf]; omega
      · have hkN : k = N := by omega
        have hki : ¬ (k : Int) < N := by omega
        have htk : rs.take k = rs := List.take_of_length_le (by rw [HN.out]; omega)
        have hall := HALL.out
        have hM := HM.out
        have hown := HOWN.out
        rw [htk] at hall hM hown
        obtain ⟨B, hB⟩ : ∃ B, recB (rs.map ER.x) = B := ⟨_, rfl⟩
        have hw := HWL.out wr HO.out
        unfold WrPost at hw
        rw [hall] at hw
        rw [hB] at hM hown hw
        have HM2 := Lib.hid hM
        have HOW2 := Lib.hid hown
        have HW := Lib.hid hw
        clear hall hM hown hw hB htk hkN hlt
        go_wp2_with fail
        refine HW.out.mono ?_
        rintro x w5 ⟨hO5, hpost⟩
        have hp2 : ∃ A c, x = .returned (.tuple #[.slice A M c, .int .i64 0]) ∧ OwnX w5 wr.heap.size A c B := by
          rcases hpost with ⟨_, A, c, h1, h2⟩ | ⟨h1, _⟩
          · exact ⟨A, c, by rw [h1, HM2.out], h2⟩
          · cases h1
        clear hpost
        obtain ⟨A5, c5, rfl, hown5⟩ := hp2
        have ks1 := run_str (P := Try.prog) w5 26 9 5 Try.underlying26 Try.underlying5 Try.underlying9 (c := cb) (HOW2.out.onlyNil hO5).bs HM2.out.symm
        have ks2 := run_str (P := Try.prog) w5 26 9 5 Try.underlying26 Try.underlying5 Try.underlying9 (c := c5) hown5.bs HM2.out.symm
        have HO5 := Lib.hid (HO.out.thenNil hO5)
        clear hO5 hown5
        go_wp2_with fail
        refine bodyPost_ret (v := .bool true) (by simp [results, Try.results6, go_sem]) rfl ?_
        exact ⟨rfl, HO5.out⟩
    · have hw := HWL.out wr HO.out
      unfold WrPost at hw
      rw [hall] at hw
      have HW := Lib.hid hw
      clear hw hall
      obtain ⟨q, hq⟩ : ∃ q, decide ((k : Int) < (N : Int)) = q := ⟨_, rfl⟩
      have hqi : k < N ∨ k = N := by omega
      rcases hqi with hlt | hlt
      · have hki : (k : Int) < N := by omega
        clear hq hlt
        go_wp2_with fail
        refine HW.out.mono ?_
        rintro x w5 ⟨hO5, hpost⟩
        have hp2 : x = .returned (.tuple #[.slice none 0 0, .int .i64 1]) := by
          rcases hpost with ⟨h1, _⟩ | ⟨_, h1⟩
          · cases h1
          · exact h1
        clear hpost
        subst hp2
        have HO5 := Lib.hid (HO.out.thenNil hO5)
        clear hO5
        go_wp2_with fail
        refine bodyPost_ret (v := .bool true) (by simp [results, Try.results6, go_sem]) rfl ?_
        exact ⟨rfl, HO5.out⟩
      · have hki : ¬ (k : Int) < N := by omega
        clear hq hlt
        go_wp2_with fail
        refine HW.out.mono ?_
        rintro x w5 ⟨hO5, hpost⟩
        have hp2 : x = .returned (.tuple #[.slice none 0 0, .int .i64 1]) := by
          rcases hpost with ⟨h1, _⟩ | ⟨_, h1⟩
          · cases h1
          · exact h1
        clear hpost
        subst hp2
        have HO5 := Lib.hid (HO.out.thenNil hO5)
        clear hO5
        go_wp2_with fail
        refine bodyPost_ret (v := .bool true) (by simp [results, Try.results6, go_sem]) rfl ?_
        exact ⟨rfl, HO5.out⟩

set_option maxRecDepth 100000 in
theorem from_args {H : Type} {enc : TypeId × Value → H} (W : World) (base : Nat) (args : Array Value) (ds : List (DataW H)) (ps : List MemPlace)
    (hval0 : ∀ (j : Nat) t v, Try.f6.params[j]? = some t → args[j]? = some v → Value.okWide Try.prog W .any base t v)
    (hA : DataW.TrodAll enc Try.prog W 0 (fun _ => true) true Try.f6.params.toList args.toList ds ps) (_hlt : ∀ x ∈ ps, x.block < W.heap.size)
    (hsz : (DataW.weightsEach Try.prog Try.f6.params.toList ds).all (· ≤ reachBytes) = true) : Calls Try.prog 6 args W (LawPost W) := by
  have hval := hval0
  rw [Try.params6] at hA hval hsz
  obtain ⟨v0, vs0, d0, ds0, p0, q0, hargs, rfl, rfl, h0, r0⟩ := trodAll_cons hA
  obtain ⟨rfl, rfl, rfl⟩ := trodAll_nil r0
  obtain rfl : args = #[v0] := by cases args; simp_all
  obtain ⟨A, rs, ca, rfl, h1', h2', hE⟩ := open_entries (hval 0 _ v0 rfl rfl) h0
  exact walk A ca rs W hE (by omega)

set_option maxRecDepth 100000 in
theorem over : Rows.recordAppendsRow.holds Try.pinned (OpenSpec.ofChange Rows.recordAppendsSpec) :=
  OpenClaim.holds_of_wide 6 Try.f6 rfl rfl rfl rfl rfl rfl rfl ⟨rfl, rfl, rfl, rfl, rfl⟩ rfl rfl rfl rfl rfl (by kernel_rfl) Try.func6 (by kernel_rfl)
    (of_decide_eq_true (by kernel_rfl)) (by unfold Func.isWrapper; first | (rw [if_pos (by decide +kernel)]; kernel_rfl) | (rw [if_neg (by decide +kernel)]; exact ⟨rfl, rfl⟩))
    (fun os started H enc _ => law_lifted (f := 6) (F := Try.f6) (s := Rows.recordAppendsSpec) os started H enc (by kernel_rfl) Try.func6 rfl rfl (by kernel_rfl) (by kernel_rfl)
      (fun ds hd => by match ds, hd with | [_], _ => rfl)
      (ChangeSpec.witness6 (enc := enc) (C := Try.checked) false ⟨#[], #[.slice none 0 0], []⟩ 8 (by kernel_rfl) (by kernel_rfl) (by kernel_rfl) (by kernel_rfl))
      (fun W base args ds ps hv hA hlt hsz => from_args W base args ds ps hv hA hlt hsz))

/-- The statement. -/
theorem proved : Rows.RecordAppendsSaid := over

end recordAppends
end Go.Proofs.Ytkcmdibpndkfbaa

namespace Go.Proofs.Ytkcmdibpndkfbaa
open Go Go.RowKit

/-- One operation's goal, wrapped. -/
structure WOp (P : Program) (ops : Array Oper) (Q : Exit → Act → World → Prop) (i : Nat) (K : Act → World → Prop) (a : Act) (w : World) : Prop where
  out : wpOp P ops Q i K a w

section
variable {P : Program} {ops : Array Oper} {Q : Exit → Act → World → Prop}

theorem wpAny_inv3 {l : List Oper} {a0 : Act} {w : World} {listed : Array Bool} {fuel : Nat} (X : List Ent) (n g m : Nat) (l0 : List Bool) (T : Nat → Prop) (Ps : List VPred) (I : (Nat → Bool) → (Nat → Value) → World → Prop)
    (hl : listed = l0.toArray) (hf : fuel = n + g) (hX : okD X = true) (hc : chk .any l.toArray X (List.replicate m true ++ List.replicate g false) n [l0] = true)
    (hq : Region.seqB .any l.toArray g m (List.replicate m true ++ List.replicate g false).toArray = true) (hn : m + g = l.length)
    (h0 : ∀ j, l0.getD j false = true → ∀ v u, At Ps j v u)
    (hst : ∀ p ∈ Ps, Stays T p) (hI : ∀ vs, I (fun j => l0.getD j false) vs w)
    (hstep : ∀ x ∈ X, ∀ (L : Nat → Bool) (vs : Nat → Value) (w : World), I L vs w → (∀ j, L j = true → At Ps j (vs j) w) → L x.1 = false → (∀ j ∈ x.2.2, L j = true) →
      WOp P l.toArray Q x.1 (fun a' w' => ∃ v, a' = (putAll a0 X vs).put x.2.1 v ∧ Only T w w' ∧ I (upd L x.1 true) (upd vs x.1 v) w' ∧ At Ps x.1 v w') (putAll a0 X vs) w)
    (hfin : ∀ (L : Nat → Bool) vs w, I L vs w → (∀ j, j < m → L j = true) → (∀ j, j < m → At Ps j (vs j) w) → wpList P l.toArray Q (l.drop m) (putAll a0 X vs) w) : wpAny P .any l.toArray Q fuel listed a0 w :=
  wpAny_inv2 X n g m l0 T Ps I hl hf hX hc hq hn h0 hst hI (fun x hx L vs u h1 h2 h3 h4 => (hstep x hx L vs u h1 h2 h3 h4).out) hfin

/-- One operation, whenever it comes up. -/
theorem inv_step3 {i : Nat} {a : Act} {w : World} {d : Option Tmp} {J : Value → World → Prop} (o : Oper) (ho : ops[i]? = some o) (hd : o.dst = d)
    (h : ∀ K : Act → World → Prop, (∀ v w', J v w' → K (a.put d v) w') → if Region.wanted o (yielded ops a.tmps) = true then Oper.wp P o a w K Q else K (a.put o.dst undef) w) :
    WOp P ops Q i (fun a' w' => ∃ v, a' = a.put d v ∧ J v w') a w := ⟨inv_step o ho hd h⟩
end

end Go.Proofs.Ytkcmdibpndkfbaa
