/-
  Walks of ratoonref01's reader: begins, peek.
  Conditions: the reader stands within its bytes; they are at most 2 to the power 40.
-/
import Derived.Test.YtbhgaaendekghaaRfP
import Derived.Test.YtbhgaaendekghaaRfI
import Derived.Test.YtbhgaaendekghaaWrN
namespace Go.Proofs.Ytbhgaaendekghaa
open Go.RowKit

/-- A reader of the reference: its box, its bytes. -/
structure RF (w : World) (p : Nat) (A : Option Addr) (c : Nat) (l : List UInt8) (pos : Nat) (failed : Bool) : Prop where
  box : Blk w p 40 #[.slice A l.length c, .int .i64 pos, .bool failed]
  bytes : Bs w w.heap.size A l
  cap : l.length ≤ c
theorem RF.onlyNil {w w' : World} {p : Nat} {A : Option Addr} {c : Nat} {l : List UInt8} {pos : Nat} {f : Bool} (h : RF w p A c l pos f) (hO : Only Nil w w') : RF w' p A c l pos f :=
  ⟨h.box.onlyNil hO, (h.bytes.onlyNil hO (Nat.le_refl _)).up hO.size, h.cap⟩
theorem RF.move {w w' : World} {p : Nat} {A : Option Addr} {c : Nat} {l : List UInt8} {pos pos' : Nat} {f f' : Bool} (h : RF w p A c l pos f) (hO : Only (One p) w w') (hb : Blk w' p 40 #[.slice A l.length c, .int .i64 pos', .bool f']) : RF w' p A c l pos' f' :=
  ⟨hb, (h.bytes.box h.box (rr_no _ _ _ _ _) hO (Nat.le_refl _)).up hO.size, h.cap⟩

set_option maxRecDepth 100000 in
set_option maxHeartbeats 2000000 in
theorem begins_any (p : Nat) (A : Option Addr) (c : Nat) (l : List UInt8) (pos : Nat) (f : Bool) (X : Option Addr) (cx : Nat) (x : List UInt8) (w : World) (h : RF w p A c l pos f) (hx : Bs w w.heap.size X x) (hp : pos ≤ l.length) (hl : l.length ≤ 1099511627776) (hxl : x.length ≤ 1000) :
    Calls Try.prog 82 #[.pointer (some ⟨p, 0, none⟩), .slice X x.length cx] w fun e w' => e = .returned (.bool ((l.drop pos).take x.length == x)) ∧ Only Nil w w' := by
  obtain ⟨R, hR⟩ : ∃ R, ((l.drop pos).take x.length == x) = R := ⟨_, rfl⟩
  obtain ⟨N, hN⟩ : ∃ N, l.length = N := ⟨_, rfl⟩
  obtain ⟨K, hK⟩ : ∃ K, x.length = K := ⟨_, rfl⟩
  have hbx := h.box
  rw [hN] at hbx hp hl
  rw [hK] at hxl
  rw [hR, hK]
  have hsub : IntKind.i64.wrap ((N : Int) - pos) = (N : Int) - pos := IntWalk.i64_in _ (by omega)
  have HR := Lib.hid hR
  have HN := Lib.hid hN
  have HK := Lib.hid hK
  have H := Lib.hid h
  have HX := Lib.hid hx
  have HB := Lib.hid hbx
  have kb : ∀ i, w.cell? ⟨p, i, none⟩ = #[Value.slice A N c, .int .i64 pos, .bool f][i]? := fun i => hbx.cell i
  clear hR hN hK h hx hbx
  by_cases hs : (N : Int) - pos < K
  · have hRf : R = false := by
      rw [← HR.out, HK.out]
      apply beq_false_of_ne
      intro e
      have := congrArg List.length e
      rw [List.length_take, List.length_drop, HN.out, HK.out] at this
      omega
    have hd : decide ((N : Int) - pos < (K : Int)) = true := decide_eq_true hs
    subst hRf
    go_enter Try.func82, Try.ntmps82
    go_wp2_with fail
    go_quiet (fail)
    go_wp2_with fail
    go_ret
    exact ⟨rfl, by (repeat' (first | with_reducible exact Only.refl _ _ | with_reducible refine Only.setCell ?_ (Or.inl ?_) _ | with_reducible refine Only.drewN ?_ _ | with_reducible refine Only.drew ?_ | with_reducible refine Only.alloc ?_ _ | (fail)))⟩
  · have hd : decide ((N : Int) - pos < (K : Int)) = false := decide_eq_false hs
    go_enter Try.func82, Try.ntmps82
    go_wp2_with fail
    go_quiet (fail)
    go_wp2_with fail
    go_loopw [5] (fun i wr => ∃ k : Nat, k ≤ K ∧ i = .int .i64 k ∧ (l.drop pos).take k = x.take k ∧ Only Nil w wr) (fun i _ => K - (intOf i).toNat)
    case atStart => exact ⟨0, Nat.zero_le _, rfl, by simp, by (repeat' (first | with_reducible exact Only.refl _ _ | with_reducible refine Only.setCell ?_ (Or.inl ?_) _ | with_reducible refine Only.drewN ?_ _ | with_reducible refine Only.drew ?_ | with_reducible refine Only.alloc ?_ _ | (fail)))⟩
    case round =>
      obtain ⟨k, hk, rfl, hek, hO⟩ := hrel
      have HE := Lib.hid hek
      have HO := Lib.hid hO
      clear hek hO kb
      obtain ⟨w3, rfl⟩ : ∃ w3, w3 = wr := ⟨_, rfl⟩
      by_cases hlt : k < K
      · obtain ⟨P, hP⟩ : ∃ P, pos + k = P := ⟨_, rfl⟩
        have hPN : P < N := by omega
        obtain ⟨cb, hcb⟩ : ∃ b, l[P]? = some b := ⟨l[P]'(by rw [HN.out]; exact hPN), List.getElem?_eq_getElem _⟩
        obtain ⟨cy, hcy⟩ : ∃ b, x[k]? = some b := ⟨x[k]'(by rw [HK.out]; exact hlt), List.getElem?_eq_getElem _⟩
        have hdk : (l.drop pos)[k]? = some cb := by rw [List.getElem?_drop, hP]; exact hcb
        obtain ⟨g, off, hA, _, hc0⟩ := (H.out.onlyNil HO.out).bytes.at_ hcb
        obtain ⟨g', off', hX', _, hc1⟩ := ((HX.out.onlyNil HO.out (Nat.le_refl _)).up HO.out.size).at_ hcy
        have kb : ∀ u, Only Nil w3 u → ∀ i, u.cell? ⟨p, i, none⟩ = #[Value.slice A N c, .int .i64 pos, .bool f][i]? := fun u hu i => (HB.out.onlyNil (HO.out.thenNil hu)).cell i
        have kb0 := kb w3 (Only.refl _ _)
        have kb1 := kb w3.drew (Only.refl _ _).drew
        have c0 : ∀ u, Only Nil w3 u → u.cell? ⟨g, off + P, none⟩ = some (.int .u8 (cb.toNat : Int)) := fun u hu => (hu.cell (lt_of_cell hc0) (fun h => h)).trans hc0
        have c1 : ∀ u, Only Nil w3 u → u.cell? ⟨g', off' + k, none⟩ = some (.int .u8 (cy.toNat : Int)) := fun u hu => (hu.cell (lt_of_cell hc1) (fun h => h)).trans hc1
        have c00 := c0 w3 (Only.refl _ _)
        have c01 := c0 w3.drew (Only.refl _ _).drew
        have c10 := c1 w3 (Only.refl _ _)
        have c11 := c1 w3.drew (Only.refl _ _).drew
        subst hA hX'
        have hadd : IntKind.i64.wrap ((pos : Int) + k) = (P : Int) := by rw [IntWalk.i64_in _ (by omega)]; omega
        have hki : (k : Int) < K := by omega
        have hPi : (P : Int) < N := by omega
        have HDK := Lib.hid hdk
        have HCY := Lib.hid hcy
        clear hcb hcy hdk hc0 hc1 kb c0 c1
        by_cases he : cb = cy
        · subst he
          have hb1 : ((cb.toNat : Int) == (cb.toNat : Int)) = true := by simp
          have HNX := Lib.hid (show (l.drop pos).take (k + 1) = x.take (k + 1) by
            rw [List.take_add_one, List.take_add_one, HDK.out, HCY.out, HE.out])
          go_wp2_with fail
          go_quiet (fail)
          go_wp2_with fail
          go_roundw
          case rel => exact ⟨k + 1, by omega, by go_num, HNX.out, by (repeat' (first | with_reducible exact Only.refl _ _ | with_reducible refine Only.setCell ?_ (Or.inl ?_) _ | with_reducible refine Only.drewN ?_ _ | with_reducible refine Only.drew ?_ | with_reducible refine Only.alloc ?_ _ | (exact HO.out)))⟩
          case measure => simp [intOf]; omega
        · have hne : (cb.toNat : Int) ≠ (cy.toNat : Int) := fun h => he (UInt8.toNat_inj.1 (by omega))
          have hb1 : ((cb.toNat : Int) == (cy.toNat : Int)) = false := beq_false_of_ne hne
          have hb2 : ((cb.toNat : Int) != (cy.toNat : Int)) = true := by simp [hne]
          have hRf : R = false := by
            rw [← HR.out, HK.out]
            apply beq_false_of_ne
            intro e
            have h1 : ((l.drop pos).take K)[k]? = x[k]? := by rw [e]
            rw [List.getElem?_take_of_lt hlt, HDK.out, HCY.out] at h1
            injection h1 with h1
            exact he h1
          subst hRf
          clear he hne
          go_wp2_with fail
          go_quiet (fail)
          go_wp2_with fail
          go_ret
          exact ⟨rfl, by (repeat' (first | with_reducible exact Only.refl _ _ | with_reducible refine Only.setCell ?_ (Or.inl ?_) _ | with_reducible refine Only.drewN ?_ _ | with_reducible refine Only.drew ?_ | with_reducible refine Only.alloc ?_ _ | (exact HO.out)))⟩
      · have hkK : k = K := by omega
        subst hkK
        have hRt : R = true := by
          rw [← HR.out, HK.out, HE.out, List.take_of_length_le (by rw [HK.out]; exact Nat.le_refl _)]
          simp
        subst hRt
        go_wp2_with fail
        go_ret
        exact ⟨rfl, HO.out⟩

end Go.Proofs.Ytbhgaaendekghaa
