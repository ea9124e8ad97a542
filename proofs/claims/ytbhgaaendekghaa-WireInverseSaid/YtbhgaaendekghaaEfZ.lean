/-
  The walks of ratoonref01.SameInts, SameStrings at equal lists; of wire's Reader.Left, Reader.String.
  Conditions: the lists can be read; the reader stands within its bytes.
-/
import Derived.Test.YtbhgaaendekghaaEfU
import Derived.Test.YtbhgaaendekghaaWmBytes
import Derived.BigQuiet
namespace Go.Proofs.Ytbhgaaendekghaa
open Go.RowKit

set_option maxRecDepth 100000 in
set_option maxHeartbeats 1000000 in
theorem Ref.same_ints (A B : Option Addr) (ca cb : Nat) (ss : List Int) (w : World) (ha : Rd w w.heap.size 1 A ss.length (ss.map (Value.int .i64))) (hb : Rd w w.heap.size 1 B ss.length (ss.map (Value.int .i64))) (hl : ss.length ≤ 1099511627776) :
    Calls Try.prog 34 #[.slice A ss.length ca, .slice B ss.length cb] w fun e w' => e = .returned (.bool true) ∧ Only Nil w w' := by
  obtain ⟨N, hN⟩ : ∃ N, ss.length = N := ⟨_, rfl⟩
  have HA := Lib.hid ha
  have HB := Lib.hid hb
  have HN := Lib.hid hN
  rw [hN]
  rw [hN] at hl
  clear ha hb hN
  go_enter Try.func34, Try.ntmps34
  go_wp2_with fail
  go_loopw [5] (fun i wr => ∃ k : Nat, k ≤ N ∧ i = .int .i64 k ∧ Only Nil w wr) (fun i _ => N - (intOf i).toNat)
  case atStart => exact ⟨0, Nat.zero_le _, rfl, Only.refl _ _⟩
  case round =>
    obtain ⟨k, hk, rfl, hO⟩ := hrel
    have HO := Lib.hid hO
    clear hO
    by_cases hlt : k < N
    · obtain ⟨q, hq⟩ : ∃ q, ss[k]? = some q := ⟨ss[k]'(by rw [HN.out]; exact hlt), List.getElem?_eq_getElem _⟩
      have hqv : (ss.map (Value.int .i64))[k]? = some ((Value.int .i64) q) := by rw [List.getElem?_map, hq]; rfl
      obtain ⟨b, off, rfl, _, hc⟩ := (Rd.onlyNil HA.out HO.out (Nat.le_refl _)).2 (by rw [HN.out]; omega)
      obtain ⟨b', off', rfl, _, hc'⟩ := (Rd.onlyNil HB.out HO.out (Nat.le_refl _)).2 (by rw [HN.out]; omega)
      have e0 : wr.cell? ⟨b, off + k, none⟩ = some ((Value.int .i64) q) := hc k _ hqv
      have e1 : wr.cell? ⟨b', off' + k, none⟩ = some ((Value.int .i64) q) := hc' k _ hqv
      have hki : (k : Int) < N := by omega
      clear hc hc' hqv hq hlt
      go_wp2_with fail
      go_quiet (fail)
      go_wp2_with fail
      go_roundw
      case rel => exact ⟨k + 1, by omega, by go_num, HO.out.drewN _⟩
      case measure => simp [intOf]; omega
    · have hkN : k = N := by omega
      have hki : ¬ (k : Int) < N := by omega
      clear hlt
      go_wp2_with fail
      refine bodyPost_ret (v := .bool true) (by simp [results, Try.results34, go_sem]) rfl ?_
      exact ⟨rfl, HO.out⟩

set_option maxRecDepth 100000 in
set_option maxHeartbeats 1000000 in
theorem Ref.same_strings (A B : Option Addr) (ca cb : Nat) (ss : List (List UInt8)) (w : World) (ha : Rd w w.heap.size 1 A ss.length (ss.map sval)) (hb : Rd w w.heap.size 1 B ss.length (ss.map sval)) (hl : ss.length ≤ 1099511627776) :
    Calls Try.prog 36 #[.slice A ss.length ca, .slice B ss.length cb] w fun e w' => e = .returned (.bool true) ∧ Only Nil w w' := by
  obtain ⟨N, hN⟩ : ∃ N, ss.length = N := ⟨_, rfl⟩
  have HA := Lib.hid ha
  have HB := Lib.hid hb
  have HN := Lib.hid hN
  rw [hN]
  rw [hN] at hl
  clear ha hb hN
  go_enter Try.func36, Try.ntmps36
  go_wp2_with fail
  go_loopw [5] (fun i wr => ∃ k : Nat, k ≤ N ∧ i = .int .i64 k ∧ Only Nil w wr) (fun i _ => N - (intOf i).toNat)
  case atStart => exact ⟨0, Nat.zero_le _, rfl, Only.refl _ _⟩
  case round =>
    obtain ⟨k, hk, rfl, hO⟩ := hrel
    have HO := Lib.hid hO
    clear hO
    by_cases hlt : k < N
    · obtain ⟨q, hq⟩ : ∃ q, ss[k]? = some q := ⟨ss[k]'(by rw [HN.out]; exact hlt), List.getElem?_eq_getElem _⟩
      have hqv : (ss.map sval)[k]? = some (sval q) := by rw [List.getElem?_map, hq]; rfl
      obtain ⟨b, off, rfl, _, hc⟩ := (Rd.onlyNil HA.out HO.out (Nat.le_refl _)).2 (by rw [HN.out]; omega)
      obtain ⟨b', off', rfl, _, hc'⟩ := (Rd.onlyNil HB.out HO.out (Nat.le_refl _)).2 (by rw [HN.out]; omega)
      have e0 : wr.cell? ⟨b, off + k, none⟩ = some (sval q) := hc k _ hqv
      have e1 : wr.cell? ⟨b', off' + k, none⟩ = some (sval q) := hc' k _ hqv
      have hki : (k : Int) < N := by omega
      unfold sval at e0 e1
      clear hc hc' hqv hq hlt
      go_wp2_with fail
      go_quiet (fail)
      go_wp2_with fail
      go_roundw
      case rel => exact ⟨k + 1, by omega, by go_num, HO.out.drewN _⟩
      case measure => simp [intOf]; omega
    · have hkN : k = N := by omega
      have hki : ¬ (k : Int) < N := by omega
      clear hlt
      go_wp2_with fail
      refine bodyPost_ret (v := .bool true) (by simp [results, Try.results36, go_sem]) rfl ?_
      exact ⟨rfl, HO.out⟩


set_option maxRecDepth 100000 in
theorem rLeft_any (p : Nat) (A : Option Addr) (c : Nat) (l : List UInt8) (pos : Nat) (f : Bool) (w : World) (h : RR w p A c l pos f) (hp : pos ≤ l.length) (hl : l.length ≤ 1099511627776) :
    Calls Try.prog 42 #[.pointer (some ⟨p, 0, none⟩)] w fun e w' => e = .returned (.int .i64 ((l.length : Int) - (pos : Int))) ∧ Only Nil w w' := by
  obtain ⟨N, hN⟩ : ∃ N, l.length = N := ⟨_, rfl⟩
  have hbx := h.box
  rw [hN] at hbx hp hl ⊢
  have kb : ∀ i, w.cell? ⟨p, i, none⟩ = #[Value.slice A N c, .int .i64 pos, .bool f][i]? := fun i => hbx.cell i
  have kd : ∀ i, w.drew.cell? ⟨p, i, none⟩ = #[Value.slice A N c, .int .i64 pos, .bool f][i]? := fun i => hbx.drew.cell i
  have hw : IntKind.i64.wrap ((N : Int) - (pos : Int)) = (N : Int) - (pos : Int) := IntWalk.i64_in _ (by omega)
  clear h hbx hN
  go_enter Try.func42, Try.ntmps42
  go_wp2_with fail
  go_quiet (fail)
  go_wp2_with fail
  go_ret
  exact ⟨rfl, by (repeat' (first | with_reducible exact Only.refl _ _ | with_reducible refine Only.setCell ?_ (Or.inl ?_) _ | with_reducible refine Only.drewN ?_ _ | with_reducible refine Only.drew ?_ | with_reducible refine Only.alloc ?_ _ | (fail)))⟩

/-- What String answers. -/
def RStrPost (r : List UInt8 × Nat × Bool) (p : Nat) (A : Option Addr) (c : Nat) (l : List UInt8) (w : World) (e : Ending) (w' : World) : Prop :=
  e = .returned (sval r.1) ∧ RR w' p A c l r.2.1 r.2.2 ∧ Only (One p) w w'
set_option maxRecDepth 100000 in
theorem rStr_any (most : Int) (p : Nat) (A : Option Addr) (c : Nat) (l : List UInt8) (pos : Nat) (f : Bool) (w : World) (h : RR w p A c l pos f) (hp : pos ≤ l.length) (hl : l.length ≤ 1099511627776) (hc : c ≤ maxLen) :
    Calls Try.prog 40 #[.pointer (some ⟨p, 0, none⟩), .int .i64 most] w (RStrPost (rByt most l pos f) p A c l w) := by
  have HB := Lib.hid (rByt_any most p A c l pos f w h hp hl hc)
  obtain ⟨⟨x, q, g⟩, hr⟩ : ∃ r, rByt most l pos f = r := ⟨_, rfl⟩
  rw [hr] at HB ⊢
  clear h hp hl hc hr
  go_enter Try.func40, Try.ntmps40
  go_wp2_with fail
  with_reducible refine HB.out.mono ?_
  clear HB
  rintro e w1 ⟨Ax, cx, rfl, _, hown, hR, hO⟩
  dsimp only at hown hR ⊢
  have hst := run_str (P := Try.prog) w1 22 9 5 Try.underlying22 Try.underlying5 Try.underlying9 (c := cx) (Bs.of_own hown).1 rfl
  have HF : Hid (RStrPost (x, q, g) p A c l w (.returned (sval x)) w1) := Lib.hid ⟨rfl, hR, hO⟩
  unfold sval at HF
  clear hown hR hO
  go_wp2_with fail
  go_ret
  exact HF.out

end Go.Proofs.Ytbhgaaendekghaa
