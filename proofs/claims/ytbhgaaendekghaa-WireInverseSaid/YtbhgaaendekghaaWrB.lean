/-
  Walks of wire: bounded, bytes.
  Conditions: the reader stands within its bytes; they are at most 2 to the power 40.
-/
import Derived.Test.YtbhgaaendekghaaWrI
import Derived.Deep.RegionLaw
namespace Go.Proofs.Ytbhgaaendekghaa
open Go.RowKit

/-- What bounded answers. -/
def BndPost (lo hi : Int) (p : Nat) (A : Option Addr) (c : Nat) (l : List UInt8) (pos : Nat) (f : Bool) (w : World) (e : Ending) (w' : World) : Prop :=
  ∃ pos' : Nat, RR w' p A c l pos' f ∧ pos' ≤ l.length ∧ Only (One p) w w' ∧
    ((∃ (z : Int) (n : Nat), dec (l.drop pos) = some (z, n) ∧ pos' = pos + n ∧ e = .returned (.tuple #[.int .i64 z, .bool (decide (lo ≤ z ∧ z ≤ hi))])) ∨ (dec (l.drop pos) = none ∧ e = .returned (.tuple #[.int .i64 0, .bool false])))

set_option maxRecDepth 100000 in
theorem bounded_any (lo hi : Int) (p : Nat) (A : Option Addr) (c : Nat) (l : List UInt8) (pos : Nat) (f : Bool) (w : World) (h : RR w p A c l pos f) (hp : pos ≤ l.length) (hl : l.length ≤ 1099511627776) :
    Calls Try.prog 64 #[.pointer (some ⟨p, 0, none⟩), .int .i64 lo, .int .i64 hi] w (BndPost lo hi p A c l pos f w) := by
  have HI := Lib.hid (rdint_any p A c l pos f w h hp hl)
  clear h hp hl
  go_enter Try.func64, Try.ntmps64
  go_wp2_with fail
  refine HI.out.mono ?_
  rintro e w1 ⟨pos', hR, hp', hO, ⟨z, n, hd, rfl, rfl⟩ | ⟨hd, rfl⟩⟩
  · have HR := Lib.hid hR
    have HO := Lib.hid hO
    have HP := Lib.hid hp'
    have HD := Lib.hid hd
    clear hR hO hp' hd
    by_cases h1 : lo ≤ z
    · by_cases h2 : z ≤ hi
      · have hd1 : decide (lo ≤ z) = true := decide_eq_true h1
        have hd2 : decide (z ≤ hi) = true := decide_eq_true h2
        have hT := Lib.hid (decide_eq_true (And.intro h1 h2))
        go_wp2_with fail
        go_ret2
        exact ⟨_, HR.out, HP.out, HO.out, .inl ⟨z, n, HD.out, rfl, by rw [hT.out]; rfl⟩⟩
      · have hd1 : decide (lo ≤ z) = true := decide_eq_true h1
        have hd2 : decide (z ≤ hi) = false := decide_eq_false h2
        have hT := Lib.hid (decide_eq_false (fun h : lo ≤ z ∧ z ≤ hi => h2 h.2))
        go_wp2_with fail
        go_ret2
        exact ⟨_, HR.out, HP.out, HO.out, .inl ⟨z, n, HD.out, rfl, by rw [hT.out]; rfl⟩⟩
    · have hd1 : decide (lo ≤ z) = false := decide_eq_false h1
      have hT := Lib.hid (decide_eq_false (fun h : lo ≤ z ∧ z ≤ hi => h1 h.1))
      go_wp2_with fail
      go_ret2
      exact ⟨_, HR.out, HP.out, HO.out, .inl ⟨z, n, HD.out, rfl, by rw [hT.out]; rfl⟩⟩
  · have HR := Lib.hid hR
    have HO := Lib.hid hO
    have HP := Lib.hid hp'
    have HD := Lib.hid hd
    clear hR hO hp' hd
    go_wp2_with fail
    go_ret2
    exact ⟨_, HR.out, HP.out, HO.out, .inr ⟨HD.out, rfl⟩⟩

/-- The byte string with which the bytes begin, and how many bytes it takes. -/
def decB (most : Int) (l : List UInt8) : Option (List UInt8 × Nat) :=
  match dec l with
  | some (z, n) => if 0 ≤ z ∧ z ≤ most ∧ z ≤ (l.length : Int) - n then some ((l.drop n).take z.toNat, n + z.toNat) else none
  | none => none

def BytPost (most : Int) (p : Nat) (A : Option Addr) (c : Nat) (l : List UInt8) (pos : Nat) (f : Bool) (w : World) (e : Ending) (w' : World) : Prop :=
  ∃ pos' : Nat, RR w' p A c l pos' f ∧ pos' ≤ l.length ∧ Only (One p) w w' ∧
    ((∃ (x : List UInt8) (n : Nat) (Ax : Option Addr) (cx : Nat), decB most (l.drop pos) = some (x, n) ∧ pos' = pos + n ∧ e = .returned (.tuple #[.slice Ax x.length cx, .bool true]) ∧ x.length ≤ cx ∧ w'.ownsRow w.heap.size 5 1 (.slice Ax x.length cx) x.length (bcells x)) ∨
      (decB most (l.drop pos) = none ∧ e = .returned (.tuple #[.slice none 0 0, .bool false])))

set_option maxRecDepth 100000 in
set_option maxHeartbeats 2000000 in
theorem rdbytes_any (most : Int) (p : Nat) (A : Option Addr) (c : Nat) (l : List UInt8) (pos : Nat) (f : Bool) (w : World) (h : RR w p A c l pos f) (hp : pos ≤ l.length) (hl : l.length ≤ 1099511627776) (hc : c ≤ maxLen) :
    Calls Try.prog 67 #[.pointer (some ⟨p, 0, none⟩), .int .i64 most] w (BytPost most p A c l pos f w) := by
  obtain ⟨i0, hi0, hz0, hz1, hz2⟩ := info_parts byte_info
  have HI := Lib.hid (bounded_any 0 most p A c l pos f w h hp hl)
  have HL := Lib.hid hl
  have hpw := h.box.lt
  have HPW := Lib.hid hpw
  unfold maxLen at hc
  clear h hl hpw
  go_enter Try.func67, Try.ntmps67
  go_wp2_with fail
  refine HI.out.mono ?_
  rintro e w1 ⟨pos', hR, hp', hO, ⟨z, n, hd, rfl, rfl⟩ | ⟨hd, rfl⟩⟩
  rotate_left
  · have hB : decB most (l.drop pos) = none := by unfold decB; rw [hd]
    have HB := Lib.hid hB
    have HR := Lib.hid hR
    have HO := Lib.hid hO
    have HP := Lib.hid hp'
    clear hB hR hO hd hp'
    go_wp2_with fail
    go_quiet (fail)
    go_wp2_with fail
    go_ret2
    exact ⟨_, HR.out.onlyNil (by (repeat' (first | with_reducible exact Only.refl _ _ | with_reducible refine Only.setCell ?_ (Or.inl ?_) _ | with_reducible refine Only.drewN ?_ _ | with_reducible refine Only.drew ?_ | with_reducible refine Only.alloc ?_ _ | (fail)))), HP.out, HO.out.thenNil (by (repeat' (first | with_reducible exact Only.refl _ _ | with_reducible refine Only.setCell ?_ (Or.inl ?_) _ | with_reducible refine Only.drewN ?_ _ | with_reducible refine Only.drew ?_ | with_reducible refine Only.alloc ?_ _ | (fail)))), .inr ⟨HB.out, rfl⟩⟩
  obtain ⟨N, hN⟩ : ∃ N, l.length = N := ⟨_, rfl⟩
  obtain ⟨P, hP⟩ : ∃ P, pos + n = P := ⟨_, rfl⟩
  have hbx := hR.box
  rw [hP, hN] at hbx
  rw [hP, hN] at hp'
  have HBX := Lib.hid hbx
  have HR := Lib.hid hR
  have HO := Lib.hid hO
  have HD := Lib.hid hd
  have HN := Lib.hid hN
  have HP := Lib.hid hP
  have kb : ∀ i, w1.cell? ⟨p, i, none⟩ = #[Value.slice A N c, .int .i64 P, .bool f][i]? := fun i => hbx.cell i
  have hNl := HL.out
  rw [hN] at hNl
  have hNc : N ≤ c := by have := hR.cap; omega
  have hdl : ((l.drop pos).length : Int) - n = (N : Int) - P := by rw [List.length_drop, hN]; omega
  have HDL := Lib.hid hdl
  have hws : IntKind.i64.wrap ((N : Int) - P) = (N : Int) - P := IntWalk.i64_in _ (by omega)
  clear hbx hR hO hd hN hP hdl
  by_cases hz : 0 ≤ z ∧ z ≤ most
  rotate_left
  · have hB : decB most (l.drop pos) = none := by
      unfold decB
      rw [HD.out]
      dsimp only
      rw [if_neg (fun h => hz ⟨h.1, h.2.1⟩)]
    have HB := Lib.hid hB
    rw [decide_eq_false hz]
    clear hB hz
    go_wp2_with fail
    go_quiet (fail)
    go_wp2_with fail
    go_ret2
    exact ⟨_, HR.out.onlyNil (by (repeat' (first | with_reducible exact Only.refl _ _ | with_reducible refine Only.setCell ?_ (Or.inl ?_) _ | with_reducible refine Only.drewN ?_ _ | with_reducible refine Only.drew ?_ | with_reducible refine Only.alloc ?_ _ | (fail)))), by rw [HP.out, HN.out]; exact hp', HO.out.thenNil (by (repeat' (first | with_reducible exact Only.refl _ _ | with_reducible refine Only.setCell ?_ (Or.inl ?_) _ | with_reducible refine Only.drewN ?_ _ | with_reducible refine Only.drew ?_ | with_reducible refine Only.alloc ?_ _ | (fail)))), .inr ⟨HB.out, rfl⟩⟩
  rw [decide_eq_true hz]
  by_cases hbig : (N : Int) - P < z
  · have hB : decB most (l.drop pos) = none := by
      unfold decB
      rw [HD.out]
      dsimp only
      rw [HDL.out, if_neg (by omega)]
    have HB := Lib.hid hB
    have hdb : decide ((N : Int) - P < z) = true := decide_eq_true hbig
    clear hB hz
    go_wp2_with fail
    go_quiet (fail)
    go_wp2_with fail
    go_ret2
    exact ⟨_, HR.out.onlyNil (by (repeat' (first | with_reducible exact Only.refl _ _ | with_reducible refine Only.setCell ?_ (Or.inl ?_) _ | with_reducible refine Only.drewN ?_ _ | with_reducible refine Only.drew ?_ | with_reducible refine Only.alloc ?_ _ | (fail)))), by rw [HP.out, HN.out]; exact hp', HO.out.thenNil (by (repeat' (first | with_reducible exact Only.refl _ _ | with_reducible refine Only.setCell ?_ (Or.inl ?_) _ | with_reducible refine Only.drewN ?_ _ | with_reducible refine Only.drew ?_ | with_reducible refine Only.alloc ?_ _ | (fail)))), .inr ⟨HB.out, rfl⟩⟩
  · obtain ⟨k, rfl⟩ : ∃ k : Nat, z = k := ⟨z.toNat, by omega⟩
    have hdb : decide ((N : Int) - P < (k : Int)) = false := decide_eq_false hbig
    obtain ⟨x, hx⟩ : ∃ x, (l.drop P).take k = x := ⟨_, rfl⟩
    have hxl : x.length = k := by rw [← hx, List.length_take, List.length_drop, HN.out]; omega
    have hB : decB most (l.drop pos) = some (x, n + k) := by
      unfold decB
      rw [HD.out]
      dsimp only
      rw [HDL.out, if_pos (by omega), List.drop_drop, HP.out, Int.toNat_natCast, hx]
    have HB := Lib.hid hB
    have HXL := Lib.hid hxl
    have HX := Lib.hid hx
    obtain ⟨Q, hQ⟩ : ∃ Q, P + k = Q := ⟨_, rfl⟩
    have hQP : Q - P = k := by omega
    have hQN : Q ≤ N := by omega
    have hQ1 : (P : Int) ≤ (Q : Int) := by omega
    have hQ2 : (Q : Int) ≤ c := by omega
    have hwk : IntKind.i64.wrap ((P : Int) + k) = (Q : Int) := by rw [IntWalk.i64_in _ (by omega)]; omega
    obtain ⟨Ax, hAx⟩ : ∃ Ax, (if c = P then A else Option.map (fun x => x.add P) A) = Ax := ⟨_, rfl⟩
    obtain ⟨C, hC⟩ : ∃ C, c - P = C := ⟨_, rfl⟩
    have hk40 : k ≤ 1099511627776 := by omega
    have HK := Lib.hid hk40
    have HQ := Lib.hid hQ
    have hcut : ∀ u B, Bs u B A l → Bs u B Ax x := fun u B h => by
      have h1 := (h.take Q (by rw [HN.out]; exact hQN)).cut (k := P) (cap := c) (by rw [List.length_take, HN.out]; omega) (by rw [List.length_take, HN.out]; omega)
      rw [hAx, List.drop_take, hQP, hx] at h1
      exact h1
    have HCUT := Lib.hid hcut
    clear hcut hk40 hQ
    clear hB hxl hx hz
    go_upto_region 2 with fail
    go_cut [30] (fun v wd => v = .bool false ∧ Only Nil w1 wd)
    case first =>
      go_quiet (fail)
      go_wp2_with fail
      go_meet
      case rel => exact ⟨rfl, by (repeat' (first | with_reducible exact Only.refl _ _ | with_reducible refine Only.setCell ?_ (Or.inl ?_) _ | with_reducible refine Only.drewN ?_ _ | with_reducible refine Only.drew ?_ | with_reducible refine Only.alloc ?_ _ | (fail)))⟩
    case rest =>
      obtain ⟨rfl, hOc⟩ := hcut
      have HBC := Lib.hid (HBX.out.onlyNil hOc)
      have HRC := Lib.hid (HR.out.onlyNil hOc)
      have HOC := Lib.hid (HO.out.thenNil hOc)
      clear kb hOc hdb hbig
      have kb : ∀ i, wc.cell? ⟨p, i, none⟩ = #[Value.slice A N c, .int .i64 P, .bool f][i]? := fun i => HBC.out.cell i
      have hrd : ∀ u, Only Nil wc u → Rd u u.heap.size 1 Ax k (bcells x) := fun u hO => by
        have h1 := HCUT.out _ _ (HRC.out.onlyNil hO).bytes
        unfold Bs at h1
        rw [HXL.out] at h1
        exact h1
      have HRD := Lib.hid hrd
      have h63 : 0 + k ≤ maxLen := by have := HK.out; unfold maxLen; omega
      have hby : (0 + k) * 1 ≤ 140737488355328 := by have := HK.out; omega
      have H63 := Lib.hid h63
      have HBY := Lib.hid hby
      clear hrd h63 hby
      go_upto_region 4 with fail
      go_region_law (refine step_append_rd _ (by rfl) (.const (.slice none 0 0)) (.tmp 45) _ (by rfl) w.heap.size 5 i0 (.int .u8 0) 1 1 Try.underlying22 hi0 hz0 hz1 hz2 rfl (by decide) (.slice none 0 0) 0 [] (by simp [Act.eval, Act.put]) (World.ownsRow_nil _ _ _ _) _ Ax k C (bcells x) (by simp [Act.eval, Act.put]) (HRD.out _ ((Only.refl _ _).drew)) (bcells_one _) k (Nat.zero_add _) (bcells x) (List.nil_append _) H63.out HBY.out (HOC.out.drew).size ?_; intro A5 c5 w5 hc5 hown5 hgr5 hat5)
      all_goals
        have hO5 : Only Nil wc w5 := (((Only.refl _ _).drew)).grown hgr5 (fun q hq => (by cases hq))
        have HB5 := Lib.hid (HBC.out.onlyNil hO5)
        have HR5 := Lib.hid (HRC.out.onlyNil hO5)
        have HO5 := Lib.hid (HOC.out.thenNil hO5)
        have HW5 := Lib.hid hown5
        have HC5 := Lib.hid hc5
        clear kb hO5 hown5 hgr5 hat5 hc5
        have kb : ∀ i, w5.cell? ⟨p, i, none⟩ = #[Value.slice A N c, .int .i64 P, .bool f][i]? := fun i => HB5.out.cell i
        have fb : ∀ i, w5.frozen? ⟨p, i, none⟩ = false := fun i => HB5.out.frozen i
        go_wp2_with fail
        go_ret2
        have hO6 : Only (One p) w5 (w5.setCell ⟨p, 1, none⟩ (.int .i64 (Q : Int))) := by (repeat' (first | with_reducible exact Only.refl _ _ | with_reducible refine Only.setCell ?_ (Or.inl ?_) _ | with_reducible refine Only.drewN ?_ _ | with_reducible refine Only.drew ?_ | with_reducible refine Only.alloc ?_ _ | (exact rfl)))
        have hb6 := HB5.out.set_ 1 (.int .i64 (Q : Int))
        rw [← HN.out] at hb6
        refine ⟨Q, HR5.out.move hO6 hb6, by rw [HN.out]; exact hQN, HO5.out.then_ hO6, .inl ⟨x, n + k, A5, c5, HB.out, by have := HP.out; have := HQ.out; omega, by rw [HXL.out]; rfl, by rw [HXL.out]; exact HC5.out, ?_⟩⟩
        rw [HXL.out]
        exact own_only HW5.out hO6 (fun q hq hx => own_blk_ne HW5.out HB5.out (by decide) (by rw [hq, hx]))

end Go.Proofs.Ytbhgaaendekghaa
