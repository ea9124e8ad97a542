/-
  Texts joined into one (a claim takes at most 60 files), in build order.
-/
import Derived.Test.YtbhgaaendekghaaWmEntry
import Derived.Test.YtbhgaaendekghaaWrE
import Derived.Test.YtbhgaaendekghaaMsgP
import Derived.Test.YtbhgaaendekghaaClone
import Derived.Deep.Cut
import Derived.Deep.DeepCutAuto
import Derived.Test.YtbhgaaendekghaaWire
import Derived.Test.YtbhgaaendekghaaRow
import Derived.BigQuiet
import Derived.Lib.AppendStr

namespace Go.Proofs.Ytbhgaaendekghaa
open Go.RowKit

/-- What the method answers. -/
def REntPost (r : En × Nat × Bool) (p : Nat) (A : Option Addr) (c : Nat) (l : List UInt8) (w : World) (e : Ending) (w' : World) : Prop :=
  ∃ Ax cx, e = .returned (.agg (ecl Ax cx r.1)) ∧ r.1.data.length ≤ cx ∧ w'.ownsRow w.heap.size 5 1 (.slice Ax r.1.data.length cx) r.1.data.length (bcells r.1.data) ∧ RR w' p A c l r.2.1 r.2.2 ∧ Only (One p) w w'

set_option maxRecDepth 100000 in
set_option maxHeartbeats 1000000 in
theorem rEnt_any (p : Nat) (A : Option Addr) (c : Nat) (l : List UInt8) (pos : Nat) (f : Bool) (w : World) (h : RR w p A c l pos f) (hp : pos ≤ l.length) (hl : l.length ≤ 1099511627776) (hc : c ≤ maxLen) :
    Calls Try.prog 51 #[.pointer (some ⟨p, 0, none⟩)] w (REntPost (rEnt l pos f) p A c l w) := by
  obtain ⟨w2, hw2⟩ : ∃ w2, w2 = (w.alloc (.cells #[.pointer (some ⟨p, 0, none⟩)] 53)).alloc (.cells (ecl none 0 zE) 35) := ⟨_, rfl⟩
  have hO2 : Only Nil w w2 := by rw [hw2]; exact ((Only.refl _ _).alloc _).alloc _
  have hb1 : Blk w2 w.heap.size 53 #[.pointer (some ⟨p, 0, none⟩)] := by rw [hw2]; exact (Blk.new _ _ _).alloc _
  have hb2 : Blk w2 (w.heap.size + 1) 35 (ecl none 0 zE) := by
    rw [hw2]
    have := Blk.new (w.alloc (.cells #[.pointer (some ⟨p, 0, none⟩)] 53)) 35 (ecl none 0 zE)
    rw [World.size_alloc] at this
    exact this
  have hpw := h.box.lt
  have hR2 := h.onlyNil hO2
  have HB2 := Lib.hid hb2
  have HO2 := Lib.hid hO2
  have HR2 := Lib.hid hR2
  obtain ⟨r, hr⟩ : ∃ r, rEnt l pos f = r := ⟨_, rfl⟩
  rw [hr]
  have HRR := Lib.hid hr
  unfold ecl ER.cells zE at hw2
  dsimp only at hw2
  rw [show ([] : List UInt8).length = 0 from rfl] at hw2
  cases f
  · have ht := try_Entry _ _ _ p A c l pos w2 hR2 (clo_Entry w.heap.size (w.heap.size + 1) p A c l pos w2 hR2 hp hl hc hb1 hb2)
    have HT := Lib.hid ht
    clear ht hR2 hb1 hb2 hO2 h hp hl hr hc
    go_enter Try.func51, Try.ntmps51
    go_wp2_with fail
    rw [← hw2]
    clear hw2
    refine HT.out.mono ?_
    rintro e w1 ⟨⟨v, rfl⟩, hq⟩
    have hfin : ∃ Ax cx, Blk w1 (w.heap.size + 1) 35 (ecl Ax cx r.1) ∧ r.1.data.length ≤ cx ∧ w1.ownsRow w.heap.size 5 1 (.slice Ax r.1.data.length cx) r.1.data.length (bcells r.1.data) ∧ RR w1 p A c l r.2.1 r.2.2 ∧ Only (One p) w w1 := by
      rw [← HRR.out]
      unfold rEnt
      rcases hq with ⟨hO, ⟨_, m, n, Ax, cx, hd, hR, hb, hcx, hown⟩ | ⟨h1, _⟩⟩ | ⟨u, ⟨hO, ⟨h1, _⟩ | ⟨_, hd, hb⟩⟩, hR, hOu⟩
      · rw [if_neg (by simp), hd]
        exact ⟨Ax, cx, hb, hcx, own_base hown HO2.out.size, hR, HO2.out.any.trans hO (fun x hx => by rcases hx with hx | hx; exact .inl hx; exact .inr (by omega))⟩
      · cases h1
      · cases h1
      · rw [if_neg (by simp), hd]
        exact ⟨none, 0, hb.only hOu (by unfold One; omega), Nat.le_refl _, World.ownsRow_nil _ _ _ _, hR, (HO2.out.any.trans hO (fun x hx => by rcases hx with hx | hx; exact .inl hx; exact .inr (by omega))).then_ hOu⟩
    obtain ⟨Ax, cx, hb, hcx, hown, hR, hO⟩ := hfin
    have k2 : ∀ i, w1.cell? ⟨w.heap.size + 1, i, none⟩ = (ecl Ax cx r.1)[i]? := fun i => hb.cell i
    have f2 : ∀ i, w1.frozen? ⟨w.heap.size + 1, i, none⟩ = false := fun i => hb.frozen i
    have hfin : ∀ u, Only (One (w.heap.size + 1)) w1 u → REntPost r p A c l w (.returned (.agg (ecl Ax cx r.1))) u := fun u hS =>
      ⟨Ax, cx, rfl, hcx, own_only hown hS (fun q hq hx => own_blk_ne hown hb (by decide) (by rw [hq, hx])), hR.far hb (ecl_no _ _ _) (by omega) hS, hO.trans hS (fun x hx => .inr (by unfold One at hx; omega))⟩
    obtain ⟨⟨kind, task, call, a0, a1, a2, res, x⟩, pos', f'⟩ := r
    unfold ecl ER.cells at k2 hfin
    dsimp only at k2 hfin
    obtain ⟨X, hX⟩ : ∃ X, x.length = X := ⟨_, rfl⟩
    rw [hX] at k2 hfin
    have HF := Lib.hid hfin
    clear hb hR hO hq hcx hown hX hfin HRR
    go_wp2_with fail
    refine bodyPost_ret (v := .agg #[.int .i64 kind, .int .i64 task, .int .i64 call, .int .i64 a0, .int .i64 a1, .int .i64 a2, .int .i64 res, .slice Ax X cx]) (by simp [results, Try.results51, go_sem, k2]) rfl ?_
    refine HF.out _ ?_
    (repeat' (first | with_reducible exact Only.refl _ _ | with_reducible refine Only.setCell ?_ (Or.inl ?_) _ | with_reducible refine Only.drewN ?_ _ | with_reducible refine Only.drew ?_ | with_reducible refine Only.alloc ?_ _ | (exact rfl)))
  · have hr1 : r = (zE, pos, true) := by rw [← hr]; rfl
    have HR1 := Lib.hid hr1
    have HT := Lib.hid (fun F => try_failed F p A c l pos w2 hR2)
    clear hR2 hb1 hb2 hO2 h hp hl hr hr1 hc
    go_enter Try.func51, Try.ntmps51
    go_wp2_with fail
    rw [← hw2]
    clear hw2
    refine (HT.out _).mono ?_
    rintro e w1 ⟨⟨v, rfl⟩, rfl⟩
    have k2 : ∀ i, w1.cell? ⟨w.heap.size + 1, i, none⟩ = (ecl none 0 zE)[i]? := fun i => HB2.out.cell i
    have f2 : ∀ i, w1.frozen? ⟨w.heap.size + 1, i, none⟩ = false := fun i => HB2.out.frozen i
    have hfin : ∀ u, Only (One (w.heap.size + 1)) w1 u → REntPost r p A c l w (.returned (.agg (ecl none 0 zE))) u := fun u hS => by
      rw [HR1.out]
      exact ⟨none, 0, rfl, Nat.le_refl _, World.ownsRow_nil _ _ _ _, HR2.out.far HB2.out (ecl_no _ _ _) (by omega) hS, HO2.out.any.trans hS (fun x hx => .inr (by unfold One at hx; omega))⟩
    unfold ecl ER.cells zE at k2 hfin
    dsimp only at k2 hfin
    rw [show ([] : List UInt8).length = 0 from rfl] at k2 hfin
    have HF := Lib.hid hfin
    clear hfin
    go_wp2_with fail
    refine bodyPost_ret (v := .agg #[.int .i64 0, .int .i64 0, .int .i64 0, .int .i64 0, .int .i64 0, .int .i64 0, .int .i64 0, .slice none 0 0]) (by simp [results, Try.results51, go_sem, k2]) rfl ?_
    refine HF.out _ ?_
    (repeat' (first | with_reducible exact Only.refl _ _ | with_reducible refine Only.setCell ?_ (Or.inl ?_) _ | with_reducible refine Only.drewN ?_ _ | with_reducible refine Only.drew ?_ | with_reducible refine Only.alloc ?_ _ | (exact rfl)))

end Go.Proofs.Ytbhgaaendekghaa

namespace Go.Proofs.Ytbhgaaendekghaa
open Go.RowKit

/-- The entry that all bytes are, or an error. -/
def readE (l : List UInt8) : En × Int := match decE l with | some (x, n) => if n = l.length then (x, 0) else (zE, 4) | none => (zE, 4)
theorem readE_eq (l : List UInt8) : readE l = if (rEnt l 0 false).2.2 = true ∨ (rEnt l 0 false).2.1 ≠ l.length then (zE, 4) else ((rEnt l 0 false).1, 0) := by
  have e : rEnt l 0 false = match decE l with | some (x, n) => (x, n, false) | none => (zE, 0, true) := by
    unfold rEnt
    rw [if_neg (by simp), List.drop_zero]
    cases decE l with
    | none => rfl
    | some q =>
      obtain ⟨x, n⟩ := q
      simp only [Nat.zero_add]
  rw [e]
  unfold readE
  cases decE l with
  | none => simp
  | some q =>
    obtain ⟨x, n⟩ := q
    dsimp only
    by_cases h : n = l.length
    · rw [if_pos h, if_neg (by simp [h])]
    · rw [if_neg h, if_pos (by simp [h])]
/-- What wire.ReadEntry answers. -/
def RdEPost (r : En × Int) (w : World) (e : Ending) (w' : World) : Prop :=
  ∃ Ax cx, e = .returned (.tuple #[.agg (ecl Ax cx r.1), .int .i64 r.2]) ∧ r.1.data.length ≤ cx ∧ w'.ownsRow w.heap.size 5 1 (.slice Ax r.1.data.length cx) r.1.data.length (bcells r.1.data) ∧ Only Nil w w'

set_option maxRecDepth 100000 in
set_option maxHeartbeats 2000000 in
theorem wholeE_any (A : Option Addr) (c : Nat) (l : List UInt8) (w : World) (h : Bs w w.heap.size A l) (hl : l.length ≤ 1099511627776) :
    Calls Try.prog 54 #[.slice A l.length c, .func (Fn.func 51) #[] #[]] w (RdEPost (readE l) w) := by
  have hR0 := readE_eq l
  obtain ⟨R, hR⟩ : ∃ R, readE l = R := ⟨_, rfl⟩
  rw [hR] at hR0 ⊢
  have HR0 := Lib.hid hR0
  clear hR0 hR
  obtain ⟨N, hN⟩ : ∃ N, l.length = N := ⟨_, rfl⟩
  obtain ⟨w2, hw2⟩ : ∃ w2, w2 = (w.alloc (.cells (ecl none 0 zE) 35)).alloc (.cells (ecl none 0 zE) 35) := ⟨_, rfl⟩
  have hO2 : Only Nil w w2 := by rw [hw2]; exact ((Only.refl _ _).alloc _).alloc _
  have hb1 : Blk w2 w.heap.size 35 (ecl none 0 zE) := by rw [hw2]; exact (Blk.new _ _ _).alloc _
  have hb2 : Blk w2 (w.heap.size + 1) 35 (ecl none 0 zE) := by
    rw [hw2]
    have := Blk.new (w.alloc (.cells (ecl none 0 zE) 35)) 35 (ecl none 0 zE)
    rw [World.size_alloc] at this
    exact this
  have hrd := rread_any A c l w2 (h.onlyNil hO2 (Nat.le_refl _) |>.up hO2.size) hl
  rw [hN] at hrd ⊢
  have HW2 : Hid (w2 = (w.alloc (.cells #[Value.int .i64 0, .int .i64 0, .int .i64 0, .int .i64 0, .int .i64 0, .int .i64 0, .int .i64 0, .slice none 0 0] 35)).alloc (.cells #[Value.int .i64 0, .int .i64 0, .int .i64 0, .int .i64 0, .int .i64 0, .int .i64 0, .int .i64 0, .slice none 0 0] 35)) := Lib.hid hw2
  have HO2 := Lib.hid hO2
  have HB1 := Lib.hid hb1
  have HB2 := Lib.hid hb2
  have HRD := Lib.hid hrd
  have HN := Lib.hid hN
  have HL := Lib.hid hl
  clear hw2 hO2 hb1 hb2 hrd hN hl h
  go_enter Try.func54, Try.ntmps54
  go_upto_region 2 with fail
  rw [← HW2.out]
  go_wp2_with fail
  refine HRD.out.mono ?_
  rintro e w3 ⟨p, Ap, cp, rfl, hp, hrr, hcp, hO3⟩
  have hrp := rEnt_pos (l := l) (pos := 0) false (Nat.zero_le _)
  have hre := rEnt_any p Ap cp l 0 false w3 hrr (Nat.zero_le _) HL.out hcp
  obtain ⟨⟨x, pos, f⟩, hq⟩ : ∃ q, rEnt l 0 false = q := ⟨_, rfl⟩
  rw [hq] at hre hrp
  have hR := HR0.out
  rw [hq] at hR
  dsimp only at hR hrp
  have HRE := Lib.hid hre
  have HO3 := Lib.hid hO3
  have HP := Lib.hid hp
  have HR := Lib.hid hR
  have HRP := Lib.hid hrp
  clear hrr hcp hre hO3 hp hR hrp hq
  go_wp2_with fail
  refine HRE.out.mono ?_
  rintro e w4 ⟨Ax, cx, rfl, hcx, hown, hrr4, hO4⟩
  obtain ⟨kind, task, call, a0, a1, a2, result, data⟩ := x
  obtain ⟨w5, hw5⟩ : ∃ w5, w5 = w4.alloc (.cells #[Value.int .i64 kind, .int .i64 task, .int .i64 call, .int .i64 a0, .int .i64 a1, .int .i64 a2, .int .i64 result, .slice Ax data.length cx] 35) := ⟨_, rfl⟩
  have hO5 : Only Nil w4 w5 := by rw [hw5]; exact (Only.refl _ _).alloc _
  have hend := rEnd_any p Ap cp l pos f w5 (hrr4.onlyNil hO5) HRP.out
  have hO35 : Only Nil w2 w5 := ((HO3.out.any (S := One p)).then_ hO4 |>.thenNil hO5).less (fun x hx => .inr (by unfold One at hx; rw [hx]; exact HP.out))
  have hown5 : w5.ownsRow w.heap.size 5 1 (.slice Ax data.length cx) data.length (bcells data) := own_base (own_onlyNil hown hO5) (by have := HO2.out.size; have := HO3.out.size; omega)
  have hfin : ∀ u v, Only Nil w5 u → Only (One w.heap.size) u v → RdEPost R w (.returned (.tuple #[.agg (if f = true ∨ pos ≠ l.length then #[Value.int .i64 0, .int .i64 0, .int .i64 0, .int .i64 0, .int .i64 0, .int .i64 0, .int .i64 0, .slice none 0 0] else #[Value.int .i64 kind, .int .i64 task, .int .i64 call, .int .i64 a0, .int .i64 a1, .int .i64 a2, .int .i64 result, .slice Ax data.length cx]), .int .i64 (if f = true ∨ pos ≠ l.length then 4 else 0)])) v := fun u v h1 h2 => by
    have h3 : Only Nil w v := ((HO2.out.thenNil hO35).thenNil h1).trans h2 (fun x hx => .inr (by unfold One at hx; omega))
    have hR := HR.out
    by_cases hbad : f = true ∨ pos ≠ l.length
    · rw [if_pos hbad] at hR
      rw [if_pos hbad, if_pos hbad, hR]
      exact ⟨none, 0, rfl, Nat.le_refl _, World.ownsRow_nil _ _ _ _, h3⟩
    · rw [if_neg hbad] at hR
      rw [if_neg hbad, if_neg hbad, hR]
      refine ⟨Ax, cx, rfl, hcx, ?_, h3⟩
      refine own_only (own_onlyNil hown5 h1) h2 (fun q hq hx => ?_)
      have h4 := ownBlock_ge hown hq
      have := HO2.out.size
      have := HO3.out.size
      have := HB1.out.lt
      unfold One at hx
      omega
  have hbz := (HB2.out.onlyNil hO35)
  have hbr := (HB1.out.onlyNil hO35)
  have hbx : Blk w5 w4.heap.size 35 #[Value.int .i64 kind, .int .i64 task, .int .i64 call, .int .i64 a0, .int .i64 a1, .int .i64 a2, .int .i64 result, .slice Ax data.length cx] := by rw [hw5]; exact Blk.new _ _ _
  have HW5 := Lib.hid hw5
  have HFIN := Lib.hid hfin
  have HEND := Lib.hid hend
  have HBZ : Hid (Blk w5 (w.heap.size + 1) 35 #[Value.int .i64 0, .int .i64 0, .int .i64 0, .int .i64 0, .int .i64 0, .int .i64 0, .int .i64 0, .slice none 0 0]) := Lib.hid hbz
  have HBR : Hid (Blk w5 w.heap.size 35 #[Value.int .i64 0, .int .i64 0, .int .i64 0, .int .i64 0, .int .i64 0, .int .i64 0, .int .i64 0, .slice none 0 0]) := Lib.hid hbr
  have HBX := Lib.hid hbx
  clear hw5 hO5 hend hO35 hown5 hfin hbz hbr hbx hcx hown hrr4 hO4
  unfold ecl ER.cells
  dsimp only
  go_wp2_with fail
  rw [← HW5.out]
  refine HEND.out.mono ?_
  rintro e w6 ⟨rfl, hO6⟩
  have hbz := HBZ.out.onlyNil hO6
  have hbr := HBR.out.onlyNil hO6
  have hbx := HBX.out.onlyNil hO6
  have kz : ∀ i, w6.cell? ⟨w.heap.size + 1, i, none⟩ = #[Value.int .i64 0, .int .i64 0, .int .i64 0, .int .i64 0, .int .i64 0, .int .i64 0, .int .i64 0, .slice none 0 0][i]? := fun i => hbz.cell i
  have kr : ∀ i, w6.cell? ⟨w.heap.size, i, none⟩ = #[Value.int .i64 0, .int .i64 0, .int .i64 0, .int .i64 0, .int .i64 0, .int .i64 0, .int .i64 0, .slice none 0 0][i]? := fun i => hbr.cell i
  have fr : ∀ i, w6.frozen? ⟨w.heap.size, i, none⟩ = false := fun i => hbr.frozen i
  have kx : ∀ i, w6.cell? ⟨w4.heap.size, i, none⟩ = #[Value.int .i64 kind, .int .i64 task, .int .i64 call, .int .i64 a0, .int .i64 a1, .int .i64 a2, .int .i64 result, .slice Ax data.length cx][i]? := fun i => hbx.cell i
  have HF6 := Lib.hid (fun v => HFIN.out w6 v hO6)
  clear hbz hbr hbx hO6
  by_cases hbad : f = true ∨ pos ≠ l.length
  · have HB := Lib.hid hbad
    rw [if_pos hbad]
    have HF := HF6.out
    rw [if_pos hbad, if_pos hbad] at HF
    have HF7 := Lib.hid HF
    clear HF hbad HF6
    go_wp2_with fail
    refine bodyPost_ret (v := .tuple #[.agg #[Value.int .i64 0, .int .i64 0, .int .i64 0, .int .i64 0, .int .i64 0, .int .i64 0, .int .i64 0, .slice none 0 0], .int .i64 4]) (by simp [results, Try.results54, go_sem, kr]) rfl ?_
    refine HF7.out _ ?_
    (repeat' (first | with_reducible exact Only.refl _ _ | with_reducible refine Only.setCell ?_ (Or.inl ?_) _ | with_reducible refine Only.drewN ?_ _ | with_reducible refine Only.drew ?_ | with_reducible refine Only.alloc ?_ _ | (exact rfl)))
  · have HB := Lib.hid hbad
    rw [if_neg hbad]
    have HF := HF6.out
    rw [if_neg hbad, if_neg hbad] at HF
    have HF7 := Lib.hid HF
    clear HF hbad HF6
    go_wp2_with fail
    refine bodyPost_ret (v := .tuple #[.agg #[Value.int .i64 kind, .int .i64 task, .int .i64 call, .int .i64 a0, .int .i64 a1, .int .i64 a2, .int .i64 result, .slice Ax data.length cx], .int .i64 0]) (by simp [results, Try.results54, go_sem, kr]) rfl ?_
    refine HF7.out _ ?_
    (repeat' (first | with_reducible exact Only.refl _ _ | with_reducible refine Only.setCell ?_ (Or.inl ?_) _ | with_reducible refine Only.drewN ?_ _ | with_reducible refine Only.drew ?_ | with_reducible refine Only.alloc ?_ _ | (exact rfl)))

end Go.Proofs.Ytbhgaaendekghaa

namespace Go.Proofs.Ytbhgaaendekghaa
open Go.RowKit

set_option maxRecDepth 100000 in
set_option maxHeartbeats 2000000 in
theorem readEntry_any (A : Option Addr) (c : Nat) (l : List UInt8) (w : World) (h : Bs w w.heap.size A l) (hl : l.length ≤ 1099511627776) :
    Calls Try.prog 12 #[.slice A l.length c] w (RdEPost (readE l) w) := by
  obtain ⟨N, hN⟩ : ∃ N, l.length = N := ⟨_, rfl⟩
  obtain ⟨w2, hw2⟩ : ∃ w2, w2 = w.alloc (.cells #[Value.int .i64 0, .int .i64 0, .int .i64 0, .int .i64 0, .int .i64 0, .int .i64 0, .int .i64 0, .slice none 0 0] 35) := ⟨_, rfl⟩
  have hO2 : Only Nil w w2 := by rw [hw2]; exact (Only.refl _ _).alloc _
  have hb1 : Blk w2 w.heap.size 35 #[Value.int .i64 0, .int .i64 0, .int .i64 0, .int .i64 0, .int .i64 0, .int .i64 0, .int .i64 0, .slice none 0 0] := by rw [hw2]; exact Blk.new _ _ _
  have hwh := wholeE_any A c l w2 (h.onlyNil hO2 (Nat.le_refl _) |>.up hO2.size) hl
  obtain ⟨⟨x, q⟩, hR⟩ : ∃ R, readE l = R := ⟨_, rfl⟩
  rw [hN, hR] at hwh
  rw [hN, hR]
  have HW2 := Lib.hid hw2
  have HO2 := Lib.hid hO2
  have HB1 := Lib.hid hb1
  have HWH := Lib.hid hwh
  clear hw2 hO2 hb1 hwh hN hl h hR
  go_enter Try.func12, Try.ntmps12
  go_upto_region 1 with fail
  rw [← HW2.out]
  go_wp2_with fail
  refine HWH.out.mono ?_
  rintro e w3 ⟨Ax, cx, rfl, hcx, hown, hO3⟩
  have hb3 := HB1.out.onlyNil hO3
  have hfin : ∀ v, Only (One w.heap.size) w3 v → RdEPost (x, q) w (.returned (.tuple #[.agg (ecl Ax cx x), .int .i64 q])) v := fun v h2 => by
    have h3 : Only Nil w v := (HO2.out.thenNil hO3).trans h2 (fun x hx => .inr (by unfold One at hx; omega))
    refine ⟨Ax, cx, rfl, hcx, ?_, h3⟩
    refine own_only (own_base hown HO2.out.size) h2 (fun q hq hx => ?_)
    have h4 := ownBlock_ge hown hq
    have := HB1.out.lt
    unfold One at hx
    omega
  have HFIN := Lib.hid hfin
  have kr : ∀ i, w3.cell? ⟨w.heap.size, i, none⟩ = #[Value.int .i64 0, .int .i64 0, .int .i64 0, .int .i64 0, .int .i64 0, .int .i64 0, .int .i64 0, .slice none 0 0][i]? := fun i => hb3.cell i
  have fr : ∀ i, w3.frozen? ⟨w.heap.size, i, none⟩ = false := fun i => hb3.frozen i
  clear hb3 hfin hown hO3 hcx
  obtain ⟨kind, task, call, a0, a1, a2, result, data⟩ := x
  unfold ecl ER.cells
  dsimp only
  go_wp2_with fail
  refine bodyPost_ret (v := .tuple #[.agg #[Value.int .i64 kind, .int .i64 task, .int .i64 call, .int .i64 a0, .int .i64 a1, .int .i64 a2, .int .i64 result, .slice Ax data.length cx], .int .i64 q]) (by simp [results, Try.results12, go_sem, kr]) rfl ?_
  refine HFIN.out _ ?_
  (repeat' (first | with_reducible exact Only.refl _ _ | with_reducible refine Only.setCell ?_ (Or.inl ?_) _ | with_reducible refine Only.drewN ?_ _ | with_reducible refine Only.drew ?_ | with_reducible refine Only.alloc ?_ _ | (exact rfl)))

end Go.Proofs.Ytbhgaaendekghaa

namespace Go.Proofs.Ytbhgaaendekghaa
open Go.RowKit

/-- '==' of two arrays of four ints. -/
theorem eqArr4 (a0 a1 a2 a3 b0 b1 b2 b3 : Int) (w : World) : (Op.equalIn 10000 24 (.agg #[.int .i64 a0, .int .i64 a1, .int .i64 a2, .int .i64 a3]) (.agg #[.int .i64 b0, .int .i64 b1, .int .i64 b2, .int .i64 b3])).run Try.prog w = .ok (a0 == b0 && (a1 == b1 && (a2 == b2 && a3 == b3))) w := by
  have u3 := Try.underlying3
  have a3_ := Try.isAgg3
  have z3 := Try.sizeOf3
  rw [show (10000 : Nat) = 9999 + 1 from rfl, Op.equalIn]
  simp only [Sem.run_bind, run_underlying Try.underlying24, Result.andThen_ok]
  simp only [Std.Legacy.Range.forIn_eq_forIn_range', Std.Legacy.Range.size, Nat.sub_zero, Nat.add_sub_cancel, Nat.div_one, List.range'_succ, List.range'_zero, List.forIn_cons, List.forIn_nil]
  cases h0 : (a0 == b0) <;> cases h1 : (a1 == b1) <;> cases h2 : (a2 == b2) <;> cases h3 : (a3 == b3) <;> go_simp

def sameM (x y : M) : Bool := x.src == y.src && (x.dst == y.dst && (x.kind == y.kind && (x.seq == y.seq && ((x.a0 == y.a0 && (x.a1 == y.a1 && (x.a2 == y.a2 && x.a3 == y.a3))) && x.data == y.data))))
theorem sameM_iff {x y : M} : sameM x y = true ↔ x = y := by
  obtain ⟨s, t, c, q, a0, a1, a2, a3, d⟩ := x
  obtain ⟨s', t', c', q', b0, b1, b2, b3, d'⟩ := y
  unfold sameM
  simp only [Bool.and_eq_true, beq_iff_eq, M.mk.injEq, and_assoc]

theorem same_bytes (A B : Option Addr) (ca cb : Nat) (a b : List UInt8) (w : World) (ha : Bs w w.heap.size A a) (hb : Bs w w.heap.size B b) :
    Calls Try.prog 44 #[.slice A a.length ca, .slice B b.length cb] w fun e w' => e = .returned (.bool (a == b)) ∧ w' = w := by
  have h1 := run_str (P := Try.prog) w 22 9 5 Try.underlying22 Try.underlying5 Try.underlying9 (c := ca) ha rfl
  have h2 := run_str (P := Try.prog) w 22 9 5 Try.underlying22 Try.underlying5 Try.underlying9 (c := cb) hb rfl
  go_enter Try.func44, Try.ntmps44
  go_wp2_with fail
  go_ret
  exact ⟨rfl, rfl⟩

set_option maxRecDepth 100000 in
set_option maxHeartbeats 2000000 in
theorem same_msg (A : Option Addr) (c : Nat) (x : M) (B : Option Addr) (c' : Nat) (y : M) (w : World) (hr : Bs w w.heap.size A x.data) (hq : Bs w w.heap.size B y.data) :
    Calls Try.prog 17 #[.agg (mcells A c x).toArray, .agg (mcells B c' y).toArray] w fun e w' => e = .returned (.bool (sameM x y)) ∧ Only Nil w w' := by
  obtain ⟨src, dst, kind, seq, a0, a1, a2, a3, data⟩ := x
  obtain ⟨src', dst', kind', seq', b0, b1, b2, b3, data'⟩ := y
  have hq4 := eqArr4 a0 a1 a2 a3 b0 b1 b2 b3
  have hS : sameM ⟨src, dst, kind, seq, a0, a1, a2, a3, data⟩ ⟨src', dst', kind', seq', b0, b1, b2, b3, data'⟩ = (src == src' && (dst == dst' && (kind == kind' && (seq == seq' && ((a0 == b0 && (a1 == b1 && (a2 == b2 && a3 == b3))) && data == data'))))) := rfl
  dsimp only at hr hq
  have HSA := Lib.hid (fun (u : World) (hO : Only Nil w u) => same_bytes A B c c' data data' u ((hr.onlyNil hO (Nat.le_refl _)).up hO.size) ((hq.onlyNil hO (Nat.le_refl _)).up hO.size))
  unfold mcells
  dsimp only
  rw [hS]
  obtain ⟨D, hD⟩ : ∃ D, data.length = D := ⟨_, rfl⟩
  obtain ⟨D', hD'⟩ : ∃ D, data'.length = D := ⟨_, rfl⟩
  rw [hD, hD'] at HSA ⊢
  obtain ⟨p0, h0⟩ : ∃ p, (src == src') = p := ⟨_, rfl⟩
  obtain ⟨p1, h1⟩ : ∃ p, (dst == dst') = p := ⟨_, rfl⟩
  obtain ⟨p2, h2⟩ : ∃ p, (kind == kind') = p := ⟨_, rfl⟩
  obtain ⟨p3, h3⟩ : ∃ p, (seq == seq') = p := ⟨_, rfl⟩
  obtain ⟨p4, h4⟩ : ∃ p, (a0 == b0 && (a1 == b1 && (a2 == b2 && a3 == b3))) = p := ⟨_, rfl⟩
  obtain ⟨p5, h5⟩ : ∃ p, (data == data') = p := ⟨_, rfl⟩
  rw [h5] at HSA
  rw [h0, h1, h2, h3, h4, h5]
  rw [h4] at hq4
  clear hr hq hS hD hD' h4 h5
  cases p0
  · skip
    go_enter Try.func17, Try.ntmps17
    go_wp2_with fail
    go_ret
    exact ⟨by first | rfl | simp, by (repeat' (first | with_reducible exact Only.refl _ _ | with_reducible refine Only.setCell ?_ (Or.inl ?_) _ | with_reducible refine Only.drewN ?_ _ | with_reducible refine Only.drew ?_ | with_reducible refine Only.alloc ?_ _ | (fail)))⟩
  · skip
    cases p1
    · skip
      go_enter Try.func17, Try.ntmps17
      go_wp2_with fail
      go_ret
      exact ⟨by first | rfl | simp, by (repeat' (first | with_reducible exact Only.refl _ _ | with_reducible refine Only.setCell ?_ (Or.inl ?_) _ | with_reducible refine Only.drewN ?_ _ | with_reducible refine Only.drew ?_ | with_reducible refine Only.alloc ?_ _ | (fail)))⟩
    · skip
      cases p2
      · skip
        go_enter Try.func17, Try.ntmps17
        go_wp2_with fail
        go_ret
        exact ⟨by first | rfl | simp, by (repeat' (first | with_reducible exact Only.refl _ _ | with_reducible refine Only.setCell ?_ (Or.inl ?_) _ | with_reducible refine Only.drewN ?_ _ | with_reducible refine Only.drew ?_ | with_reducible refine Only.alloc ?_ _ | (fail)))⟩
      · skip
        cases p3
        · skip
          go_enter Try.func17, Try.ntmps17
          go_wp2_with fail
          go_ret
          exact ⟨by first | rfl | simp, by (repeat' (first | with_reducible exact Only.refl _ _ | with_reducible refine Only.setCell ?_ (Or.inl ?_) _ | with_reducible refine Only.drewN ?_ _ | with_reducible refine Only.drew ?_ | with_reducible refine Only.alloc ?_ _ | (fail)))⟩
        · skip
          cases p4
          · skip
            go_enter Try.func17, Try.ntmps17
            go_wp2_with fail
            go_ret
            exact ⟨by first | rfl | simp, by (repeat' (first | with_reducible exact Only.refl _ _ | with_reducible refine Only.setCell ?_ (Or.inl ?_) _ | with_reducible refine Only.drewN ?_ _ | with_reducible refine Only.drew ?_ | with_reducible refine Only.alloc ?_ _ | (fail)))⟩
          · skip
            go_enter Try.func17, Try.ntmps17
            go_wp2_with fail
            refine (HSA.out _ (((Only.refl _ _).alloc _).alloc _)).mono ?_
            rintro x w1 ⟨rfl, rfl⟩
            go_wp2_with fail
            go_ret
            exact ⟨by first | rfl | simp, by (repeat' (first | with_reducible exact Only.refl _ _ | with_reducible refine Only.setCell ?_ (Or.inl ?_) _ | with_reducible refine Only.drewN ?_ _ | with_reducible refine Only.drew ?_ | with_reducible refine Only.alloc ?_ _ | (fail)))⟩

end Go.Proofs.Ytbhgaaendekghaa

namespace Go.Proofs.Ytbhgaaendekghaa
open Go.RowKit

theorem try_nil (f : Value) (w : World) : Calls Try.prog 60 #[.pointer none, f] w fun e w' => ∃ v, e = .returned v ∧ w' = w := by
  go_enter Try.func60, Try.ntmps60
  go_wp2_with fail
  refine bodyPost_ret (v := .tuple #[]) (by simp [results, Try.results60, go_sem]) rfl ?_
  exact ⟨_, rfl, rfl⟩

theorem rint_nil (w : World) : Calls Try.prog 24 #[.pointer none] w fun e w' => e = .returned (.int .i64 0) ∧ Only Nil w w' := by
  go_enter Try.func24, Try.ntmps24
  go_wp2_with fail
  refine (try_nil _ _).mono ?_
  rintro e w1 ⟨v, rfl, rfl⟩
  go_wp2_with fail
  refine bodyPost_ret (v := .int .i64 0) (by simp [results, Try.results24, go_sem]) rfl ?_
  refine ⟨rfl, (Only.refl Nil w).trans (S' := fun x => w.heap.size ≤ x) ?_ (fun x hx => .inr hx)⟩
  (repeat' (first | with_reducible exact Only.refl _ _ | with_reducible refine Only.setCell ?_ (Or.inl ?_) _ | with_reducible refine Only.drewN ?_ _ | with_reducible refine Only.drew ?_ | with_reducible refine Only.alloc ?_ _ | (first | exact Nat.le_refl _ | (show w.heap.size ≤ _; dsimp only; omega) | (show w.heap.size ≤ _; simp <;> omega))))

theorem rbounded_nil (a b : Int) (w : World) : Calls Try.prog 38 #[.pointer none, .int .i64 a, .int .i64 b] w fun e w' => e = .returned (.int .i64 0) ∧ Only Nil w w' := by
  go_enter Try.func38, Try.ntmps38
  go_wp2_with fail
  refine (try_nil _ _).mono ?_
  rintro e w1 ⟨v, rfl, rfl⟩
  go_wp2_with fail
  refine bodyPost_ret (v := .int .i64 0) (by simp [results, Try.results38, go_sem]) rfl ?_
  refine ⟨rfl, (Only.refl Nil w).trans (S' := fun x => w.heap.size ≤ x) ?_ (fun x hx => .inr hx)⟩
  (repeat' (first | with_reducible exact Only.refl _ _ | with_reducible refine Only.setCell ?_ (Or.inl ?_) _ | with_reducible refine Only.drewN ?_ _ | with_reducible refine Only.drew ?_ | with_reducible refine Only.alloc ?_ _ | (first | exact Nat.le_refl _ | (show w.heap.size ≤ _; dsimp only; omega) | (show w.heap.size ≤ _; simp <;> omega))))

theorem rbool_nil (w : World) : Calls Try.prog 39 #[.pointer none] w fun e w' => e = .returned (.bool false) ∧ Only Nil w w' := by
  go_enter Try.func39, Try.ntmps39
  go_wp2_with fail
  refine (try_nil _ _).mono ?_
  rintro e w1 ⟨v, rfl, rfl⟩
  go_wp2_with fail
  refine bodyPost_ret (v := .bool false) (by simp [results, Try.results39, go_sem]) rfl ?_
  refine ⟨rfl, (Only.refl Nil w).trans (S' := fun x => w.heap.size ≤ x) ?_ (fun x hx => .inr hx)⟩
  (repeat' (first | with_reducible exact Only.refl _ _ | with_reducible refine Only.setCell ?_ (Or.inl ?_) _ | with_reducible refine Only.drewN ?_ _ | with_reducible refine Only.drew ?_ | with_reducible refine Only.alloc ?_ _ | (first | exact Nat.le_refl _ | (show w.heap.size ≤ _; dsimp only; omega) | (show w.heap.size ≤ _; simp <;> omega))))

theorem rbytes_nil (a : Int) (w : World) : Calls Try.prog 41 #[.pointer none, .int .i64 a] w fun e w' => e = .returned (.slice none 0 0) ∧ Only Nil w w' := by
  go_enter Try.func41, Try.ntmps41
  go_wp2_with fail
  refine (try_nil _ _).mono ?_
  rintro e w1 ⟨v, rfl, rfl⟩
  go_wp2_with fail
  refine bodyPost_ret (v := .slice none 0 0) (by simp [results, Try.results41, go_sem]) rfl ?_
  refine ⟨rfl, (Only.refl Nil w).trans (S' := fun x => w.heap.size ≤ x) ?_ (fun x hx => .inr hx)⟩
  (repeat' (first | with_reducible exact Only.refl _ _ | with_reducible refine Only.setCell ?_ (Or.inl ?_) _ | with_reducible refine Only.drewN ?_ _ | with_reducible refine Only.drew ?_ | with_reducible refine Only.alloc ?_ _ | (first | exact Nat.le_refl _ | (show w.heap.size ≤ _; dsimp only; omega) | (show w.heap.size ≤ _; simp <;> omega))))

theorem rints_nil (a : Int) (w : World) : Calls Try.prog 35 #[.pointer none, .int .i64 a] w fun e w' => e = .returned (.slice none 0 0) ∧ Only Nil w w' := by
  go_enter Try.func35, Try.ntmps35
  go_wp2_with fail
  refine (try_nil _ _).mono ?_
  rintro e w1 ⟨v, rfl, rfl⟩
  go_wp2_with fail
  refine bodyPost_ret (v := .slice none 0 0) (by simp [results, Try.results35, go_sem]) rfl ?_
  refine ⟨rfl, (Only.refl Nil w).trans (S' := fun x => w.heap.size ≤ x) ?_ (fun x hx => .inr hx)⟩
  (repeat' (first | with_reducible exact Only.refl _ _ | with_reducible refine Only.setCell ?_ (Or.inl ?_) _ | with_reducible refine Only.drewN ?_ _ | with_reducible refine Only.drew ?_ | with_reducible refine Only.alloc ?_ _ | (first | exact Nat.le_refl _ | (show w.heap.size ≤ _; dsimp only; omega) | (show w.heap.size ≤ _; simp <;> omega))))

theorem rstrings_nil (a : Int) (w : World) : Calls Try.prog 37 #[.pointer none, .int .i64 a] w fun e w' => e = .returned (.slice none 0 0) ∧ Only Nil w w' := by
  go_enter Try.func37, Try.ntmps37
  go_wp2_with fail
  refine (try_nil _ _).mono ?_
  rintro e w1 ⟨v, rfl, rfl⟩
  go_wp2_with fail
  refine bodyPost_ret (v := .slice none 0 0) (by simp [results, Try.results37, go_sem]) rfl ?_
  refine ⟨rfl, (Only.refl Nil w).trans (S' := fun x => w.heap.size ≤ x) ?_ (fun x hx => .inr hx)⟩
  (repeat' (first | with_reducible exact Only.refl _ _ | with_reducible refine Only.setCell ?_ (Or.inl ?_) _ | with_reducible refine Only.drewN ?_ _ | with_reducible refine Only.drew ?_ | with_reducible refine Only.alloc ?_ _ | (first | exact Nat.le_refl _ | (show w.heap.size ≤ _; dsimp only; omega) | (show w.heap.size ≤ _; simp <;> omega))))

theorem rmsg_nil (w : World) : Calls Try.prog 49 #[.pointer none] w fun e w' => e = .returned (.agg #[.int .i64 0, .int .i64 0, .int .i64 0, .int .i64 0, .int .i64 0, .int .i64 0, .int .i64 0, .int .i64 0, .slice none 0 0]) ∧ Only Nil w w' := by
  go_enter Try.func49, Try.ntmps49
  go_wp2_with fail
  refine (try_nil _ _).mono ?_
  rintro e w1 ⟨v, rfl, rfl⟩
  go_wp2_with fail
  refine bodyPost_ret (v := .agg #[.int .i64 0, .int .i64 0, .int .i64 0, .int .i64 0, .int .i64 0, .int .i64 0, .int .i64 0, .int .i64 0, .slice none 0 0]) (by simp [results, Try.results49, go_sem]) rfl ?_
  refine ⟨rfl, (Only.refl Nil w).trans (S' := fun x => w.heap.size ≤ x) ?_ (fun x hx => .inr hx)⟩
  (repeat' (first | with_reducible exact Only.refl _ _ | with_reducible refine Only.setCell ?_ (Or.inl ?_) _ | with_reducible refine Only.drewN ?_ _ | with_reducible refine Only.drew ?_ | with_reducible refine Only.alloc ?_ _ | (first | exact Nat.le_refl _ | (show w.heap.size ≤ _; dsimp only; omega) | (show w.heap.size ≤ _; simp <;> omega))))

theorem reffects_nil (w : World) : Calls Try.prog 50 #[.pointer none] w fun e w' => e = .returned (.slice none 0 0) ∧ Only Nil w w' := by
  go_enter Try.func50, Try.ntmps50
  go_wp2_with fail
  refine (try_nil _ _).mono ?_
  rintro e w1 ⟨v, rfl, rfl⟩
  go_wp2_with fail
  refine bodyPost_ret (v := .slice none 0 0) (by simp [results, Try.results50, go_sem]) rfl ?_
  refine ⟨rfl, (Only.refl Nil w).trans (S' := fun x => w.heap.size ≤ x) ?_ (fun x hx => .inr hx)⟩
  (repeat' (first | with_reducible exact Only.refl _ _ | with_reducible refine Only.setCell ?_ (Or.inl ?_) _ | with_reducible refine Only.drewN ?_ _ | with_reducible refine Only.drew ?_ | with_reducible refine Only.alloc ?_ _ | (first | exact Nat.le_refl _ | (show w.heap.size ≤ _; dsimp only; omega) | (show w.heap.size ≤ _; simp <;> omega))))

theorem rentry_nil (w : World) : Calls Try.prog 51 #[.pointer none] w fun e w' => e = .returned (.agg #[.int .i64 0, .int .i64 0, .int .i64 0, .int .i64 0, .int .i64 0, .int .i64 0, .int .i64 0, .slice none 0 0]) ∧ Only Nil w w' := by
  go_enter Try.func51, Try.ntmps51
  go_wp2_with fail
  refine (try_nil _ _).mono ?_
  rintro e w1 ⟨v, rfl, rfl⟩
  go_wp2_with fail
  refine bodyPost_ret (v := .agg #[.int .i64 0, .int .i64 0, .int .i64 0, .int .i64 0, .int .i64 0, .int .i64 0, .int .i64 0, .slice none 0 0]) (by simp [results, Try.results51, go_sem]) rfl ?_
  refine ⟨rfl, (Only.refl Nil w).trans (S' := fun x => w.heap.size ≤ x) ?_ (fun x hx => .inr hx)⟩
  (repeat' (first | with_reducible exact Only.refl _ _ | with_reducible refine Only.setCell ?_ (Or.inl ?_) _ | with_reducible refine Only.drewN ?_ _ | with_reducible refine Only.drew ?_ | with_reducible refine Only.alloc ?_ _ | (first | exact Nat.le_refl _ | (show w.heap.size ≤ _; dsimp only; omega) | (show w.heap.size ≤ _; simp <;> omega))))

theorem rfail_nil (w : World) : Calls Try.prog 48 #[.pointer none] w fun e w' => ∃ v, e = .returned v ∧ w' = w := by
  go_enter Try.func48, Try.ntmps48
  go_wp2_with fail
  refine bodyPost_end (v := .tuple #[]) (by simp [results, Try.results48, go_sem]) rfl ?_
  exact ⟨_, rfl, rfl⟩
theorem rleft_nil (w : World) : Calls Try.prog 42 #[.pointer none] w fun e w' => e = .returned (.int .i64 0) ∧ w' = w := by
  go_enter Try.func42, Try.ntmps42
  go_wp2_with fail
  go_ret
  exact ⟨rfl, rfl⟩
theorem rend_nil (w : World) : Calls Try.prog 25 #[.pointer none] w fun e w' => e = .returned (.int .i64 7) ∧ w' = w := by
  go_enter Try.func25, Try.ntmps25
  go_wp2_with fail
  go_ret
  exact ⟨rfl, rfl⟩
theorem rstring_nil (a : Int) (w : World) : Calls Try.prog 40 #[.pointer none, .int .i64 a] w fun e w' => e = .returned (.string ⟨#[]⟩) ∧ Only Nil w w' := by
  have hs : ∀ w : World, (convert 22 9 (.slice none 0 0)).run Try.prog w = .ok (.string ⟨#[]⟩) w := fun w => run_str (P := Try.prog) w 22 9 5 Try.underlying22 Try.underlying5 Try.underlying9 (B := w.heap.size) (c := 0) (l := []) (Bs.nil _ _ _) rfl
  go_enter Try.func40, Try.ntmps40
  go_wp2_with fail
  refine (rbytes_nil a _).mono ?_
  rintro e w1 ⟨rfl, hO⟩
  go_wp2_with fail
  go_ret
  exact ⟨rfl, hO⟩

end Go.Proofs.Ytbhgaaendekghaa

namespace Go.Proofs.Ytbhgaaendekghaa
open Go.RowKit

theorem same_any (A B : Option Addr) (ca cb : Nat) (a b : List UInt8) (w : World) (ha : Bs w w.heap.size A a) (hb : Bs w w.heap.size B b) :
    Calls Try.prog 44 #[.slice A a.length ca, .slice B b.length cb] w fun e w' => e = .returned (.bool (a == b)) ∧ w' = w := by
  have h1 := run_str (P := Try.prog) w 22 9 5 Try.underlying22 Try.underlying5 Try.underlying9 (c := ca) ha rfl
  have h2 := run_str (P := Try.prog) w 22 9 5 Try.underlying22 Try.underlying5 Try.underlying9 (c := cb) hb rfl
  go_enter Try.func44, Try.ntmps44
  go_wp2_with fail
  go_ret
  exact ⟨rfl, rfl⟩
theorem same_zero (w : World) : Calls Try.prog 44 #[.slice none 0 0, .slice none 0 0] w fun e w' => e = .returned (.bool true) ∧ w' = w :=
  same_any none none 0 0 [] [] w (Bs.nil _ _ _) (Bs.nil _ _ _)
theorem eq4 (w : World) : (Op.equalIn 10000 24 (.agg #[.int .i64 0, .int .i64 0, .int .i64 0, .int .i64 0]) (.agg #[.int .i64 0, .int .i64 0, .int .i64 0, .int .i64 0])).run Try.prog w = .ok true w := by
  have u3 := Try.underlying3
  have a3 := Try.isAgg3
  have z3 := Try.sizeOf3
  rw [show (10000 : Nat) = 9999 + 1 from rfl, Op.equalIn]
  simp only [Sem.run_bind, run_underlying Try.underlying24, Result.andThen_ok]
  simp only [Std.Legacy.Range.forIn_eq_forIn_range', Std.Legacy.Range.size, Nat.sub_zero, Nat.add_sub_cancel, Nat.div_one, List.range'_succ, List.range'_zero, List.forIn_cons, List.forIn_nil]
  go_simp
theorem eq3 (w : World) : (Op.equalIn 10000 33 (.agg #[.int .i64 0, .int .i64 0, .int .i64 0]) (.agg #[.int .i64 0, .int .i64 0, .int .i64 0])).run Try.prog w = .ok true w := by
  have u3 := Try.underlying3
  have a3 := Try.isAgg3
  have z3 := Try.sizeOf3
  rw [show (10000 : Nat) = 9999 + 1 from rfl, Op.equalIn]
  simp only [Sem.run_bind, run_underlying Try.underlying33, Result.andThen_ok]
  simp only [Std.Legacy.Range.forIn_eq_forIn_range', Std.Legacy.Range.size, Nat.sub_zero, Nat.add_sub_cancel, Nat.div_one, List.range'_succ, List.range'_zero, List.forIn_cons, List.forIn_nil]
  go_simp
set_option maxRecDepth 100000 in
theorem sameMsg_zero (w : World) : Calls Try.prog 17 #[.agg #[.int .i64 0, .int .i64 0, .int .i64 0, .int .i64 0, .int .i64 0, .int .i64 0, .int .i64 0, .int .i64 0, .slice none 0 0], .agg #[.int .i64 0, .int .i64 0, .int .i64 0, .int .i64 0, .int .i64 0, .int .i64 0, .int .i64 0, .int .i64 0, .slice none 0 0]] w fun e w' => e = .returned (.bool true) ∧ Only Nil w w' := by
  have h4 := eq4
  go_enter Try.func17, Try.ntmps17
  go_wp2_with fail
  refine (same_zero _).mono ?_
  rintro e w1 ⟨rfl, rfl⟩
  go_wp2_with fail
  go_ret
  exact ⟨rfl, by (repeat' (first | with_reducible exact Only.refl _ _ | with_reducible refine Only.setCell ?_ (Or.inl ?_) _ | with_reducible refine Only.drewN ?_ _ | with_reducible refine Only.drew ?_ | with_reducible refine Only.alloc ?_ _ | (fail)))⟩
set_option maxRecDepth 100000 in
theorem sameEntry_zero (w : World) : Calls Try.prog 19 #[.agg #[.int .i64 0, .int .i64 0, .int .i64 0, .int .i64 0, .int .i64 0, .int .i64 0, .int .i64 0, .slice none 0 0], .agg #[.int .i64 0, .int .i64 0, .int .i64 0, .int .i64 0, .int .i64 0, .int .i64 0, .int .i64 0, .slice none 0 0]] w fun e w' => e = .returned (.bool true) ∧ Only Nil w w' := by
  have h3 := eq3
  go_enter Try.func19, Try.ntmps19
  go_wp2_with fail
  refine (same_zero _).mono ?_
  rintro e w1 ⟨rfl, rfl⟩
  go_wp2_with fail
  go_ret
  exact ⟨rfl, by (repeat' (first | with_reducible exact Only.refl _ _ | with_reducible refine Only.setCell ?_ (Or.inl ?_) _ | with_reducible refine Only.drewN ?_ _ | with_reducible refine Only.drew ?_ | with_reducible refine Only.alloc ?_ _ | (fail)))⟩

/-- A reader at block p over these bytes. -/
structure RD (w : World) (p : Nat) (A : Option Addr) (c : Nat) (l : List UInt8) (pos : Nat) (failed : Bool) : Prop where
  box : Blk w p 96 #[.slice A l.length c, .int .i64 pos, .bool failed]
  bytes : Bs w w.heap.size A l

theorem read_any (A : Option Addr) (c : Nat) (l : List UInt8) (w : World) (h : Bs w w.heap.size A l) (hl : l.length ≤ 1099511627776) :
    Calls Try.prog 23 #[.slice A l.length c] w fun e w' => ∃ p A' c', e = .returned (.pointer (some ⟨p, 0, none⟩)) ∧ w.heap.size ≤ p ∧ RD w' p A' c' l 0 false ∧ l.length ≤ c' ∧ Only Nil w w' := by
  obtain ⟨i0, hi0, hz0, hz1, hz2⟩ := info_parts byte_info
  have H := Lib.hid h
  have HL := Lib.hid hl
  clear h hl
  go_enter Try.func23, Try.ntmps23
  go_wp2_with (at_builtin; go_must (refine wpList_append_rd _ rfl (.tmp 3) (.tmp 4) _ rfl w.heap.size 5 i0 (.int .u8 0) 1 1 Try.underlying22 hi0 hz0 hz1 hz2 rfl (by omega) (.slice (some ⟨w.heap.size, 0, none⟩) 0 0) 0 [] rfl ?qown w.heap.size A l.length c (bcells l) rfl ?qrd (bcells_one l) l.length (by omega) _ rfl ?q63 ?qby ?qbase ?_))
  case qown => exact World.ownsRow_lit w #[] 0 (Nat.le_refl _) (by unfold maxLen; omega) rfl
  case qrd => exact Rd.onlyNil H.out ((Only.refl _ _).alloc _) (Nat.le_refl _)
  case q63 => have := HL.out; unfold maxLen; omega
  case qby => have := HL.out; omega
  case qbase => simp
  intro A4 c4 w4 hc4 hown4 hgr4 hat4
  have hO4 : Only Nil w w4 := ((Only.refl _ _).alloc _).grown hgr4 (fun q hq => .inr (Nat.le_of_eq (by simpa [Value.ownBlock] using hq)))
  have hb4 : Bs w4 w4.heap.size A4 l := (Bs.of_own (l := l) (by simpa using hown4)).1
  have HO4 := Lib.hid hO4
  have HB4 := Lib.hid hb4
  have HC4 := Lib.hid hc4
  clear hO4 hb4 hown4 hgr4 hat4 hc4
  go_wp2_with fail
  go_ret
  exact ⟨w4.heap.size, A4, c4, rfl, HO4.out.size, ⟨Blk.new _ _ _, (HB4.out.onlyNil ((Only.refl _ _).alloc _) (Nat.le_refl _)).up ((Only.refl Nil _).alloc _).size⟩, HC4.out, HO4.out.alloc _⟩

end Go.Proofs.Ytbhgaaendekghaa

namespace Go.Proofs.Ytbhgaaendekghaa
open Go.RowKit

theorem enc64 : encI 64 = [128, 1] := by
  unfold encI
  rw [show zig 64 = 128 from rfl, encU_big (by decide), encU_small (by decide)]
  rfl
theorem encM1 : encI (-1) = [1] := by
  unfold encI
  rw [show zig (-1) = 1 from rfl, encU_small (by decide)]
  rfl
theorem enc2 : encI 2 = [4] := by
  unfold encI
  rw [show zig 2 = 4 from rfl, encU_small (by decide)]
  rfl

theorem string_ab (w : World) : Calls Try.prog 32 #[.slice none 0 0, .string ⟨#[97, 98]⟩] w fun e w' => ∃ A c, e = .returned (.slice A 3 c) ∧ Bs w' w'.heap.size A [4, 97, 98] ∧ Only Nil w w' := by
  obtain ⟨i0, hi0, hz0, hz1, hz2⟩ := info_parts byte_info
  have hi := int_any none 0 w.heap.size [] 2 w (Nat.le_refl _) (World.ownsRow_nil _ _ _ _) (by simp) (by omega)
  rw [enc2] at hi
  have HI := Lib.hid hi
  clear hi
  go_enter Try.func32, Try.ntmps32
  go_wp2_with fail
  refine HI.out.mono ?_
  rintro e w1 ⟨A, c, rfl, hc, hown, hq, hO⟩
  have hown : w1.ownsRow w.heap.size 5 1 (.slice A 1 c) 1 (bcells [4]) := hown
  have HOW := Lib.hid hown
  have hO1 : Only Nil w w1 := hO.more (fun x hx => by cases hx)
  have HO := Lib.hid hO1
  clear hown hO hO1 hq hc
  go_wp2_with (at_builtin; go_must (refine Lib.wpList_append_own_string _ rfl (.tmp 8) (.tmp 9) _ _ rfl w.heap.size 5 i0 Try.underlying22 Try.underlying9 hi0 hz0 hz1 hz2 (.slice A 1 c) 1 (bcells [4]) rfl ?qown ⟨#[97, 98]⟩ rfl ?q63 ?qby ?qbase ?_))
  case qown => exact HOW.out
  case q63 => decide
  case qby => decide
  case qbase => exact HO.out.size
  intro v4 w4 hown4 hgr4 hat4
  obtain ⟨A4, c4, rfl, hc4⟩ := own_form hown4
  have hO4 : Only Nil w w4 := HO.out.trans (Only.of_grown hgr4) (fun x hx => .inr (ownBlock_ge HOW.out hx))
  have hb4 : Bs w4 w4.heap.size A4 [4, 97, 98] := (Bs.of_own (l := [4, 97, 98]) hown4).1
  have HO4 := Lib.hid hO4
  have HB4 := Lib.hid hb4
  clear hO4 hb4 hown4 hgr4 hat4
  go_wp2_with fail
  go_ret
  exact ⟨A4, c4, rfl, HB4.out, HO4.out⟩

set_option maxRecDepth 100000 in
set_option maxHeartbeats 2000000 in
theorem int_bad (p : Nat) (A : Option Addr) (c : Nat) (w : World) (h : RD w p A c [128, 0] 0 false) (hc : 2 ≤ c) :
    Calls Try.prog 62 #[.pointer (some ⟨p, 0, none⟩)] w fun e w' => e = .returned (.tuple #[.int .i64 0, .bool false]) ∧ Blk w' p 96 #[.slice A 2 c, .int .i64 2, .bool false] ∧ Only (One p) w w' := by
  obtain ⟨g, off, rfl, _, c0⟩ := h.bytes.at_ (i := 0) (b := 128) rfl
  obtain ⟨g', off', e', _, c1⟩ := h.bytes.at_ (i := 1) (b := 0) rfl
  injection e' with e'
  injection e' with e1 e2 _
  subst e1 e2
  have hne : g ≠ p := by
    rintro rfl
    have c0 := c0
    rw [h.box.cell] at c0
    match off, c0 with
    | 0, c0 => injection c0 with c0; cases c0
    | 1, c0 => injection c0 with c0; cases c0
    | 2, c0 => injection c0 with c0; cases c0
    | n + 3, c0 => rw [Array.getElem?_eq_none (by show 3 ≤ n + 3 + 0; omega)] at c0; cases c0
  have hne' : p ≠ g := fun h => hne h.symm
  have c0 : w.cell? ⟨g, off, none⟩ = some (.int .u8 128) := c0
  have c1 : w.cell? ⟨g, off + 1, none⟩ = some (.int .u8 0) := c1
  have kb : ∀ i, w.cell? ⟨p, i, none⟩ = #[Value.slice (some ⟨g, off, none⟩) 2 c, .int .i64 0, .bool false][i]? := fun i => h.box.cell i
  have fb : ∀ i, w.frozen? ⟨p, i, none⟩ = false := fun i => h.box.frozen i
  have HBX := Lib.hid h.box
  clear h
  go_enter Try.func62, Try.ntmps62
  go_wp2_with fail
  refine wp_loop_rounds 2 ?_
  rw [rounds_succ]
  go_wp2_with fail
  go_quiet (fail)
  go_wp2_with fail
  go_quiet (fail)
  go_wp2_with fail
  rw [rounds_succ]
  go_wp2_with fail
  go_quiet (fail)
  go_wp2_with fail
  go_quiet (fail)
  go_wp2_with fail
  refine bodyPost_ret (v := .tuple #[.int .i64 0, .bool false]) (by simp [results, Try.results62, go_sem]) rfl ?_
  refine ⟨rfl, (HBX.out.set_ 1 _).set_ 1 _, ?_⟩
  (repeat' (first | with_reducible exact Only.refl _ _ | with_reducible refine Only.setCell ?_ (Or.inl ?_) _ | with_reducible refine Only.drewN ?_ _ | with_reducible refine Only.drew ?_ | with_reducible refine Only.alloc ?_ _ | (exact rfl)))

set_option maxRecDepth 100000 in
theorem clo_bad (p g1 g2 : Nat) (A : Option Addr) (c : Nat) (w : World) (h : RD w p A c [128, 0] 0 false) (hc : 2 ≤ c) (b1 : Blk w g1 53 #[.pointer (some ⟨p, 0, none⟩)]) (b2 : Blk w g2 3 #[.int .i64 0]) :
    Calls Try.prog 61 #[.pointer (some ⟨g1, 0, none⟩), .pointer (some ⟨g2, 0, none⟩)] w fun e w' => e = .returned (.bool false) ∧ Blk w' p 96 #[.slice A 2 c, .int .i64 2, .bool false] ∧ Blk w' g2 3 #[.int .i64 0] ∧ Only (Two p g2) w w' := by
  have n2 : g2 ≠ p := b2.ne_ h.box (by decide)
  have HH := Lib.hid h
  have B2 := Lib.hid b2
  have k1 : w.cell? ⟨g1, 0, none⟩ = some (.pointer (some ⟨p, 0, none⟩)) := b1.cell 0
  clear h b1 b2
  go_enter Try.func61, Try.ntmps61
  go_wp2_with fail
  refine (int_bad p A c _ HH.out hc).mono ?_
  rintro e w1 ⟨rfl, hb, hO⟩
  have hb2 := B2.out.only hO (fun hx => n2 hx)
  have k2 : w1.cell? ⟨g2, 0, none⟩ = some (.int .i64 0) := hb2.cell 0
  have f2 : w1.frozen? ⟨g2, 0, none⟩ = false := hb2.frozen 0
  have HB := Lib.hid hb
  have HB2 := Lib.hid hb2
  have HO := Lib.hid hO
  clear hb hb2 hO
  go_wp2_with fail
  go_ret
  refine ⟨rfl, HB.out.far (fun h => n2 h.symm) _, HB2.out.set_ 0 _, (HO.out.more (fun x hx => .inl hx)).then_ ?_⟩
  (repeat' (first | with_reducible exact Only.refl _ _ | with_reducible refine Only.setCell ?_ (Or.inl ?_) _ | with_reducible refine Only.drewN ?_ _ | with_reducible refine Only.drew ?_ | with_reducible refine Only.alloc ?_ _ | (exact .inr rfl)))

set_option maxRecDepth 100000 in
set_option maxHeartbeats 1000000 in
theorem try_bad (p g1 g2 : Nat) (A : Option Addr) (c : Nat) (w : World) (h : RD w p A c [128, 0] 0 false) (hc : 2 ≤ c) (b1 : Blk w g1 53 #[.pointer (some ⟨p, 0, none⟩)]) (b2 : Blk w g2 3 #[.int .i64 0]) :
    Calls Try.prog 60 #[.pointer (some ⟨p, 0, none⟩), .func (Fn.func 61) #[] #[.pointer (some ⟨g1, 0, none⟩), .pointer (some ⟨g2, 0, none⟩)]] w fun e w' => (∃ v, e = .returned v) ∧ Blk w' p 96 #[.slice A 2 c, .int .i64 0, .bool true] ∧ Blk w' g2 3 #[.int .i64 0] ∧ Only (Two p g2) w w' := by
  have n2 : g2 ≠ p := b2.ne_ h.box (by decide)
  have hcl := clo_bad p g1 g2 A c w h hc b1 b2
  have HCL := Lib.hid hcl
  have kb : ∀ i, w.cell? ⟨p, i, none⟩ = #[Value.slice A 2 c, .int .i64 0, .bool false][i]? := fun i => h.box.cell i
  clear hcl h b1 b2
  go_enter Try.func60, Try.ntmps60
  go_wp2_with fail
  refine HCL.out.mono ?_
  rintro e w1 ⟨rfl, hb, hb2, hO⟩
  have kb1 : ∀ i, w1.cell? ⟨p, i, none⟩ = #[Value.slice A 2 c, .int .i64 2, .bool false][i]? := fun i => hb.cell i
  have fb1 : ∀ i, w1.frozen? ⟨p, i, none⟩ = false := fun i => hb.frozen i
  have HB := Lib.hid hb
  have HB2 := Lib.hid hb2
  have HO := Lib.hid hO
  clear hb hb2 hO
  go_wp2_with fail
  refine bodyPost_end (v := .tuple #[]) (by simp [results, Try.results60, go_sem]) rfl ?_
  refine ⟨⟨_, rfl⟩, (HB.out.set_ 1 _).set_ 2 _, (HB2.out.far n2 _).far n2 _, HO.out.then_ ?_⟩
  (repeat' (first | with_reducible exact Only.refl _ _ | with_reducible refine Only.setCell ?_ (Or.inl ?_) _ | with_reducible refine Only.drewN ?_ _ | with_reducible refine Only.drew ?_ | with_reducible refine Only.alloc ?_ _ | (exact .inl rfl)))

set_option maxRecDepth 100000 in
set_option maxHeartbeats 1000000 in
theorem rint_bad (p : Nat) (A : Option Addr) (c : Nat) (w : World) (h : RD w p A c [128, 0] 0 false) (hc : 2 ≤ c) :
    Calls Try.prog 24 #[.pointer (some ⟨p, 0, none⟩)] w fun e w' => e = .returned (.int .i64 0) ∧ Blk w' p 96 #[.slice A 2 c, .int .i64 0, .bool true] ∧ Only (One p) w w' := by
  have hp := h.box.lt
  have hOA : Only Nil w ((w.alloc (.cells #[.pointer (some ⟨p, 0, none⟩)] 53)).alloc (.cells #[.int .i64 0] 3)) := ((Only.refl _ _).alloc _).alloc _
  have ht := try_bad p w.heap.size (w.heap.size + 1) A c _ ⟨h.box.onlyNil hOA, (h.bytes.onlyNil hOA (Nat.le_refl _)).up hOA.size⟩ hc ((Blk.new w _ _).alloc _) (by have := Blk.new (w.alloc (.cells #[.pointer (some ⟨p, 0, none⟩)] 53)) 3 #[.int .i64 0]; rw [World.size_alloc] at this; exact this)
  have HT := Lib.hid ht
  clear ht h hOA
  go_enter Try.func24, Try.ntmps24
  go_wp2_with fail
  refine HT.out.mono ?_
  rintro e w1 ⟨⟨v, rfl⟩, hb, hb2, hO⟩
  have k2 : w1.cell? ⟨w.heap.size + 1, 0, none⟩ = some (.int .i64 0) := hb2.cell 0
  have f2 : w1.frozen? ⟨w.heap.size + 1, 0, none⟩ = false := hb2.frozen 0
  have HB := Lib.hid hb
  have HO := Lib.hid hO
  clear hb hb2 hO
  go_wp2_with fail
  refine bodyPost_ret (v := .int .i64 0) (by simp [results, Try.results24, go_sem, k2]) rfl ?_
  refine ⟨rfl, HB.out.far (show p ≠ w.heap.size + 1 by omega) _, ?_⟩
  have hO1 : Only (One p) w w1 := (((Only.refl _ _).alloc _).alloc _).trans HO.out (fun x hx => by rcases hx with hx | hx; exact .inl hx; exact .inr (by omega))
  refine hO1.trans (S' := One (w.heap.size + 1)) ?_ (fun x hx => .inr (by unfold One at hx; omega))
  (repeat' (first | with_reducible exact Only.refl _ _ | with_reducible refine Only.setCell ?_ (Or.inl ?_) _ | with_reducible refine Only.drewN ?_ _ | with_reducible refine Only.drew ?_ | with_reducible refine Only.alloc ?_ _ | (exact rfl)))

end Go.Proofs.Ytbhgaaendekghaa

namespace Go.Proofs.Ytbhgaaendekghaa
open Go.ChangeShapes Go.WideShapes Go.ChangeAt Go.RowKit Go.Deep

theorem RD.onlyNil {w w' : World} {p : Nat} {A : Option Addr} {c : Nat} {l : List UInt8} {pos : Nat} {f : Bool} (h : RD w p A c l pos f) (hO : Only Nil w w') : RD w' p A c l pos f :=
  ⟨h.box.onlyNil hO, (h.bytes.onlyNil hO (Nat.le_refl _)).up hO.size⟩

theorem end_failed (p : Nat) (A : Option Addr) (c : Nat) (w : World) (h : Blk w p 96 #[.slice A 2 c, .int .i64 0, .bool true]) :
    Calls Try.prog 25 #[.pointer (some ⟨p, 0, none⟩)] w fun e w' => e = .returned (.int .i64 4) ∧ Only Nil w w' := by
  have kb : ∀ i, w.cell? ⟨p, i, none⟩ = #[Value.slice A 2 c, .int .i64 0, .bool true][i]? := fun i => h.cell i
  clear h
  go_enter Try.func25, Try.ntmps25
  go_wp2_with fail
  go_quiet (fail)
  go_wp2_with fail
  go_ret
  exact ⟨rfl, by (repeat' (first | with_reducible exact Only.refl _ _ | with_reducible refine Only.setCell ?_ (Or.inl ?_) _ | with_reducible refine Only.drewN ?_ _ | with_reducible refine Only.drew ?_ | with_reducible refine Only.alloc ?_ _ | (fail)))⟩

set_option maxRecDepth 100000 in
set_option maxHeartbeats 2000000 in
theorem awake_any (w : World) : Calls Try.prog 9 #[] w (LawPost w) := by
  have E1 := Lib.hid enc64
  have E2 := Lib.hid encM1
  go_enter Try.func9, Try.ntmps9
  go_wp2_with fail
  refine (read_any (some ⟨w.heap.size, 0, none⟩) 2 [128, 0] _ (Bs.marked w [128, 0] 5 (0, 0) _ rfl) (by decide)).mono ?_
  rintro x w1 ⟨p, A, c, rfl, hp, hR, hc, hO⟩
  have HR := Lib.hid hR
  have hO1 : Only Nil w w1 := ((Only.refl _ _).alloc _).thenNil hO
  have HO1 := Lib.hid hO1
  have HC := Lib.hid hc
  have HP : Hid (w.heap.size ≤ p) := Lib.hid (by rw [World.size_alloc] at hp; omega)
  clear hR hO hO1 hc hp
  go_wp2_with fail
  refine (int_any none 0 w1.heap.size [] 64 w1 (Nat.le_refl _) (World.ownsRow_nil _ _ _ _) (by simp) (by omega)).mono ?_
  rw [E1.out]
  rintro x w2 ⟨A2, c2, rfl, hc2, hown2, hq2, hO2⟩
  have hO2' : Only Nil w1 w2 := hO2.more (fun x hx => by cases hx)
  have hown2 : w2.ownsRow w1.heap.size 5 1 (.slice A2 2 c2) 2 (bcells [128, 1]) := hown2
  have HW2 := Lib.hid hown2
  have HO2 := Lib.hid hO2'
  clear hown2 hO2 hO2' hq2 hc2
  go_wp2_with fail
  refine (same_any A2 (some ⟨w2.heap.size, 0, none⟩) c2 2 [128, 1] [128, 1] _ (((Bs.of_own (l := [128, 1]) HW2.out).1.onlyNil ((Only.refl _ _).alloc _) (Nat.le_refl _)).up ((Only.refl Nil _).alloc _).size) (Bs.marked w2 [128, 1] 5 (0, 0) _ rfl)).mono ?_
  rintro x w3 ⟨rfl, rfl⟩
  have HO3 : Hid (∀ o, Only Nil w (w2.alloc o)) := Lib.hid (fun o => (HO1.out.thenNil HO2.out).alloc o)
  have HR3 : Hid (∀ o, RD (w2.alloc o) p A c [128, 0] 0 false) := Lib.hid (fun o => (HR.out.onlyNil HO2.out).onlyNil ((Only.refl _ _).alloc o))
  go_wp2_with fail
  have hown4 : ((w2.alloc (.cells (bcells [128, 1]).toArray 5)).alloc (.cells #[.int .u8 7] 5)).ownsRow (w2.heap.size + 1) 5 1 (.slice (some ⟨w2.heap.size + 1, 0, none⟩) 1 1) 1 (bcells [7]) := by
    have := World.ownsRow_lit (base := w2.heap.size + 1) (e := 5) (size := 1) (w2.alloc (.cells (bcells [128, 1]).toArray 5)) #[.int .u8 7] 1 (by rw [World.size_alloc]; exact Nat.le_refl _) (by unfold maxLen; omega) rfl
    rw [World.size_alloc] at this
    exact this
  refine (int_any (some ⟨w2.heap.size + 1, 0, none⟩) 1 (w2.heap.size + 1) [7] (-1) _ (by rw [World.size_alloc, World.size_alloc]; omega) hown4 (by simp) (by omega)).mono ?_
  rw [E2.out]
  rintro x w4 ⟨A4, c4, rfl, hc4, hown5, hq4, hO4⟩
  have hO4' : Only Nil w w4 := ((HO3.out _).alloc _).trans hO4 (fun x hx => .inr (by
    have h1 : w2.heap.size + 1 = x := by simpa [Value.ownBlock] using hx
    have := HO1.out.size
    have := HO2.out.size
    omega))
  have hR4 : RD w4 p A c [128, 0] 0 false := by
    have hlt := (HR.out.onlyNil HO2.out).box.lt
    have hb := ((HR3.out (.cells (bcells [128, 1]).toArray 5)).onlyNil ((Only.refl _ _).alloc (.cells #[.int .u8 7] 5)))
    refine ⟨hb.box.only hO4 (fun hx => ?_), ?_⟩
    · have h1 : w2.heap.size + 1 = p := by simpa [Value.ownBlock] using hx
      omega
    · have h2 := (HR.out.onlyNil HO2.out).bytes
      have hOz : Only Nil w2 w4 := (((Only.refl Nil w2).alloc _).alloc _).trans hO4 (fun x hx => .inr (by
        have h1 : w2.heap.size + 1 = x := by simpa [Value.ownBlock] using hx
        omega))
      exact (h2.onlyNil hOz (Nat.le_refl _)).up hOz.size
  have hown5 : w4.ownsRow (w2.heap.size + 1) 5 1 (.slice A4 2 c4) 2 (bcells [7, 1]) := hown5
  have HW5 := Lib.hid hown5
  have HO4 := Lib.hid hO4'
  have HR4 := Lib.hid hR4
  clear hown4 hown5 hO4 hO4' hR4 hq4 hc4
  go_wp2_with fail
  refine (same_any A4 (some ⟨w4.heap.size, 0, none⟩) c4 2 [7, 1] [7, 1] _ (((Bs.of_own (l := [7, 1]) HW5.out).1.onlyNil ((Only.refl _ _).alloc _) (Nat.le_refl _)).up ((Only.refl Nil _).alloc _).size) (Bs.marked w4 [7, 1] 5 (0, 0) _ rfl)).mono ?_
  rintro x w5 ⟨rfl, rfl⟩
  have HO5 : Hid (∀ o, Only Nil w (w4.alloc o)) := Lib.hid (fun o => HO4.out.alloc o)
  have HR5 : Hid (∀ o, RD (w4.alloc o) p A c [128, 0] 0 false) := Lib.hid (fun o => HR4.out.onlyNil ((Only.refl _ _).alloc o))
  go_wp2_with fail
  refine (string_ab _).mono ?_
  rintro x w6 ⟨A6, c6, rfl, hb6, hO6⟩
  have HB6 := Lib.hid hb6
  have HO6 := Lib.hid ((HO5.out _).thenNil hO6)
  have HR6 := Lib.hid ((HR5.out _).onlyNil hO6)
  clear hb6 hO6
  go_wp2_with fail
  refine (same_any A6 (some ⟨w6.heap.size, 0, none⟩) c6 3 [4, 97, 98] [4, 97, 98] _ ((HB6.out.onlyNil ((Only.refl _ _).alloc _) (Nat.le_refl _)).up ((Only.refl Nil _).alloc _).size) (Bs.marked w6 [4, 97, 98] 5 (0, 0) _ rfl)).mono ?_
  rintro x w7 ⟨rfl, rfl⟩
  have HO7 : Hid (∀ o, Only Nil w (w6.alloc o)) := Lib.hid (fun o => HO6.out.alloc o)
  have HR7 : Hid (∀ o, RD (w6.alloc o) p A c [128, 0] 0 false) := Lib.hid (fun o => HR6.out.onlyNil ((Only.refl _ _).alloc o))
  go_wp2_with fail
  refine (rint_bad p A c _ (HR7.out _) HC.out).mono ?_
  rintro x w8 ⟨rfl, hb8, hO8⟩
  have HO8 := Lib.hid ((HO7.out _).trans hO8 (fun x hx => .inr (by have := HP.out; unfold One at hx; omega)))
  have HB8 := Lib.hid hb8
  clear hb8 hO8
  go_wp2_with fail
  refine (end_failed p A c _ HB8.out).mono ?_
  rintro x w9 ⟨rfl, hO9⟩
  go_wp2_with fail
  go_ret
  exact ⟨rfl, HO8.out.thenNil hO9⟩

set_option maxRecDepth 100000 in
theorem open_step {H : Type} {enc : TypeId × Value → H} {W : World} {v : Value} {d : DataW H} {p : List MemPlace} {base : Nat}
    (hv : Value.okWide Try.prog W .any base 83 v) (h : DataW.Trod enc Try.prog W 0 (fun _ => true) true 83 v d p) :
    ∃ k a b : Int, v = .agg #[.int .i64 k, .int .i64 a, .int .i64 b] := by
  obtain ⟨cs, rfl, _⟩ := okWide_struct Try.underlying83 hv
  obtain ⟨fuel, hf⟩ := h
  obtain ⟨ys, n', hn', hy, hlen, hyl, hg⟩ := DataW.trod_struct Try.underlying83 hf
  have e1 : Try.prog.cellsOf 3 = 1 := by kernel_rfl
  have hl : cs.toList.length = 3 := by
    have : cs.toList.length = Try.prog.cellsOf 83 := hlen
    have hc3 : Try.prog.cellsOf 83 = 3 := by kernel_rfl
    omega
  have hyl : ys.length = 3 := hyl
  have one : ∀ k, k < 3 → ∃ v, cs.toList[k]? = some v ∧ List.take 1 (List.drop k cs.toList) = [v] := fun k hk => by
    refine ⟨cs.toList[k]'(by omega), List.getElem?_eq_getElem _, ?_⟩
    rw [List.drop_eq_getElem_cons (by omega)]
    rfl
  have ysome : ∀ k, k < 3 → ∃ y, ys[k]? = some y := fun k hk => ⟨ys[k]'(by omega), List.getElem?_eq_getElem _⟩
  have t0 : DataW.trod enc Try.prog W 0 (fun _ => true) true n' 3 (List.take (Try.prog.cellsOf 3) (List.drop 0 cs.toList)) = ys[0]? := hg 0 _ rfl
  have t1 : DataW.trod enc Try.prog W 0 (fun _ => true) true n' 3 (List.take (Try.prog.cellsOf 3) (List.drop 1 cs.toList)) = ys[1]? := hg 1 _ rfl
  have t2 : DataW.trod enc Try.prog W 0 (fun _ => true) true n' 3 (List.take (Try.prog.cellsOf 3) (List.drop 2 cs.toList)) = ys[2]? := hg 2 _ rfl
  obtain ⟨v0, c0, d0⟩ := one 0 (by omega)
  obtain ⟨v1, c1, d1⟩ := one 1 (by omega)
  obtain ⟨v2, c2, d2⟩ := one 2 (by omega)
  obtain ⟨y0, h0⟩ := ysome 0 (by omega)
  obtain ⟨y1, h1⟩ := ysome 1 (by omega)
  obtain ⟨y2, h2⟩ := ysome 2 (by omega)
  rw [e1, d0, h0] at t0
  rw [e1, d1, h1] at t1
  rw [e1, d2, h2] at t2
  obtain ⟨x0, q0, _, _⟩ := DataW.trod_int Try.underlying3 t0
  obtain ⟨x1, q1, _, _⟩ := DataW.trod_int Try.underlying3 t1
  obtain ⟨x2, q2, _, _⟩ := DataW.trod_int Try.underlying3 t2
  simp at q0 q1 q2
  refine ⟨x0, x1, x2, ?_⟩
  have hcs' : cs.toList = [.int .i64 x0, .int .i64 x1, .int .i64 x2] := by
    apply List.ext_getElem?
    intro i
    match i with
    | 0 => rw [c0, q0]; rfl
    | 1 => rw [c1, q1]; rfl
    | 2 => rw [c2, q2]; rfl
    | n + 3 => rw [List.getElem?_eq_none (by rw [hl]; omega), List.getElem?_eq_none (by show 3 ≤ n + 3; omega)]
  have : cs = #[.int .i64 x0, .int .i64 x1, .int .i64 x2] := by rw [← Array.toList_inj]; exact hcs'
  rw [this]

namespace wireNil
set_option maxRecDepth 100000 in
set_option maxHeartbeats 2000000 in
theorem walk (k a b : Int) (w : World) : Calls Try.prog 8 #[.agg #[.int .i64 k, .int .i64 a, .int .i64 b]] w (LawPost w) := by
  obtain ⟨w2, hw2⟩ : ∃ w2, w2 = w.alloc (.cells #[.int .i64 k, .int .i64 a, .int .i64 b] 83) := ⟨_, rfl⟩
  have HX : Hid (Blk w2 w.heap.size 83 #[.int .i64 k, .int .i64 a, .int .i64 b]) := Lib.hid (by rw [hw2]; exact Blk.new _ _ _)
  have HXO : Hid (Only Nil w w2) := Lib.hid (by rw [hw2]; exact (Only.refl _ _).alloc _)
  go_enter Try.func8, Try.ntmps8
  go_wp2_with fail
  refine (awake_any _).mono ?_
  rintro x u0 ⟨rfl, hO0⟩
  have O0 : Hid (Only Nil w2 u0) := Lib.hid (by rw [hw2]; exact hO0)
  clear hO0 hw2
  go_wp2_with fail
  refine (rfail_nil _).mono ?_
  rintro x u1 ⟨v, rfl, rfl⟩
  have k0 : ∀ i, u1.cell? ⟨w.heap.size, i, none⟩ = #[Value.int .i64 k, .int .i64 a, .int .i64 b][i]? := fun i => (HX.out.onlyNil O0.out).cell i
  go_wp2_with fail
  refine (rint_nil _).mono ?_
  rintro x v1 ⟨rfl, hO1⟩
  have O1 := Lib.hid (O0.out.thenNil hO1)
  have k1 : ∀ i, v1.cell? ⟨w.heap.size, i, none⟩ = #[Value.int .i64 k, .int .i64 a, .int .i64 b][i]? := fun i => (HX.out.onlyNil O1.out).cell i
  clear hO1 k0
  go_wp2_with fail
  refine (rbounded_nil _ _ _).mono ?_
  rintro x v2 ⟨rfl, hO2⟩
  have O2 := Lib.hid (O1.out.thenNil hO2)
  have k2 : ∀ i, v2.cell? ⟨w.heap.size, i, none⟩ = #[Value.int .i64 k, .int .i64 a, .int .i64 b][i]? := fun i => (HX.out.onlyNil O2.out).cell i
  clear hO2 k1
  go_wp2_with fail
  refine (rbool_nil _).mono ?_
  rintro x v3 ⟨rfl, hO3⟩
  have O3 := Lib.hid (O2.out.thenNil hO3)
  have k3 : ∀ i, v3.cell? ⟨w.heap.size, i, none⟩ = #[Value.int .i64 k, .int .i64 a, .int .i64 b][i]? := fun i => (HX.out.onlyNil O3.out).cell i
  clear hO3 k2
  go_wp2_with fail
  refine (rstring_nil _ _).mono ?_
  rintro x v4 ⟨rfl, hO4⟩
  have O4 := Lib.hid (O3.out.thenNil hO4)
  have k4 : ∀ i, v4.cell? ⟨w.heap.size, i, none⟩ = #[Value.int .i64 k, .int .i64 a, .int .i64 b][i]? := fun i => (HX.out.onlyNil O4.out).cell i
  clear hO4 k3
  go_wp2_with fail
  refine (rbytes_nil _ _).mono ?_
  rintro x v5 ⟨rfl, hO5⟩
  have O5 := Lib.hid (O4.out.thenNil hO5)
  have k5 : ∀ i, v5.cell? ⟨w.heap.size, i, none⟩ = #[Value.int .i64 k, .int .i64 a, .int .i64 b][i]? := fun i => (HX.out.onlyNil O5.out).cell i
  clear hO5 k4
  go_wp2_with fail
  refine (rints_nil _ _).mono ?_
  rintro x v6 ⟨rfl, hO6⟩
  have O6 := Lib.hid (O5.out.thenNil hO6)
  have k6 : ∀ i, v6.cell? ⟨w.heap.size, i, none⟩ = #[Value.int .i64 k, .int .i64 a, .int .i64 b][i]? := fun i => (HX.out.onlyNil O6.out).cell i
  clear hO6 k5
  go_wp2_with fail
  refine (rstrings_nil _ _).mono ?_
  rintro x v7 ⟨rfl, hO7⟩
  have O7 := Lib.hid (O6.out.thenNil hO7)
  have k7 : ∀ i, v7.cell? ⟨w.heap.size, i, none⟩ = #[Value.int .i64 k, .int .i64 a, .int .i64 b][i]? := fun i => (HX.out.onlyNil O7.out).cell i
  clear hO7 k6
  go_wp2_with fail
  refine (rmsg_nil _).mono ?_
  rintro x v8 ⟨rfl, hO8⟩
  have O8 := Lib.hid (O7.out.thenNil hO8)
  have k8 : ∀ i, v8.cell? ⟨w.heap.size, i, none⟩ = #[Value.int .i64 k, .int .i64 a, .int .i64 b][i]? := fun i => (HX.out.onlyNil O8.out).cell i
  clear hO8 k7
  go_wp2_with fail
  refine (sameMsg_zero _).mono ?_
  rintro x v9 ⟨rfl, hO9⟩
  have O9 := Lib.hid (O8.out.thenNil hO9)
  have k9 : ∀ i, v9.cell? ⟨w.heap.size, i, none⟩ = #[Value.int .i64 k, .int .i64 a, .int .i64 b][i]? := fun i => (HX.out.onlyNil O9.out).cell i
  clear hO9 k8
  go_wp2_with fail
  refine (reffects_nil _).mono ?_
  rintro x v10 ⟨rfl, hO10⟩
  have O10 := Lib.hid (O9.out.thenNil hO10)
  have k10 : ∀ i, v10.cell? ⟨w.heap.size, i, none⟩ = #[Value.int .i64 k, .int .i64 a, .int .i64 b][i]? := fun i => (HX.out.onlyNil O10.out).cell i
  clear hO10 k9
  go_wp2_with fail
  refine (rentry_nil _).mono ?_
  rintro x v11 ⟨rfl, hO11⟩
  have O11 := Lib.hid (O10.out.thenNil hO11)
  have k11 : ∀ i, v11.cell? ⟨w.heap.size, i, none⟩ = #[Value.int .i64 k, .int .i64 a, .int .i64 b][i]? := fun i => (HX.out.onlyNil O11.out).cell i
  clear hO11 k10
  go_wp2_with fail
  refine (sameEntry_zero _).mono ?_
  rintro x v12 ⟨rfl, hO12⟩
  have O12 := Lib.hid (O11.out.thenNil hO12)
  have k12 : ∀ i, v12.cell? ⟨w.heap.size, i, none⟩ = #[Value.int .i64 k, .int .i64 a, .int .i64 b][i]? := fun i => (HX.out.onlyNil O12.out).cell i
  clear hO12 k11
  go_wp2_with fail
  refine (rleft_nil _).mono ?_
  rintro x z1 ⟨rfl, rfl⟩
  go_wp2_with fail
  refine (rend_nil _).mono ?_
  rintro x z2 ⟨rfl, rfl⟩
  go_wp2_with fail
  go_ret
  exact ⟨rfl, HXO.out.thenNil O12.out⟩

set_option maxRecDepth 100000 in
theorem from_args {H : Type} {enc : TypeId × Value → H} (W : World) (base : Nat) (args : Array Value) (ds : List (DataW H)) (ps : List MemPlace)
    (hval0 : ∀ (j : Nat) t v, Try.f8.params[j]? = some t → args[j]? = some v → Value.okWide Try.prog W .any base t v)
    (hA : DataW.TrodAll enc Try.prog W 0 (fun _ => true) true Try.f8.params.toList args.toList ds ps) (_hlt : ∀ x ∈ ps, x.block < W.heap.size)
    (hsz : (DataW.weightsEach Try.prog Try.f8.params.toList ds).all (· ≤ reachBytes) = true) : Calls Try.prog 8 args W (LawPost W) := by
  have hval := hval0
  rw [Try.params8] at hA hval hsz
  obtain ⟨v0, vs0, d0, ds0, p0, q0, hargs, rfl, rfl, h0, r0⟩ := trodAll_cons hA
  obtain ⟨rfl, rfl, rfl⟩ := trodAll_nil r0
  obtain rfl : args = #[v0] := by cases args; simp_all
  obtain ⟨k, a, b, rfl⟩ := open_step (hval 0 _ v0 rfl rfl) h0
  exact walk k a b W

set_option maxRecDepth 100000 in
theorem over : Rows.wireNilRow.holds Try.pinned (OpenSpec.ofChange Rows.wireNilSpec) :=
  OpenClaim.holds_of_wide 8 Try.f8 rfl rfl rfl rfl rfl rfl rfl ⟨rfl, rfl, rfl, rfl, rfl⟩ rfl rfl rfl rfl rfl (by kernel_rfl) Try.func8 (by kernel_rfl)
    (of_decide_eq_true (by kernel_rfl)) (by unfold Func.isWrapper; first | (rw [if_pos (by decide +kernel)]; kernel_rfl) | (rw [if_neg (by decide +kernel)]; exact ⟨rfl, rfl⟩))
    (fun os started H enc _ => law_lifted (f := 8) (F := Try.f8) (s := Rows.wireNilSpec) os started H enc (by kernel_rfl) Try.func8 rfl rfl (by kernel_rfl) (by kernel_rfl)
      (fun ds hd => by match ds, hd with | [_], _ => rfl)
      (ChangeSpec.witness6 (enc := enc) (C := Try.checked) false ⟨#[], #[.agg #[.int .i64 0, .int .i64 0, .int .i64 0]], []⟩ 8 (by kernel_rfl) (by kernel_rfl) (by kernel_rfl) (by kernel_rfl))
      (fun W base args ds ps hv hA hlt hsz => from_args W base args ds ps hv hA hlt hsz))

/-- The statement. -/
theorem proved : Rows.WireNilSaid := over

end wireNil
end Go.Proofs.Ytbhgaaendekghaa
