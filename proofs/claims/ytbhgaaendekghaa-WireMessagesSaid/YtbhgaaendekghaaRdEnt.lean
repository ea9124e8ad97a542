/-
  The walks of wire.ReadEntry and of whole at entries.
  Conditions: the bytes can be read; they are at most 2 to the power 40.
-/
import Derived.Test.YtbhgaaendekghaaWmEnt2
import Derived.Test.YtbhgaaendekghaaWrE
namespace Go.Proofs.Ytbhgaaendekghaa
open Go.RowKit

/-- The entry that all bytes are, or an error. -/
def readE (l : List UInt8) : En × Int := match decE l with | some (x, n) => if n = l.length then (x, 0) else (zE, 4) | none => (zE, 4)
theorem readE_eq (l : List UInt8) : readE l = if (rEnt l 0 false).2.2 = true ∨ (rEnt l 0 false).2.1 ≠ l.length then (zE, 4) else ((rEnt l 0 false).1, 0) := by
  have e : rEnt l 0 false = match decE l with | some (x, n) => (x, n, false) | none => (zE, 0, true) := by
    unfold rEnt
    rw [if_neg (by simp), List.drop_zero]
    cases decE l with
    | none => rfl
    | some q =>
      obtain ⟨x, n⟩ := q
      simp only [Nat.zero_add]
  rw [e]
  unfold readE
  cases decE l with
  | none => simp
  | some q =>
    obtain ⟨x, n⟩ := q
    dsimp only
    by_cases h : n = l.length
    · rw [if_pos h, if_neg (by simp [h])]
    · rw [if_neg h, if_pos (by simp [h])]
/-- What wire.ReadEntry answers. -/
def RdEPost (r : En × Int) (w : World) (e : Ending) (w' : World) : Prop :=
  ∃ Ax cx, e = .returned (.tuple #[.agg (ecl Ax cx r.1), .int .i64 r.2]) ∧ r.1.data.length ≤ cx ∧ w'.ownsRow w.heap.size 5 1 (.slice Ax r.1.data.length cx) r.1.data.length (bcells r.1.data) ∧ Only Nil w w'

set_option maxRecDepth 100000 in
set_option maxHeartbeats 2000000 in
theorem wholeE_any (A : Option Addr) (c : Nat) (l : List UInt8) (w : World) (h : Bs w w.heap.size A l) (hl : l.length ≤ 1099511627776) :
    Calls Try.prog 54 #[.slice A l.length c, .func (Fn.func 51) #[] #[]] w (RdEPost (readE l) w) := by
  have hR0 := readE_eq l
  obtain ⟨R, hR⟩ : ∃ R, readE l = R := ⟨_, rfl⟩
  rw [hR] at hR0 ⊢
  have HR0 := Lib.hid hR0
  clear hR0 hR
  obtain ⟨N, hN⟩ : ∃ N, l.length = N := ⟨_, rfl⟩
  obtain ⟨w2, hw2⟩ : ∃ w2, w2 = (w.alloc (.cells (ecl none 0 zE) 35)).alloc (.cells (ecl none 0 zE) 35) := ⟨_, rfl⟩
  have hO2 : Only Nil w w2 := by rw [hw2]; exact ((Only.refl _ _).alloc _).alloc _
  have hb1 : Blk w2 w.heap.size 35 (ecl none 0 zE) := by rw [hw2]; exact (Blk.new _ _ _).alloc _
  have hb2 : Blk w2 (w.heap.size + 1) 35 (ecl none 0 zE) := by
    rw [hw2]
    have := Blk.new (w.alloc (.cells (ecl none 0 zE) 35)) 35 (ecl none 0 zE)
    rw [World.size_alloc] at this
    exact this
  have hrd := rread_any A c l w2 (h.onlyNil hO2 (Nat.le_refl _) |>.up hO2.size) hl
  rw [hN] at hrd ⊢
  have HW2 : Hid (w2 = (w.alloc (.cells #[Value.int .i64 0, .int .i64 0, .int .i64 0, .int .i64 0, .int .i64 0, .int .i64 0, .int .i64 0, .slice none 0 0] 35)).alloc (.cells #[Value.int .i64 0, .int .i64 0, .int .i64 0, .int .i64 0, .int .i64 0, .int .i64 0, .int .i64 0, .slice none 0 0] 35)) := Lib.hid hw2
  have HO2 := Lib.hid hO2
  have HB1 := Lib.hid hb1
  have HB2 := Lib.hid hb2
  have HRD := Lib.hid hrd
  have HN := Lib.hid hN
  have HL := Lib.hid hl
  clear hw2 hO2 hb1 hb2 hrd hN hl h
  go_enter Try.func54, Try.ntmps54
  go_upto_region 2 with fail
  rw [← HW2.out]
  go_wp2_with fail
  refine HRD.out.mono ?_
  rintro e w3 ⟨p, Ap, cp, rfl, hp, hrr, hcp, hO3⟩
  have hrp := rEnt_pos (l := l) (pos := 0) false (Nat.zero_le _)
  have hre := rEnt_any p Ap cp l 0 false w3 hrr (Nat.zero_le _) HL.out hcp
  obtain ⟨⟨x, pos, f⟩, hq⟩ : ∃ q, rEnt l 0 false = q := ⟨_, rfl⟩
  rw [hq] at hre hrp
  have hR := HR0.out
  rw [hq] at hR
  dsimp only at hR hrp
  have HRE := Lib.hid hre
  have HO3 := Lib.hid hO3
  have HP := Lib.hid hp
  have HR := Lib.hid hR
  have HRP := Lib.hid hrp
  clear hrr hcp hre hO3 hp hR hrp hq
  go_wp2_with fail
  refine HRE.out.mono ?_
  rintro e w4 ⟨Ax, cx, rfl, hcx, hown, hrr4, hO4⟩
  obtain ⟨kind, task, call, a0, a1, a2, result, data⟩ := x
  obtain ⟨w5, hw5⟩ : ∃ w5, w5 = w4.alloc (.cells #[Value.int .i64 kind, .int .i64 task, .int .i64 call, .int .i64 a0, .int .i64 a1, .int .i64 a2, .int .i64 result, .slice Ax data.length cx] 35) := ⟨_, rfl⟩
  have hO5 : Only Nil w4 w5 := by rw [hw5]; exact (Only.refl _ _).alloc _
  have hend := rEnd_any p Ap cp l pos f w5 (hrr4.onlyNil hO5) HRP.out
  have hO35 : Only Nil w2 w5 := ((HO3.out.any (S := One p)).then_ hO4 |>.thenNil hO5).less (fun x hx => .inr (by unfold One at hx; rw [hx]; exact HP.out))
  have hown5 : w5.ownsRow w.heap.size 5 1 (.slice Ax data.length cx) data.length (bcells data) := own_base (own_onlyNil hown hO5) (by have := HO2.out.size; have := HO3.out.size; omega)
  have hfin : ∀ u v, Only Nil w5 u → Only (One w.heap.size) u v → RdEPost R w (.returned (.tuple #[.agg (if f = true ∨ pos ≠ l.length then #[Value.int .i64 0, .int .i64 0, .int .i64 0, .int .i64 0, .int .i64 0, .int .i64 0, .int .i64 0, .slice none 0 0] else #[Value.int .i64 kind, .int .i64 task, .int .i64 call, .int .i64 a0, .int .i64 a1, .int .i64 a2, .int .i64 result, .slice Ax data.length cx]), .int .i64 (if f = true ∨ pos ≠ l.length then 4 else 0)])) v := fun u v h1 h2 => by
    have h3 : Only Nil w v := ((HO2.out.thenNil hO35).thenNil h1).trans h2 (fun x hx => .inr (by unfold One at hx; omega))
    have hR := HR.out
    by_cases hbad : f = true ∨ pos ≠ l.length
    · rw [if_pos hbad] at hR
      rw [if_pos hbad, if_pos hbad, hR]
      exact ⟨none, 0, rfl, Nat.le_refl _, World.ownsRow_nil _ _ _ _, h3⟩
    · rw [if_neg hbad] at hR
      rw [if_neg hbad, if_neg hbad, hR]
      refine ⟨Ax, cx, rfl, hcx, ?_, h3⟩
      refine own_only (own_onlyNil hown5 h1) h2 (fun q hq hx => ?_)
      have h4 := ownBlock_ge hown hq
      have := HO2.out.size
      have := HO3.out.size
      have := HB1.out.lt
      unfold One at hx
      omega
  have hbz := (HB2.out.onlyNil hO35)
  have hbr := (HB1.out.onlyNil hO35)
  have hbx : Blk w5 w4.heap.size 35 #[Value.int .i64 kind, .int .i64 task, .int .i64 call, .int .i64 a0, .int .i64 a1, .int .i64 a2, .int .i64 result, .slice Ax data.length cx] := by rw [hw5]; exact Blk.new _ _ _
  have HW5 := Lib.hid hw5
  have HFIN := Lib.hid hfin
  have HEND := Lib.hid hend
  have HBZ : Hid (Blk w5 (w.heap.size + 1) 35 #[Value.int .i64 0, .int .i64 0, .int .i64 0, .int .i64 0, .int .i64 0, .int .i64 0, .int .i64 0, .slice none 0 0]) := Lib.hid hbz
  have HBR : Hid (Blk w5 w.heap.size 35 #[Value.int .i64 0, .int .i64 0, .int .i64 0, .int .i64 0, .int .i64 0, .int .i64 0, .int .i64 0, .slice none 0 0]) := Lib.hid hbr
  have HBX := Lib.hid hbx
  clear hw5 hO5 hend hO35 hown5 hfin hbz hbr hbx hcx hown hrr4 hO4
  unfold ecl ER.cells
  dsimp only
  go_wp2_with fail
  rw [← HW5.out]
  refine HEND.out.mono ?_
  rintro e w6 ⟨rfl, hO6⟩
  have hbz := HBZ.out.onlyNil hO6
  have hbr := HBR.out.onlyNil hO6
  have hbx := HBX.out.onlyNil hO6
  have kz : ∀ i, w6.cell? ⟨w.heap.size + 1, i, none⟩ = #[Value.int .i64 0, .int .i64 0, .int .i64 0, .int .i64 0, .int .i64 0, .int .i64 0, .int .i64 0, .slice none 0 0][i]? := fun i => hbz.cell i
  have kr : ∀ i, w6.cell? ⟨w.heap.size, i, none⟩ = #[Value.int .i64 0, .int .i64 0, .int .i64 0, .int .i64 0, .int .i64 0, .int .i64 0, .int .i64 0, .slice none 0 0][i]? := fun i => hbr.cell i
  have fr : ∀ i, w6.frozen? ⟨w.heap.size, i, none⟩ = false := fun i => hbr.frozen i
  have kx : ∀ i, w6.cell? ⟨w4.heap.size, i, none⟩ = #[Value.int .i64 kind, .int .i64 task, .int .i64 call, .int .i64 a0, .int .i64 a1, .int .i64 a2, .int .i64 result, .slice Ax data.length cx][i]? := fun i => hbx.cell i
  have HF6 := Lib.hid (fun v => HFIN.out w6 v hO6)
  clear hbz hbr hbx hO6
  by_cases hbad : f = true ∨ pos ≠ l.length
  · have HB := Lib.hid hbad
    rw [if_pos hbad]
    have HF := HF6.out
    rw [if_pos hbad, if_pos hbad] at HF
    have HF7 := Lib.hid HF
    clear HF hbad HF6
    go_wp2_with fail
    refine bodyPost_ret (v := .tuple #[.agg #[Value.int .i64 0, .int .i64 0, .int .i64 0, .int .i64 0, .int .i64 0, .int .i64 0, .int .i64 0, .slice none 0 0], .int .i64 4]) (by simp [results, Try.results54, go_sem, kr]) rfl ?_
    refine HF7.out _ ?_
    (repeat' (first | with_reducible exact Only.refl _ _ | with_reducible refine Only.setCell ?_ (Or.inl ?_) _ | with_reducible refine Only.drewN ?_ _ | with_reducible refine Only.drew ?_ | with_reducible refine Only.alloc ?_ _ | (exact rfl)))
  · have HB := Lib.hid hbad
    rw [if_neg hbad]
    have HF := HF6.out
    rw [if_neg hbad, if_neg hbad] at HF
    have HF7 := Lib.hid HF
    clear HF hbad HF6
    go_wp2_with fail
    refine bodyPost_ret (v := .tuple #[.agg #[Value.int .i64 kind, .int .i64 task, .int .i64 call, .int .i64 a0, .int .i64 a1, .int .i64 a2, .int .i64 result, .slice Ax data.length cx], .int .i64 0]) (by simp [results, Try.results54, go_sem, kr]) rfl ?_
    refine HF7.out _ ?_
    (repeat' (first | with_reducible exact Only.refl _ _ | with_reducible refine Only.setCell ?_ (Or.inl ?_) _ | with_reducible refine Only.drewN ?_ _ | with_reducible refine Only.drew ?_ | with_reducible refine Only.alloc ?_ _ | (exact rfl)))

end Go.Proofs.Ytbhgaaendekghaa
