/-
  The walks of wire.ReadMsg and of whole at messages, of wire.ReadEffects and of whole at effects.
  Conditions: the bytes can be read; they are at most 2 to the power 40.
-/
import Derived.Test.YtbhgaaendekghaaEfC
import Derived.Test.YtbhgaaendekghaaWrE
namespace Go.Proofs.Ytbhgaaendekghaa
open Go.RowKit

/-- What wire.ReadMsg answers. -/
def RdMPost (r : M × Int) (w : World) (e : Ending) (w' : World) : Prop :=
  ∃ Ax cx, e = .returned (.tuple #[.agg ((mcells Ax cx r.1).toArray), .int .i64 r.2]) ∧ r.1.data.length ≤ cx ∧ w'.ownsRow w.heap.size 5 1 (.slice Ax r.1.data.length cx) r.1.data.length (bcells r.1.data) ∧ Only Nil w w'

set_option maxRecDepth 100000 in
set_option maxHeartbeats 2000000 in
theorem wholeM_any (A : Option Addr) (c : Nat) (l : List UInt8) (w : World) (h : Bs w w.heap.size A l) (hl : l.length ≤ 1099511627776) :
    Calls Try.prog 52 #[.slice A l.length c, .func (Fn.func 49) #[] #[]] w (RdMPost (readMs l) w) := by
  have hR0 := readMs_eq l
  obtain ⟨R, hR⟩ : ∃ R, readMs l = R := ⟨_, rfl⟩
  rw [hR] at hR0 ⊢
  have HR0 := Lib.hid hR0
  clear hR0 hR
  obtain ⟨N, hN⟩ : ∃ N, l.length = N := ⟨_, rfl⟩
  obtain ⟨w2, hw2⟩ : ∃ w2, w2 = (w.alloc (.cells (mcells none 0 zM).toArray 26)).alloc (.cells (mcells none 0 zM).toArray 26) := ⟨_, rfl⟩
  have hO2 : Only Nil w w2 := by rw [hw2]; exact ((Only.refl _ _).alloc _).alloc _
  have hb1 : Blk w2 w.heap.size 26 (mcells none 0 zM).toArray := by rw [hw2]; exact (Blk.new _ _ _).alloc _
  have hb2 : Blk w2 (w.heap.size + 1) 26 (mcells none 0 zM).toArray := by
    rw [hw2]
    have := Blk.new (w.alloc (.cells (mcells none 0 zM).toArray 26)) 26 (mcells none 0 zM).toArray
    rw [World.size_alloc] at this
    exact this
  have hrd := rread_any A c l w2 (h.onlyNil hO2 (Nat.le_refl _) |>.up hO2.size) hl
  rw [hN] at hrd ⊢
  have HW2 : Hid (w2 = (w.alloc (.cells #[Value.int .i64 0, .int .i64 0, .int .i64 0, .int .i64 0, .int .i64 0, .int .i64 0, .int .i64 0, .int .i64 0, .slice none 0 0] 26)).alloc (.cells #[Value.int .i64 0, .int .i64 0, .int .i64 0, .int .i64 0, .int .i64 0, .int .i64 0, .int .i64 0, .int .i64 0, .slice none 0 0] 26)) := Lib.hid hw2
  have HO2 := Lib.hid hO2
  have HB1 := Lib.hid hb1
  have HB2 := Lib.hid hb2
  have HRD := Lib.hid hrd
  have HN := Lib.hid hN
  have HL := Lib.hid hl
  clear hw2 hO2 hb1 hb2 hrd hN hl h
  go_enter Try.func52, Try.ntmps52
  go_upto_region 2 with fail
  rw [← HW2.out]
  go_wp2_with fail
  refine HRD.out.mono ?_
  rintro e w3 ⟨p, Ap, cp, rfl, hp, hrr, hcp, hO3⟩
  have hrp := rMsg_pos (l := l) (pos := 0) false (Nat.zero_le _)
  have hre := rMsg_any p Ap cp l 0 false w3 hrr (Nat.zero_le _) HL.out hcp
  obtain ⟨⟨x, pos, f⟩, hq⟩ : ∃ q, rMsg l 0 false = q := ⟨_, rfl⟩
  rw [hq] at hre hrp
  have hR := HR0.out
  rw [hq] at hR
  dsimp only at hR hrp
  have HRE := Lib.hid hre
  have HO3 := Lib.hid hO3
  have HP := Lib.hid hp
  have HR := Lib.hid hR
  have HRP := Lib.hid hrp
  clear hrr hcp hre hO3 hp hR hrp hq
  go_wp2_with fail
  refine HRE.out.mono ?_
  rintro e w4 ⟨Ax, cx, rfl, hcx, hown, hrr4, hO4⟩
  obtain ⟨src, dst, kind, seq, a0, a1, a2, a3, data⟩ := x
  obtain ⟨w5, hw5⟩ : ∃ w5, w5 = w4.alloc (.cells #[Value.int .i64 src, .int .i64 dst, .int .i64 kind, .int .i64 seq, .int .i64 a0, .int .i64 a1, .int .i64 a2, .int .i64 a3, .slice Ax data.length cx] 26) := ⟨_, rfl⟩
  have hO5 : Only Nil w4 w5 := by rw [hw5]; exact (Only.refl _ _).alloc _
  have hend := rEnd_any p Ap cp l pos f w5 (hrr4.onlyNil hO5) HRP.out
  have hO35 : Only Nil w2 w5 := ((HO3.out.any (S := One p)).then_ hO4 |>.thenNil hO5).less (fun x hx => .inr (by unfold One at hx; rw [hx]; exact HP.out))
  have hown5 : w5.ownsRow w.heap.size 5 1 (.slice Ax data.length cx) data.length (bcells data) := own_base (own_onlyNil hown hO5) (by have := HO2.out.size; have := HO3.out.size; omega)
  have hfin : ∀ u v, Only Nil w5 u → Only (One w.heap.size) u v → RdMPost R w (.returned (.tuple #[.agg (if f = true ∨ pos ≠ l.length then #[Value.int .i64 0, .int .i64 0, .int .i64 0, .int .i64 0, .int .i64 0, .int .i64 0, .int .i64 0, .int .i64 0, .slice none 0 0] else #[Value.int .i64 src, .int .i64 dst, .int .i64 kind, .int .i64 seq, .int .i64 a0, .int .i64 a1, .int .i64 a2, .int .i64 a3, .slice Ax data.length cx]), .int .i64 (if f = true ∨ pos ≠ l.length then 4 else 0)])) v := fun u v h1 h2 => by
    have h3 : Only Nil w v := ((HO2.out.thenNil hO35).thenNil h1).trans h2 (fun x hx => .inr (by unfold One at hx; omega))
    have hR := HR.out
    by_cases hbad : f = true ∨ pos ≠ l.length
    · rw [if_pos hbad] at hR
      rw [if_pos hbad, if_pos hbad, hR]
      exact ⟨none, 0, rfl, Nat.le_refl _, World.ownsRow_nil _ _ _ _, h3⟩
    · rw [if_neg hbad] at hR
      rw [if_neg hbad, if_neg hbad, hR]
      refine ⟨Ax, cx, rfl, hcx, ?_, h3⟩
      refine own_only (own_onlyNil hown5 h1) h2 (fun q hq hx => ?_)
      have h4 := ownBlock_ge hown hq
      have := HO2.out.size
      have := HO3.out.size
      have := HB1.out.lt
      unfold One at hx
      omega
  have hbz := (HB2.out.onlyNil hO35)
  have hbr := (HB1.out.onlyNil hO35)
  have hbx : Blk w5 w4.heap.size 26 #[Value.int .i64 src, .int .i64 dst, .int .i64 kind, .int .i64 seq, .int .i64 a0, .int .i64 a1, .int .i64 a2, .int .i64 a3, .slice Ax data.length cx] := by rw [hw5]; exact Blk.new _ _ _
  have HW5 := Lib.hid hw5
  have HFIN := Lib.hid hfin
  have HEND := Lib.hid hend
  have HBZ : Hid (Blk w5 (w.heap.size + 1) 26 #[Value.int .i64 0, .int .i64 0, .int .i64 0, .int .i64 0, .int .i64 0, .int .i64 0, .int .i64 0, .int .i64 0, .slice none 0 0]) := Lib.hid hbz
  have HBR : Hid (Blk w5 w.heap.size 26 #[Value.int .i64 0, .int .i64 0, .int .i64 0, .int .i64 0, .int .i64 0, .int .i64 0, .int .i64 0, .int .i64 0, .slice none 0 0]) := Lib.hid hbr
  have HBX := Lib.hid hbx
  clear hw5 hO5 hend hO35 hown5 hfin hbz hbr hbx hcx hown hrr4 hO4
  unfold mcells
  dsimp only
  go_wp2_with fail
  rw [← HW5.out]
  refine HEND.out.mono ?_
  rintro e w6 ⟨rfl, hO6⟩
  have hbz := HBZ.out.onlyNil hO6
  have hbr := HBR.out.onlyNil hO6
  have hbx := HBX.out.onlyNil hO6
  have kz : ∀ i, w6.cell? ⟨w.heap.size + 1, i, none⟩ = #[Value.int .i64 0, .int .i64 0, .int .i64 0, .int .i64 0, .int .i64 0, .int .i64 0, .int .i64 0, .int .i64 0, .slice none 0 0][i]? := fun i => hbz.cell i
  have kr : ∀ i, w6.cell? ⟨w.heap.size, i, none⟩ = #[Value.int .i64 0, .int .i64 0, .int .i64 0, .int .i64 0, .int .i64 0, .int .i64 0, .int .i64 0, .int .i64 0, .slice none 0 0][i]? := fun i => hbr.cell i
  have fr : ∀ i, w6.frozen? ⟨w.heap.size, i, none⟩ = false := fun i => hbr.frozen i
  have kx : ∀ i, w6.cell? ⟨w4.heap.size, i, none⟩ = #[Value.int .i64 src, .int .i64 dst, .int .i64 kind, .int .i64 seq, .int .i64 a0, .int .i64 a1, .int .i64 a2, .int .i64 a3, .slice Ax data.length cx][i]? := fun i => hbx.cell i
  have HF6 := Lib.hid (fun v => HFIN.out w6 v hO6)
  clear hbz hbr hbx hO6
  by_cases hbad : f = true ∨ pos ≠ l.length
  · have HB := Lib.hid hbad
    rw [if_pos hbad]
    have HF := HF6.out
    rw [if_pos hbad, if_pos hbad] at HF
    have HF7 := Lib.hid HF
    clear HF hbad HF6
    go_wp2_with fail
    refine bodyPost_ret (v := .tuple #[.agg #[Value.int .i64 0, .int .i64 0, .int .i64 0, .int .i64 0, .int .i64 0, .int .i64 0, .int .i64 0, .int .i64 0, .slice none 0 0], .int .i64 4]) (by simp [results, Try.results52, go_sem, kr]) rfl ?_
    refine HF7.out _ ?_
    (repeat' (first | with_reducible exact Only.refl _ _ | with_reducible refine Only.setCell ?_ (Or.inl ?_) _ | with_reducible refine Only.drewN ?_ _ | with_reducible refine Only.drew ?_ | with_reducible refine Only.alloc ?_ _ | (exact rfl)))
  · have HB := Lib.hid hbad
    rw [if_neg hbad]
    have HF := HF6.out
    rw [if_neg hbad, if_neg hbad] at HF
    have HF7 := Lib.hid HF
    clear HF hbad HF6
    go_wp2_with fail
    refine bodyPost_ret (v := .tuple #[.agg #[Value.int .i64 src, .int .i64 dst, .int .i64 kind, .int .i64 seq, .int .i64 a0, .int .i64 a1, .int .i64 a2, .int .i64 a3, .slice Ax data.length cx], .int .i64 0]) (by simp [results, Try.results52, go_sem, kr]) rfl ?_
    refine HF7.out _ ?_
    (repeat' (first | with_reducible exact Only.refl _ _ | with_reducible refine Only.setCell ?_ (Or.inl ?_) _ | with_reducible refine Only.drewN ?_ _ | with_reducible refine Only.drew ?_ | with_reducible refine Only.alloc ?_ _ | (exact rfl)))

set_option maxRecDepth 100000 in
set_option maxHeartbeats 2000000 in
theorem readMsg_any (A : Option Addr) (c : Nat) (l : List UInt8) (w : World) (h : Bs w w.heap.size A l) (hl : l.length ≤ 1099511627776) :
    Calls Try.prog 10 #[.slice A l.length c] w (RdMPost (readMs l) w) := by
  obtain ⟨N, hN⟩ : ∃ N, l.length = N := ⟨_, rfl⟩
  obtain ⟨w2, hw2⟩ : ∃ w2, w2 = w.alloc (.cells #[Value.int .i64 0, .int .i64 0, .int .i64 0, .int .i64 0, .int .i64 0, .int .i64 0, .int .i64 0, .int .i64 0, .slice none 0 0] 26) := ⟨_, rfl⟩
  have hO2 : Only Nil w w2 := by rw [hw2]; exact (Only.refl _ _).alloc _
  have hb1 : Blk w2 w.heap.size 26 #[Value.int .i64 0, .int .i64 0, .int .i64 0, .int .i64 0, .int .i64 0, .int .i64 0, .int .i64 0, .int .i64 0, .slice none 0 0] := by rw [hw2]; exact Blk.new _ _ _
  have hwh := wholeM_any A c l w2 (h.onlyNil hO2 (Nat.le_refl _) |>.up hO2.size) hl
  obtain ⟨⟨x, q⟩, hR⟩ : ∃ R, readMs l = R := ⟨_, rfl⟩
  rw [hN, hR] at hwh
  rw [hN, hR]
  have HW2 := Lib.hid hw2
  have HO2 := Lib.hid hO2
  have HB1 := Lib.hid hb1
  have HWH := Lib.hid hwh
  clear hw2 hO2 hb1 hwh hN hl h hR
  go_enter Try.func10, Try.ntmps10
  go_upto_region 1 with fail
  rw [← HW2.out]
  go_wp2_with fail
  refine HWH.out.mono ?_
  rintro e w3 ⟨Ax, cx, rfl, hcx, hown, hO3⟩
  have hb3 := HB1.out.onlyNil hO3
  have hfin : ∀ v, Only (One w.heap.size) w3 v → RdMPost (x, q) w (.returned (.tuple #[.agg ((mcells Ax cx x).toArray), .int .i64 q])) v := fun v h2 => by
    have h3 : Only Nil w v := (HO2.out.thenNil hO3).trans h2 (fun x hx => .inr (by unfold One at hx; omega))
    refine ⟨Ax, cx, rfl, hcx, ?_, h3⟩
    refine own_only (own_base hown HO2.out.size) h2 (fun q hq hx => ?_)
    have h4 := ownBlock_ge hown hq
    have := HB1.out.lt
    unfold One at hx
    omega
  have HFIN := Lib.hid hfin
  have kr : ∀ i, w3.cell? ⟨w.heap.size, i, none⟩ = #[Value.int .i64 0, .int .i64 0, .int .i64 0, .int .i64 0, .int .i64 0, .int .i64 0, .int .i64 0, .int .i64 0, .slice none 0 0][i]? := fun i => hb3.cell i
  have fr : ∀ i, w3.frozen? ⟨w.heap.size, i, none⟩ = false := fun i => hb3.frozen i
  clear hb3 hfin hown hO3 hcx
  obtain ⟨src, dst, kind, seq, a0, a1, a2, a3, data⟩ := x
  unfold mcells
  dsimp only
  go_wp2_with fail
  refine bodyPost_ret (v := .tuple #[.agg #[Value.int .i64 src, .int .i64 dst, .int .i64 kind, .int .i64 seq, .int .i64 a0, .int .i64 a1, .int .i64 a2, .int .i64 a3, .slice Ax data.length cx], .int .i64 q]) (by simp [results, Try.results10, go_sem, kr]) rfl ?_
  refine HFIN.out _ ?_
  (repeat' (first | with_reducible exact Only.refl _ _ | with_reducible refine Only.setCell ?_ (Or.inl ?_) _ | with_reducible refine Only.drewN ?_ _ | with_reducible refine Only.drew ?_ | with_reducible refine Only.alloc ?_ _ | (exact rfl)))

/-- What wire.ReadEffects answers. -/
def RdFPost (r : List Ef × Int) (w : World) (e : Ending) (w' : World) : Prop :=
  ∃ Ax cx rs, rs.map FR.x = r.1 ∧ e = .returned (.tuple #[.slice Ax rs.length cx, .int .i64 r.2]) ∧ rs.length ≤ cx ∧ FL w.heap.size w' Ax cx rs ∧ Only Nil w w'

set_option maxRecDepth 100000 in
set_option maxHeartbeats 2000000 in
theorem wholeF_any (A : Option Addr) (c : Nat) (l : List UInt8) (w : World) (h : Bs w w.heap.size A l) (hl : l.length ≤ 1099511627776) :
    Calls Try.prog 53 #[.slice A l.length c, .func (Fn.func 50) #[] #[]] w (RdFPost (readFs l) w) := by
  have hR0 := readFs_eq l
  obtain ⟨R, hR⟩ : ∃ R, readFs l = R := ⟨_, rfl⟩
  rw [hR] at hR0 ⊢
  have HR0 := Lib.hid hR0
  clear hR0 hR
  obtain ⟨N, hN⟩ : ∃ N, l.length = N := ⟨_, rfl⟩
  have hrd := rread_any A c l w h hl
  rw [hN] at hrd ⊢
  have HRD := Lib.hid hrd
  have HN := Lib.hid hN
  have HL := Lib.hid hl
  clear hrd hN hl h
  go_enter Try.func53, Try.ntmps53
  go_wp2_with fail
  refine HRD.out.mono ?_
  rintro e w3 ⟨p, Ap, cp, rfl, hp, hrr, hcp, hO3⟩
  have hrp := rEfs_pos (l := l) (pos := 0) false (Nat.zero_le _)
  have hre := rEfs_any p Ap cp l 0 false w3 hrr (Nat.zero_le _) HL.out hcp
  obtain ⟨⟨xs, pos, f⟩, hq⟩ : ∃ q, rEfs l 0 false = q := ⟨_, rfl⟩
  rw [hq] at hre hrp
  have hR := HR0.out
  rw [hq] at hR
  dsimp only at hR hrp
  have HRE := Lib.hid hre
  have HO3 := Lib.hid hO3
  have HP := Lib.hid hp
  have HR := Lib.hid hR
  have HRP := Lib.hid hrp
  clear hrr hcp hre hO3 hp hR hrp hq
  go_wp2_with fail
  refine HRE.out.mono ?_
  rintro e w4 ⟨rs, Ax, cx, hmap, rfl, hcx, hfl, hrr4, hO4⟩
  dsimp only at hmap hrr4
  have hend := rEnd_any p Ap cp l pos f w4 hrr4 HRP.out
  have hO34 : Only Nil w w4 := ((HO3.out.any (S := One p)).then_ hO4).less (fun x hx => .inr (by unfold One at hx; rw [hx]; exact HP.out))
  obtain ⟨X, hX⟩ : ∃ X, rs.length = X := ⟨_, rfl⟩
  rw [hX]
  have HX := Lib.hid hX
  have HMAP := Lib.hid hmap
  have HCX := Lib.hid hcx
  have HFL := Lib.hid (hfl.base HO3.out.size)
  have HEND := Lib.hid hend
  have HO4 := Lib.hid hO34
  clear hend hO34 hX hmap hcx hfl hrr4 hO4
  go_wp2_with fail
  refine HEND.out.mono ?_
  rintro e w6 ⟨rfl, hO6⟩
  have HO6 := Lib.hid (HO4.out.thenNil hO6)
  have HFL6 := Lib.hid (HFL.out.onlyNil hO6)
  clear hO6
  by_cases hbad : f = true ∨ pos ≠ l.length
  · have hR := HR.out
    rw [if_pos hbad] at hR
    rw [if_pos hbad]
    have HR2 := Lib.hid hR
    clear hR hbad
    go_wp2_with fail
    refine bodyPost_ret (v := .tuple #[.slice none 0 0, .int .i64 4]) (by simp [results, Try.results53, go_sem]) rfl ?_
    rw [HR2.out]
    exact ⟨none, 0, [], rfl, rfl, Nat.le_refl _, FL.nil _ _, HO6.out⟩
  · have hR := HR.out
    rw [if_neg hbad] at hR
    rw [if_neg hbad]
    have HR2 := Lib.hid hR
    clear hR hbad
    go_wp2_with fail
    refine bodyPost_ret (v := .tuple #[.slice Ax X cx, .int .i64 0]) (by simp [results, Try.results53, go_sem]) rfl ?_
    rw [HR2.out]
    exact ⟨Ax, cx, rs, HMAP.out, by rw [HX.out], HCX.out, HFL6.out, HO6.out⟩

set_option maxRecDepth 100000 in
theorem readEffects_any (A : Option Addr) (c : Nat) (l : List UInt8) (w : World) (h : Bs w w.heap.size A l) (hl : l.length ≤ 1099511627776) :
    Calls Try.prog 11 #[.slice A l.length c] w (RdFPost (readFs l) w) := by
  have HW := Lib.hid (wholeF_any A c l w h hl)
  obtain ⟨N, hN⟩ : ∃ N, l.length = N := ⟨_, rfl⟩
  rw [hN] at HW ⊢
  clear h hl hN
  go_enter Try.func11, Try.ntmps11
  go_wp2_with fail
  refine HW.out.mono ?_
  rintro e w1 ⟨Ax, cx, rs, hmap, rfl, hcx, hfl, hO⟩
  obtain ⟨X, hX⟩ : ∃ X, rs.length = X := ⟨_, rfl⟩
  have HQ := Lib.hid (And.intro hmap (And.intro hcx (And.intro hfl hO)))
  have HX := Lib.hid hX
  rw [hX]
  clear hmap hcx hfl hO hX
  go_wp2_with fail
  refine bodyPost_ret (v := .tuple #[.slice Ax X cx, .int .i64 (readFs l).2]) (by simp [results, Try.results11, go_sem]) rfl ?_
  exact ⟨Ax, cx, rs, HQ.out.1, by rw [HX.out], HQ.out.2.1, HQ.out.2.2.1, HQ.out.2.2.2⟩

end Go.Proofs.Ytbhgaaendekghaa
