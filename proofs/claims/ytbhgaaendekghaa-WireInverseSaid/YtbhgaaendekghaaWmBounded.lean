/-
  The walk of wire.Reader's Bounded.
  Conditions: the reader stands within its bytes; they are at most 2 to the power 40.
-/
import Derived.Test.YtbhgaaendekghaaWrN
namespace Go.Proofs.Ytbhgaaendekghaa
open Go.RowKit

set_option maxHeartbeats 1000000 in
/-- try with the closure of Bounded: where the closure answers false, the reader fails at its old place. -/
theorem try_Bounded (v0 v1 v2 v3 : Value) (Q : Bool → World → Prop) (p : Nat) (A : Option Addr) (c : Nat) (l : List UInt8) (pos : Nat) (w : World) (h : RR w p A c l pos false)
    (hcall : Calls Try.prog 68 #[v0, v1, v2, v3] w fun e w' => ∃ b, e = .returned (.bool b) ∧ (∃ pos', RR w' p A c l pos' false) ∧ Q b w') :
    Calls Try.prog 60 #[.pointer (some ⟨p, 0, none⟩), .func (Fn.func 68) #[] #[v0, v1, v2, v3]] w (TryPost Q p A c l pos) := by
  have HC := Lib.hid hcall
  have kb : ∀ i, w.cell? ⟨p, i, none⟩ = #[Value.slice A l.length c, .int .i64 pos, .bool false][i]? := fun i => h.box.cell i
  clear hcall h
  go_enter Try.func60, Try.ntmps60
  go_wp2_with fail
  refine HC.out.mono ?_
  rintro e w1 ⟨b, rfl, ⟨pos', hR⟩, hQ⟩
  have HR := Lib.hid hR
  have HQ := Lib.hid hQ
  have kb1 : ∀ i, w1.cell? ⟨p, i, none⟩ = #[Value.slice A l.length c, .int .i64 pos', .bool false][i]? := fun i => hR.box.cell i
  have fb1 : ∀ i, w1.frozen? ⟨p, i, none⟩ = false := fun i => hR.box.frozen i
  clear hR hQ kb
  cases b
  · go_wp2_with fail
    refine bodyPost_end (v := .tuple #[]) (by simp [results, Try.results60, go_sem]) rfl ?_
    have hO : ∀ u, Only (One p) w1 u → Blk u p 96 #[.slice A l.length c, .int .i64 pos, .bool true] → TryPost Q p A c l pos (.returned (.tuple #[])) u := fun u hO hb =>
      ⟨⟨_, rfl⟩, .inr ⟨w1, HQ.out, HR.out.move hO hb, hO⟩⟩
    refine hO _ ?_ ((HR.out.box.set_ 1 _).set_ 2 _)
    (repeat' (first | with_reducible exact Only.refl _ _ | with_reducible refine Only.setCell ?_ (Or.inl ?_) _ | with_reducible refine Only.drewN ?_ _ | with_reducible refine Only.drew ?_ | with_reducible refine Only.alloc ?_ _ | (exact rfl)))
  · go_wp2_with fail
    refine bodyPost_end (v := .tuple #[]) (by simp [results, Try.results60, go_sem]) rfl ?_
    exact ⟨⟨_, rfl⟩, .inl HQ.out⟩

def BndQ (lo hi : Int) (p g : Nat) (A : Option Addr) (c : Nat) (l : List UInt8) (pos : Nat) (w : World) (b : Bool) (w' : World) : Prop :=
  Only (Two p g) w w' ∧ ((b = true ∧ ∃ z n, dec (l.drop pos) = some (z, n) ∧ (lo ≤ z ∧ z ≤ hi) ∧ RR w' p A c l (pos + n) false ∧ Blk w' g 3 #[.int .i64 z]) ∨
    (b = false ∧ (∀ z n, dec (l.drop pos) = some (z, n) → ¬ (lo ≤ z ∧ z ≤ hi)) ∧ Blk w' g 3 #[.int .i64 0]))

theorem bone_no (z : Int) : NoU8 #[.int .i64 z] := by
  intro i y
  match i with
  | 0 => simp
  | n + 1 => simp

set_option maxRecDepth 100000 in
set_option maxHeartbeats 1000000 in
theorem clo_Bounded (lo hi : Int) (g1 g2 g3 g4 : Nat) (p : Nat) (A : Option Addr) (c : Nat) (l : List UInt8) (pos : Nat) (w : World) (h : RR w p A c l pos false) (hp : pos ≤ l.length) (hl : l.length ≤ 1099511627776)
    (b1 : Blk w g1 53 #[.pointer (some ⟨p, 0, none⟩)]) (b2 : Blk w g2 3 #[.int .i64 lo]) (b3 : Blk w g3 3 #[.int .i64 hi]) (b4 : Blk w g4 3 #[.int .i64 0]) :
    Calls Try.prog 68 #[.pointer (some ⟨g1, 0, none⟩), .pointer (some ⟨g2, 0, none⟩), .pointer (some ⟨g3, 0, none⟩), .pointer (some ⟨g4, 0, none⟩)] w fun e w' => ∃ b, e = .returned (.bool b) ∧ (∃ pos', RR w' p A c l pos' false) ∧ BndQ lo hi p g4 A c l pos w b w' := by
  have n4 : g4 ≠ p := b4.ne_ h.box (by decide)
  have HI := Lib.hid (bounded_any lo hi p A c l pos false w h hp hl)
  have B4 := Lib.hid b4
  have k1 : w.cell? ⟨g1, 0, none⟩ = some (.pointer (some ⟨p, 0, none⟩)) := b1.cell 0
  have k2 : w.cell? ⟨g2, 0, none⟩ = some (.int .i64 lo) := b2.cell 0
  have k3 : w.cell? ⟨g3, 0, none⟩ = some (.int .i64 hi) := b3.cell 0
  clear h hp hl b1 b2 b3 b4
  go_enter Try.func68, Try.ntmps68
  go_wp2_with fail
  refine HI.out.mono ?_
  rintro e w1 ⟨pos', hR, hp', hO, hcase⟩
  have hb4 := B4.out.only hO n4
  have k4 : w1.cell? ⟨g4, 0, none⟩ = some (.int .i64 0) := hb4.cell 0
  have f4 : w1.frozen? ⟨g4, 0, none⟩ = false := hb4.frozen 0
  have HB4 := Lib.hid hb4
  have HR := Lib.hid hR
  have HO := Lib.hid hO
  clear hb4 hR hO hp' k1 k2 k3
  rcases hcase with ⟨z, n, hd, rfl, rfl⟩ | ⟨hd, rfl⟩
  · have HD := Lib.hid hd
    clear hd
    by_cases hz : lo ≤ z ∧ z ≤ hi
    · rw [decide_eq_true hz]
      have HZ := Lib.hid hz
      clear hz
      go_wp2_with fail
      go_ret
      have hfin : ∀ u, Only (One g4) w1 u → Blk u g4 3 #[.int .i64 z] → ∃ b, Ending.returned (Value.bool true) = .returned (.bool b) ∧ (∃ pos', RR u p A c l pos' false) ∧ BndQ lo hi p g4 A c l pos w b u := fun u hS hb => by
        have hR := HR.out.far HB4.out (bone_no _) n4.symm hS
        exact ⟨true, rfl, ⟨_, hR⟩, (HO.out.more (fun x hx => .inl hx)).then_ (hS.more (fun x hx => .inr hx)), .inl ⟨rfl, z, n, HD.out, HZ.out, hR, hb⟩⟩
      refine hfin _ ?_ (HB4.out.set_ 0 _)
      (repeat' (first | with_reducible exact Only.refl _ _ | with_reducible refine Only.setCell ?_ (Or.inl ?_) _ | with_reducible refine Only.drewN ?_ _ | with_reducible refine Only.drew ?_ | with_reducible refine Only.alloc ?_ _ | (exact rfl)))
    · rw [decide_eq_false hz]
      have HZ := Lib.hid hz
      clear hz
      go_wp2_with fail
      go_ret
      exact ⟨false, rfl, ⟨_, HR.out⟩, HO.out.more (fun x hx => .inl hx), .inr ⟨rfl, (fun z' n' hd' => by rw [HD.out] at hd'; injection hd' with hd'; injection hd' with e1 _; rw [← e1]; exact HZ.out), HB4.out⟩⟩
  · have HD := Lib.hid hd
    clear hd
    go_wp2_with fail
    go_ret
    exact ⟨false, rfl, ⟨_, HR.out⟩, HO.out.more (fun x hx => .inl hx), .inr ⟨rfl, (fun z' n' hd' => by rw [HD.out] at hd'; cases hd'), HB4.out⟩⟩

/-- What the method answers. -/
def RBndPost (r : Int × Nat × Bool) (p : Nat) (A : Option Addr) (c : Nat) (l : List UInt8) (w : World) (e : Ending) (w' : World) : Prop :=
  e = .returned (.int .i64 r.1) ∧ RR w' p A c l r.2.1 r.2.2 ∧ Only (One p) w w'

set_option maxRecDepth 100000 in
set_option maxHeartbeats 1000000 in
theorem rBnd_any (lo hi : Int) (p : Nat) (A : Option Addr) (c : Nat) (l : List UInt8) (pos : Nat) (f : Bool) (w : World) (h : RR w p A c l pos f) (hp : pos ≤ l.length) (hl : l.length ≤ 1099511627776) :
    Calls Try.prog 38 #[.pointer (some ⟨p, 0, none⟩), .int .i64 lo, .int .i64 hi] w (RBndPost (rBnd lo hi l pos f) p A c l w) := by
  obtain ⟨w2, hw2⟩ : ∃ w2, w2 = (((w.alloc (.cells #[.pointer (some ⟨p, 0, none⟩)] 53)).alloc (.cells #[.int .i64 lo] 3)).alloc (.cells #[.int .i64 hi] 3)).alloc (.cells #[.int .i64 0] 3) := ⟨_, rfl⟩
  have hO2 : Only Nil w w2 := by rw [hw2]; exact ((((Only.refl _ _).alloc _).alloc _).alloc _).alloc _
  have hb1 : Blk w2 w.heap.size 53 #[.pointer (some ⟨p, 0, none⟩)] := by rw [hw2]; exact (((Blk.new _ _ _).alloc _).alloc _).alloc _
  have hb2 : Blk w2 (w.heap.size + 1) 3 #[.int .i64 lo] := by
    rw [hw2]
    have := ((Blk.new (w.alloc (.cells #[.pointer (some ⟨p, 0, none⟩)] 53)) 3 #[.int .i64 lo]).alloc (.cells #[.int .i64 hi] 3)).alloc (.cells #[.int .i64 0] 3)
    simp only [World.size_alloc] at this
    exact this
  have hb3 : Blk w2 (w.heap.size + 1 + 1) 3 #[.int .i64 hi] := by
    rw [hw2]
    have := (Blk.new ((w.alloc (.cells #[.pointer (some ⟨p, 0, none⟩)] 53)).alloc (.cells #[.int .i64 lo] 3)) 3 #[.int .i64 hi]).alloc (.cells #[.int .i64 0] 3)
    simp only [World.size_alloc] at this
    exact this
  have hb4 : Blk w2 (w.heap.size + 1 + 1 + 1) 3 #[.int .i64 0] := by
    rw [hw2]
    have := Blk.new (((w.alloc (.cells #[.pointer (some ⟨p, 0, none⟩)] 53)).alloc (.cells #[.int .i64 lo] 3)).alloc (.cells #[.int .i64 hi] 3)) 3 #[.int .i64 0]
    simp only [World.size_alloc] at this
    exact this
  have hpw := h.box.lt
  have hR2 := h.onlyNil hO2
  have HB4 := Lib.hid hb4
  have HO2 := Lib.hid hO2
  have HR2 := Lib.hid hR2
  obtain ⟨r, hr⟩ : ∃ r, rBnd lo hi l pos f = r := ⟨_, rfl⟩
  rw [hr]
  have HRR := Lib.hid hr
  cases f
  · have ht := try_Bounded _ _ _ _ _ p A c l pos w2 hR2 (clo_Bounded lo hi w.heap.size (w.heap.size + 1) (w.heap.size + 1 + 1) (w.heap.size + 1 + 1 + 1) p A c l pos w2 hR2 hp hl hb1 hb2 hb3 hb4)
    have HT := Lib.hid ht
    clear ht hR2 hb1 hb2 hb3 hb4 hO2 h hp hl hr
    go_enter Try.func38, Try.ntmps38
    go_wp2_with fail
    rw [← hw2]
    clear hw2
    refine HT.out.mono ?_
    rintro e w1 ⟨⟨v, rfl⟩, hq⟩
    have hfin : ∃ z, r.1 = z ∧ Blk w1 (w.heap.size + 1 + 1 + 1) 3 #[.int .i64 z] ∧ RR w1 p A c l r.2.1 r.2.2 ∧ Only (One p) w w1 := by
      rw [← HRR.out]
      unfold rBnd
      rcases hq with ⟨hO, ⟨_, z, n, hd, hz, hR, hb⟩ | ⟨h1, _⟩⟩ | ⟨u, ⟨hO, ⟨h1, _⟩ | ⟨_, hd, hb⟩⟩, hR, hOu⟩
      · rw [if_neg (by simp), hd]
        dsimp only
        rw [if_pos hz]
        exact ⟨z, rfl, hb, hR, HO2.out.any.trans hO (fun x hx => by rcases hx with hx | hx; exact .inl hx; exact .inr (by omega))⟩
      · cases h1
      · cases h1
      · have hO3 := (HO2.out.any.trans (S := One p) hO (fun x hx => by rcases hx with hx | hx; exact .inl hx; exact .inr (by omega))).then_ hOu
        have hb3 := hb.only hOu (by unfold One; omega)
        rw [if_neg (by simp)]
        cases hdd : dec (l.drop pos) with
        | none => exact ⟨0, rfl, hb3, hR, hO3⟩
        | some q =>
          obtain ⟨z, n⟩ := q
          dsimp only
          rw [if_neg (hd z n hdd)]
          exact ⟨0, rfl, hb3, hR, hO3⟩
    obtain ⟨z, hz, hb, hR, hO⟩ := hfin
    have k2 : w1.cell? ⟨w.heap.size + 1 + 1 + 1, 0, none⟩ = some (.int .i64 z) := hb.cell 0
    have f2 : w1.frozen? ⟨w.heap.size + 1 + 1 + 1, 0, none⟩ = false := hb.frozen 0
    have HZ := Lib.hid hz
    have HB := Lib.hid hb
    have HR := Lib.hid hR
    have HO := Lib.hid hO
    clear hz hb hR hO hq
    go_wp2_with fail
    refine bodyPost_ret (v := .int .i64 z) (by simp [results, Try.results38, go_sem, k2]) rfl ?_
    have hfin : ∀ u, Only (One (w.heap.size + 1 + 1 + 1)) w1 u → RBndPost r p A c l w (.returned (.int .i64 z)) u := fun u hS =>
      ⟨by rw [HZ.out], HR.out.far HB.out (bone_no _) (by omega) hS, HO.out.trans hS (fun x hx => .inr (by unfold One at hx; omega))⟩
    refine hfin _ ?_
    (repeat' (first | with_reducible exact Only.refl _ _ | with_reducible refine Only.setCell ?_ (Or.inl ?_) _ | with_reducible refine Only.drewN ?_ _ | with_reducible refine Only.drew ?_ | with_reducible refine Only.alloc ?_ _ | (exact rfl)))
  · have hr1 : r = (0, pos, true) := by rw [← hr]; rfl
    have HR1 := Lib.hid hr1
    have HT := Lib.hid (fun F => try_failed F p A c l pos w2 hR2)
    clear hR2 hb1 hb2 hb3 hb4 hO2 h hp hl hr hr1
    go_enter Try.func38, Try.ntmps38
    go_wp2_with fail
    rw [← hw2]
    clear hw2
    refine (HT.out _).mono ?_
    rintro e w1 ⟨⟨v, rfl⟩, rfl⟩
    have k2 : w1.cell? ⟨w.heap.size + 1 + 1 + 1, 0, none⟩ = some (.int .i64 0) := HB4.out.cell 0
    have f2 : w1.frozen? ⟨w.heap.size + 1 + 1 + 1, 0, none⟩ = false := HB4.out.frozen 0
    go_wp2_with fail
    refine bodyPost_ret (v := .int .i64 0) (by simp [results, Try.results38, go_sem, k2]) rfl ?_
    have hfin : ∀ u, Only (One (w.heap.size + 1 + 1 + 1)) w1 u → RBndPost r p A c l w (.returned (.int .i64 0)) u := fun u hS => by
      rw [HR1.out]
      exact ⟨rfl, HR2.out.far HB4.out (bone_no _) (by omega) hS, HO2.out.any.trans hS (fun x hx => .inr (by unfold One at hx; omega))⟩
    refine hfin _ ?_
    (repeat' (first | with_reducible exact Only.refl _ _ | with_reducible refine Only.setCell ?_ (Or.inl ?_) _ | with_reducible refine Only.drewN ?_ _ | with_reducible refine Only.drew ?_ | with_reducible refine Only.alloc ?_ _ | (exact rfl)))

end Go.Proofs.Ytbhgaaendekghaa
