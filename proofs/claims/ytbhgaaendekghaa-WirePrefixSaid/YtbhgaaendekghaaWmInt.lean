/-
  The walk of wire.Reader's Int.
  Conditions: the reader stands within its bytes; they are at most 2 to the power 40.
-/
import Derived.Test.YtbhgaaendekghaaWrN
namespace Go.Proofs.Ytbhgaaendekghaa
open Go.RowKit

set_option maxHeartbeats 1000000 in
/-- try with the closure of Int: where the closure answers false, the reader fails at its old place. -/
theorem try_Int (v0 v1 : Value) (Q : Bool → World → Prop) (p : Nat) (A : Option Addr) (c : Nat) (l : List UInt8) (pos : Nat) (w : World) (h : RR w p A c l pos false)
    (hcall : Calls Try.prog 61 #[v0, v1] w fun e w' => ∃ b, e = .returned (.bool b) ∧ (∃ pos', RR w' p A c l pos' false) ∧ Q b w') :
    Calls Try.prog 60 #[.pointer (some ⟨p, 0, none⟩), .func (Fn.func 61) #[] #[v0, v1]] w (TryPost Q p A c l pos) := by
  have HC := Lib.hid hcall
  have kb : ∀ i, w.cell? ⟨p, i, none⟩ = #[Value.slice A l.length c, .int .i64 pos, .bool false][i]? := fun i => h.box.cell i
  clear hcall h
  go_enter Try.func60, Try.ntmps60
  go_wp2_with fail
  refine HC.out.mono ?_
  rintro e w1 ⟨b, rfl, ⟨pos', hR⟩, hQ⟩
  have HR := Lib.hid hR
  have HQ := Lib.hid hQ
  have kb1 : ∀ i, w1.cell? ⟨p, i, none⟩ = #[Value.slice A l.length c, .int .i64 pos', .bool false][i]? := fun i => hR.box.cell i
  have fb1 : ∀ i, w1.frozen? ⟨p, i, none⟩ = false := fun i => hR.box.frozen i
  clear hR hQ kb
  cases b
  · go_wp2_with fail
    refine bodyPost_end (v := .tuple #[]) (by simp [results, Try.results60, go_sem]) rfl ?_
    have hO : ∀ u, Only (One p) w1 u → Blk u p 96 #[.slice A l.length c, .int .i64 pos, .bool true] → TryPost Q p A c l pos (.returned (.tuple #[])) u := fun u hO hb =>
      ⟨⟨_, rfl⟩, .inr ⟨w1, HQ.out, HR.out.move hO hb, hO⟩⟩
    refine hO _ ?_ ((HR.out.box.set_ 1 _).set_ 2 _)
    (repeat' (first | with_reducible exact Only.refl _ _ | with_reducible refine Only.setCell ?_ (Or.inl ?_) _ | with_reducible refine Only.drewN ?_ _ | with_reducible refine Only.drew ?_ | with_reducible refine Only.alloc ?_ _ | (exact rfl)))
  · go_wp2_with fail
    refine bodyPost_end (v := .tuple #[]) (by simp [results, Try.results60, go_sem]) rfl ?_
    exact ⟨⟨_, rfl⟩, .inl HQ.out⟩

def IntQ (p g : Nat) (A : Option Addr) (c : Nat) (l : List UInt8) (pos : Nat) (w : World) (b : Bool) (w' : World) : Prop :=
  Only (Two p g) w w' ∧ ((b = true ∧ ∃ z n, dec (l.drop pos) = some (z, n) ∧ RR w' p A c l (pos + n) false ∧ Blk w' g 3 #[.int .i64 z]) ∨ (b = false ∧ dec (l.drop pos) = none ∧ Blk w' g 3 #[.int .i64 0]))

theorem one_no (z : Int) : NoU8 #[.int .i64 z] := by
  intro i y
  match i with
  | 0 => simp
  | n + 1 => simp

set_option maxRecDepth 100000 in
set_option maxHeartbeats 1000000 in
theorem clo_Int (g1 g2 : Nat) (z0 : Int) (p : Nat) (A : Option Addr) (c : Nat) (l : List UInt8) (pos : Nat) (w : World) (h : RR w p A c l pos false) (hp : pos ≤ l.length) (hl : l.length ≤ 1099511627776)
    (b1 : Blk w g1 53 #[.pointer (some ⟨p, 0, none⟩)]) (b2 : Blk w g2 3 #[.int .i64 z0]) :
    Calls Try.prog 61 #[.pointer (some ⟨g1, 0, none⟩), .pointer (some ⟨g2, 0, none⟩)] w fun e w' => ∃ b, e = .returned (.bool b) ∧ (∃ pos', RR w' p A c l pos' false) ∧ IntQ p g2 A c l pos w b w' := by
  have n2 : g2 ≠ p := b2.ne_ h.box (by decide)
  have HI := Lib.hid (rdint_any p A c l pos false w h hp hl)
  have B2 := Lib.hid b2
  have k1 : w.cell? ⟨g1, 0, none⟩ = some (.pointer (some ⟨p, 0, none⟩)) := b1.cell 0
  clear h hp hl b1 b2
  go_enter Try.func61, Try.ntmps61
  go_wp2_with fail
  refine HI.out.mono ?_
  rintro e w1 ⟨pos', hR, hp', hO, hcase⟩
  have hb2 := B2.out.only hO n2
  have k2 : w1.cell? ⟨g2, 0, none⟩ = some (.int .i64 z0) := hb2.cell 0
  have f2 : w1.frozen? ⟨g2, 0, none⟩ = false := hb2.frozen 0
  have HB2 := Lib.hid hb2
  have HR := Lib.hid hR
  have HO := Lib.hid hO
  clear hb2 hR hO hp'
  rcases hcase with ⟨z, n, hd, rfl, rfl⟩ | ⟨hd, rfl⟩
  · have HD := Lib.hid hd
    clear hd
    go_wp2_with fail
    go_ret
    have hfin : ∀ u, Only (One g2) w1 u → Blk u g2 3 #[.int .i64 z] → ∃ b, Ending.returned (Value.bool true) = .returned (.bool b) ∧ (∃ pos', RR u p A c l pos' false) ∧ IntQ p g2 A c l pos w b u := fun u hS hb => by
      have hR := HR.out.far HB2.out (one_no _) n2.symm hS
      exact ⟨true, rfl, ⟨_, hR⟩, (HO.out.more (fun x hx => .inl hx)).then_ (hS.more (fun x hx => .inr hx)), .inl ⟨rfl, z, n, HD.out, hR, hb⟩⟩
    refine hfin _ ?_ (HB2.out.set_ 0 _)
    (repeat' (first | with_reducible exact Only.refl _ _ | with_reducible refine Only.setCell ?_ (Or.inl ?_) _ | with_reducible refine Only.drewN ?_ _ | with_reducible refine Only.drew ?_ | with_reducible refine Only.alloc ?_ _ | (exact rfl)))
  · have HD := Lib.hid hd
    clear hd
    go_wp2_with fail
    go_ret
    have hfin : ∀ u, Only (One g2) w1 u → Blk u g2 3 #[.int .i64 0] → ∃ b, Ending.returned (Value.bool false) = .returned (.bool b) ∧ (∃ pos', RR u p A c l pos' false) ∧ IntQ p g2 A c l pos w b u := fun u hS hb => by
      have hR := HR.out.far HB2.out (one_no _) n2.symm hS
      exact ⟨false, rfl, ⟨_, hR⟩, (HO.out.more (fun x hx => .inl hx)).then_ (hS.more (fun x hx => .inr hx)), .inr ⟨rfl, HD.out, hb⟩⟩
    refine hfin _ ?_ (HB2.out.set_ 0 _)
    (repeat' (first | with_reducible exact Only.refl _ _ | with_reducible refine Only.setCell ?_ (Or.inl ?_) _ | with_reducible refine Only.drewN ?_ _ | with_reducible refine Only.drew ?_ | with_reducible refine Only.alloc ?_ _ | (exact rfl)))

/-- What the method answers. -/
def RIntPost (r : Int × Nat × Bool) (p : Nat) (A : Option Addr) (c : Nat) (l : List UInt8) (w : World) (e : Ending) (w' : World) : Prop :=
  e = .returned (.int .i64 r.1) ∧ RR w' p A c l r.2.1 r.2.2 ∧ Only (One p) w w'

set_option maxRecDepth 100000 in
set_option maxHeartbeats 1000000 in
theorem rInt_any (p : Nat) (A : Option Addr) (c : Nat) (l : List UInt8) (pos : Nat) (f : Bool) (w : World) (h : RR w p A c l pos f) (hp : pos ≤ l.length) (hl : l.length ≤ 1099511627776) :
    Calls Try.prog 24 #[.pointer (some ⟨p, 0, none⟩)] w (RIntPost (rInt l pos f) p A c l w) := by
  obtain ⟨w2, hw2⟩ : ∃ w2, w2 = (w.alloc (.cells #[.pointer (some ⟨p, 0, none⟩)] 53)).alloc (.cells #[.int .i64 0] 3) := ⟨_, rfl⟩
  have hO2 : Only Nil w w2 := by rw [hw2]; exact ((Only.refl _ _).alloc _).alloc _
  have hb1 : Blk w2 w.heap.size 53 #[.pointer (some ⟨p, 0, none⟩)] := by rw [hw2]; exact (Blk.new _ _ _).alloc _
  have hb2 : Blk w2 (w.heap.size + 1) 3 #[.int .i64 0] := by
    rw [hw2]
    have := Blk.new (w.alloc (.cells #[.pointer (some ⟨p, 0, none⟩)] 53)) 3 #[.int .i64 0]
    rw [World.size_alloc] at this
    exact this
  have hpw := h.box.lt
  have hR2 := h.onlyNil hO2
  have HB2 := Lib.hid hb2
  have HO2 := Lib.hid hO2
  have HR2 := Lib.hid hR2
  obtain ⟨r, hr⟩ : ∃ r, rInt l pos f = r := ⟨_, rfl⟩
  rw [hr]
  have HRR := Lib.hid hr
  cases f
  · have ht := try_Int _ _ _ p A c l pos w2 hR2 (clo_Int w.heap.size (w.heap.size + 1) 0 p A c l pos w2 hR2 hp hl hb1 hb2)
    have HT := Lib.hid ht
    clear ht hR2 hb1 hb2 hO2 h hp hl hr
    go_enter Try.func24, Try.ntmps24
    go_wp2_with fail
    rw [← hw2]
    clear hw2
    refine HT.out.mono ?_
    rintro e w1 ⟨⟨v, rfl⟩, hq⟩
    have hfin : ∃ z, r.1 = z ∧ Blk w1 (w.heap.size + 1) 3 #[.int .i64 z] ∧ RR w1 p A c l r.2.1 r.2.2 ∧ Only (One p) w w1 := by
      rw [← HRR.out]
      unfold rInt
      rcases hq with ⟨hO, ⟨_, z, n, hd, hR, hb⟩ | ⟨h1, _⟩⟩ | ⟨u, ⟨hO, ⟨h1, _⟩ | ⟨_, hd, hb⟩⟩, hR, hOu⟩
      · rw [if_neg (by simp), hd]
        exact ⟨z, rfl, hb, hR, HO2.out.any.trans hO (fun x hx => by rcases hx with hx | hx; exact .inl hx; exact .inr (by omega))⟩
      · cases h1
      · cases h1
      · rw [if_neg (by simp), hd]
        exact ⟨0, rfl, hb.only hOu (by unfold One; omega), hR, (HO2.out.any.trans hO (fun x hx => by rcases hx with hx | hx; exact .inl hx; exact .inr (by omega))).then_ hOu⟩
    obtain ⟨z, hz, hb, hR, hO⟩ := hfin
    have k2 : w1.cell? ⟨w.heap.size + 1, 0, none⟩ = some (.int .i64 z) := hb.cell 0
    have f2 : w1.frozen? ⟨w.heap.size + 1, 0, none⟩ = false := hb.frozen 0
    have HZ := Lib.hid hz
    have HB := Lib.hid hb
    have HR := Lib.hid hR
    have HO := Lib.hid hO
    clear hz hb hR hO hq
    go_wp2_with fail
    refine bodyPost_ret (v := .int .i64 z) (by simp [results, Try.results24, go_sem, k2]) rfl ?_
    have hfin : ∀ u, Only (One (w.heap.size + 1)) w1 u → RIntPost r p A c l w (.returned (.int .i64 z)) u := fun u hS =>
      ⟨by rw [HZ.out], HR.out.far HB.out (one_no _) (by omega) hS, HO.out.trans hS (fun x hx => .inr (by unfold One at hx; omega))⟩
    refine hfin _ ?_
    (repeat' (first | with_reducible exact Only.refl _ _ | with_reducible refine Only.setCell ?_ (Or.inl ?_) _ | with_reducible refine Only.drewN ?_ _ | with_reducible refine Only.drew ?_ | with_reducible refine Only.alloc ?_ _ | (exact rfl)))
  · have hr1 : r = (0, pos, true) := by rw [← hr]; rfl
    have HR1 := Lib.hid hr1
    have HT := Lib.hid (fun F => try_failed F p A c l pos w2 hR2)
    clear hR2 hb1 hb2 hO2 h hp hl hr hr1
    go_enter Try.func24, Try.ntmps24
    go_wp2_with fail
    rw [← hw2]
    clear hw2
    refine (HT.out _).mono ?_
    rintro e w1 ⟨⟨v, rfl⟩, rfl⟩
    have k2 : w1.cell? ⟨w.heap.size + 1, 0, none⟩ = some (.int .i64 0) := HB2.out.cell 0
    have f2 : w1.frozen? ⟨w.heap.size + 1, 0, none⟩ = false := HB2.out.frozen 0
    go_wp2_with fail
    refine bodyPost_ret (v := .int .i64 0) (by simp [results, Try.results24, go_sem, k2]) rfl ?_
    have hfin : ∀ u, Only (One (w.heap.size + 1)) w1 u → RIntPost r p A c l w (.returned (.int .i64 0)) u := fun u hS => by
      rw [HR1.out]
      exact ⟨rfl, HR2.out.far HB2.out (one_no _) (by omega) hS, HO2.out.any.trans hS (fun x hx => .inr (by unfold One at hx; omega))⟩
    refine hfin _ ?_
    (repeat' (first | with_reducible exact Only.refl _ _ | with_reducible refine Only.setCell ?_ (Or.inl ?_) _ | with_reducible refine Only.drewN ?_ _ | with_reducible refine Only.drew ?_ | with_reducible refine Only.alloc ?_ _ | (exact rfl)))

end Go.Proofs.Ytbhgaaendekghaa
