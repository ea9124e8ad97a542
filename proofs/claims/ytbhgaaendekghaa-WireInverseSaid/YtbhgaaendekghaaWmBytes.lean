/-
  The walk of wire.Reader's Bytes.
  Conditions: the reader stands within its bytes; they are at most 2 to the power 40.
-/
import Derived.Test.YtbhgaaendekghaaWrN
namespace Go.Proofs.Ytbhgaaendekghaa
open Go.RowKit

set_option maxHeartbeats 1000000 in
/-- try with the closure of Bytes: where the closure answers false, the reader fails at its old place. -/
theorem try_Bytes (v0 v1 v2 : Value) (Q : Bool → World → Prop) (p : Nat) (A : Option Addr) (c : Nat) (l : List UInt8) (pos : Nat) (w : World) (h : RR w p A c l pos false)
    (hcall : Calls Try.prog 70 #[v0, v1, v2] w fun e w' => ∃ b, e = .returned (.bool b) ∧ (∃ pos', RR w' p A c l pos' false) ∧ Q b w') :
    Calls Try.prog 60 #[.pointer (some ⟨p, 0, none⟩), .func (Fn.func 70) #[] #[v0, v1, v2]] w (TryPost Q p A c l pos) := by
  have HC := Lib.hid hcall
  have kb : ∀ i, w.cell? ⟨p, i, none⟩ = #[Value.slice A l.length c, .int .i64 pos, .bool false][i]? := fun i => h.box.cell i
  clear hcall h
  go_enter Try.func60, Try.ntmps60
  go_wp2_with fail
  refine HC.out.mono ?_
  rintro e w1 ⟨b, rfl, ⟨pos', hR⟩, hQ⟩
  have HR := Lib.hid hR
  have HQ := Lib.hid hQ
  have kb1 : ∀ i, w1.cell? ⟨p, i, none⟩ = #[Value.slice A l.length c, .int .i64 pos', .bool false][i]? := fun i => hR.box.cell i
  have fb1 : ∀ i, w1.frozen? ⟨p, i, none⟩ = false := fun i => hR.box.frozen i
  clear hR hQ kb
  cases b
  · go_wp2_with fail
    refine bodyPost_end (v := .tuple #[]) (by simp [results, Try.results60, go_sem]) rfl ?_
    have hO : ∀ u, Only (One p) w1 u → Blk u p 96 #[.slice A l.length c, .int .i64 pos, .bool true] → TryPost Q p A c l pos (.returned (.tuple #[])) u := fun u hO hb =>
      ⟨⟨_, rfl⟩, .inr ⟨w1, HQ.out, HR.out.move hO hb, hO⟩⟩
    refine hO _ ?_ ((HR.out.box.set_ 1 _).set_ 2 _)
    (repeat' (first | with_reducible exact Only.refl _ _ | with_reducible refine Only.setCell ?_ (Or.inl ?_) _ | with_reducible refine Only.drewN ?_ _ | with_reducible refine Only.drew ?_ | with_reducible refine Only.alloc ?_ _ | (exact rfl)))
  · go_wp2_with fail
    refine bodyPost_end (v := .tuple #[]) (by simp [results, Try.results60, go_sem]) rfl ?_
    exact ⟨⟨_, rfl⟩, .inl HQ.out⟩

def BytQ (most : Int) (p g : Nat) (A : Option Addr) (c : Nat) (l : List UInt8) (pos : Nat) (w : World) (b : Bool) (w' : World) : Prop :=
  Only (Two p g) w w' ∧ ((b = true ∧ ∃ x n Ax cx, decB most (l.drop pos) = some (x, n) ∧ RR w' p A c l (pos + n) false ∧ Blk w' g 22 #[.slice Ax x.length cx] ∧ x.length ≤ cx ∧ w'.ownsRow w.heap.size 5 1 (.slice Ax x.length cx) x.length (bcells x)) ∨
    (b = false ∧ decB most (l.drop pos) = none ∧ Blk w' g 22 #[.slice none 0 0]))

theorem sone_no (A : Option Addr) (n c : Nat) : NoU8 #[.slice A n c] := by
  intro i y
  match i with
  | 0 => simp
  | n + 1 => simp

set_option maxRecDepth 100000 in
set_option maxHeartbeats 1000000 in
theorem clo_Bytes (most : Int) (g1 g2 g3 : Nat) (p : Nat) (A : Option Addr) (c : Nat) (l : List UInt8) (pos : Nat) (w : World) (h : RR w p A c l pos false) (hp : pos ≤ l.length) (hl : l.length ≤ 1099511627776) (hc : c ≤ maxLen)
    (b1 : Blk w g1 53 #[.pointer (some ⟨p, 0, none⟩)]) (b2 : Blk w g2 3 #[.int .i64 most]) (b3 : Blk w g3 22 #[.slice none 0 0]) :
    Calls Try.prog 70 #[.pointer (some ⟨g1, 0, none⟩), .pointer (some ⟨g2, 0, none⟩), .pointer (some ⟨g3, 0, none⟩)] w fun e w' => ∃ b, e = .returned (.bool b) ∧ (∃ pos', RR w' p A c l pos' false) ∧ BytQ most p g3 A c l pos w b w' := by
  have n3 : g3 ≠ p := b3.ne_ h.box (by decide)
  have HI := Lib.hid (rdbytes_any most p A c l pos false w h hp hl hc)
  have B3 := Lib.hid b3
  have k1 : w.cell? ⟨g1, 0, none⟩ = some (.pointer (some ⟨p, 0, none⟩)) := b1.cell 0
  have k2 : w.cell? ⟨g2, 0, none⟩ = some (.int .i64 most) := b2.cell 0
  clear h hp hl hc b1 b2 b3
  go_enter Try.func70, Try.ntmps70
  go_wp2_with fail
  refine HI.out.mono ?_
  rintro e w1 ⟨pos', hR, hp', hO, hcase⟩
  have hb3 := B3.out.only hO n3
  have k3 : w1.cell? ⟨g3, 0, none⟩ = some (.slice none 0 0) := hb3.cell 0
  have f3 : w1.frozen? ⟨g3, 0, none⟩ = false := hb3.frozen 0
  have HB3 := Lib.hid hb3
  have HR := Lib.hid hR
  have HO := Lib.hid hO
  clear hb3 hR hO hp' k1 k2
  rcases hcase with ⟨x, n, Ax, cx, hd, rfl, rfl, hcx, hown⟩ | ⟨hd, rfl⟩
  · have HD := Lib.hid hd
    have HX := Lib.hid hcx
    have HW := Lib.hid hown
    obtain ⟨X, hX⟩ : ∃ X, x.length = X := ⟨_, rfl⟩
    rw [hX]
    have HXL := Lib.hid hX
    clear hd hcx hown hX
    go_wp2_with fail
    go_ret
    have hfin : ∀ u, Only (One g3) w1 u → Blk u g3 22 #[.slice Ax X cx] → ∃ b, Ending.returned (Value.bool true) = .returned (.bool b) ∧ (∃ pos', RR u p A c l pos' false) ∧ BytQ most p g3 A c l pos w b u := fun u hS hb => by
      have hR := HR.out.far HB3.out (sone_no _ _ _) n3.symm hS
      rw [← HXL.out] at hb
      exact ⟨true, rfl, ⟨_, hR⟩, (HO.out.more (fun x hx => .inl hx)).then_ (hS.more (fun x hx => .inr hx)), .inl ⟨rfl, x, n, Ax, cx, HD.out, hR, hb, HX.out, own_only HW.out hS (fun q hq hx => own_blk_ne HW.out HB3.out (by decide) (by rw [hq, hx]))⟩⟩
    refine hfin _ ?_ (HB3.out.set_ 0 _)
    (repeat' (first | with_reducible exact Only.refl _ _ | with_reducible refine Only.setCell ?_ (Or.inl ?_) _ | with_reducible refine Only.drewN ?_ _ | with_reducible refine Only.drew ?_ | with_reducible refine Only.alloc ?_ _ | (exact rfl)))
  · have HD := Lib.hid hd
    clear hd
    go_wp2_with fail
    go_ret
    have hfin : ∀ u, Only (One g3) w1 u → Blk u g3 22 #[.slice none 0 0] → ∃ b, Ending.returned (Value.bool false) = .returned (.bool b) ∧ (∃ pos', RR u p A c l pos' false) ∧ BytQ most p g3 A c l pos w b u := fun u hS hb => by
      have hR := HR.out.far HB3.out (sone_no _ _ _) n3.symm hS
      exact ⟨false, rfl, ⟨_, hR⟩, (HO.out.more (fun x hx => .inl hx)).then_ (hS.more (fun x hx => .inr hx)), .inr ⟨rfl, HD.out, hb⟩⟩
    refine hfin _ ?_ (HB3.out.set_ 0 _)
    (repeat' (first | with_reducible exact Only.refl _ _ | with_reducible refine Only.setCell ?_ (Or.inl ?_) _ | with_reducible refine Only.drewN ?_ _ | with_reducible refine Only.drew ?_ | with_reducible refine Only.alloc ?_ _ | (exact rfl)))

/-- What the method answers. -/
def RBytPost (r : List UInt8 × Nat × Bool) (p : Nat) (A : Option Addr) (c : Nat) (l : List UInt8) (w : World) (e : Ending) (w' : World) : Prop :=
  ∃ Ax cx, e = .returned (.slice Ax r.1.length cx) ∧ r.1.length ≤ cx ∧ w'.ownsRow w.heap.size 5 1 (.slice Ax r.1.length cx) r.1.length (bcells r.1) ∧ RR w' p A c l r.2.1 r.2.2 ∧ Only (One p) w w'

set_option maxRecDepth 100000 in
set_option maxHeartbeats 1000000 in
theorem rByt_any (most : Int) (p : Nat) (A : Option Addr) (c : Nat) (l : List UInt8) (pos : Nat) (f : Bool) (w : World) (h : RR w p A c l pos f) (hp : pos ≤ l.length) (hl : l.length ≤ 1099511627776) (hc : c ≤ maxLen) :
    Calls Try.prog 41 #[.pointer (some ⟨p, 0, none⟩), .int .i64 most] w (RBytPost (rByt most l pos f) p A c l w) := by
  obtain ⟨w2, hw2⟩ : ∃ w2, w2 = ((w.alloc (.cells #[.pointer (some ⟨p, 0, none⟩)] 53)).alloc (.cells #[.int .i64 most] 3)).alloc (.cells #[.slice none 0 0] 22) := ⟨_, rfl⟩
  have hO2 : Only Nil w w2 := by rw [hw2]; exact (((Only.refl _ _).alloc _).alloc _).alloc _
  have hb1 : Blk w2 w.heap.size 53 #[.pointer (some ⟨p, 0, none⟩)] := by rw [hw2]; exact ((Blk.new _ _ _).alloc _).alloc _
  have hb2 : Blk w2 (w.heap.size + 1) 3 #[.int .i64 most] := by
    rw [hw2]
    have := (Blk.new (w.alloc (.cells #[.pointer (some ⟨p, 0, none⟩)] 53)) 3 #[.int .i64 most]).alloc (.cells #[.slice none 0 0] 22)
    simp only [World.size_alloc] at this
    exact this
  have hb3 : Blk w2 (w.heap.size + 1 + 1) 22 #[.slice none 0 0] := by
    rw [hw2]
    have := Blk.new ((w.alloc (.cells #[.pointer (some ⟨p, 0, none⟩)] 53)).alloc (.cells #[.int .i64 most] 3)) 22 #[.slice none 0 0]
    simp only [World.size_alloc] at this
    exact this
  have hpw := h.box.lt
  have hR2 := h.onlyNil hO2
  have HB3 := Lib.hid hb3
  have HO2 := Lib.hid hO2
  have HR2 := Lib.hid hR2
  obtain ⟨r, hr⟩ : ∃ r, rByt most l pos f = r := ⟨_, rfl⟩
  rw [hr]
  have HRR := Lib.hid hr
  cases f
  · have ht := try_Bytes _ _ _ _ p A c l pos w2 hR2 (clo_Bytes most w.heap.size (w.heap.size + 1) (w.heap.size + 1 + 1) p A c l pos w2 hR2 hp hl hc hb1 hb2 hb3)
    have HT := Lib.hid ht
    clear ht hR2 hb1 hb2 hb3 hO2 h hp hl hr hc
    go_enter Try.func41, Try.ntmps41
    go_wp2_with fail
    rw [← hw2]
    clear hw2
    refine HT.out.mono ?_
    rintro e w1 ⟨⟨v, rfl⟩, hq⟩
    have hfin : ∃ Ax cx, Blk w1 (w.heap.size + 1 + 1) 22 #[.slice Ax r.1.length cx] ∧ r.1.length ≤ cx ∧ w1.ownsRow w.heap.size 5 1 (.slice Ax r.1.length cx) r.1.length (bcells r.1) ∧ RR w1 p A c l r.2.1 r.2.2 ∧ Only (One p) w w1 := by
      rw [← HRR.out]
      unfold rByt
      rcases hq with ⟨hO, ⟨_, x, n, Ax, cx, hd, hR, hb, hcx, hown⟩ | ⟨h1, _⟩⟩ | ⟨u, ⟨hO, ⟨h1, _⟩ | ⟨_, hd, hb⟩⟩, hR, hOu⟩
      · rw [if_neg (by simp), hd]
        exact ⟨Ax, cx, hb, hcx, own_base hown HO2.out.size, hR, HO2.out.any.trans hO (fun x hx => by rcases hx with hx | hx; exact .inl hx; exact .inr (by omega))⟩
      · cases h1
      · cases h1
      · rw [if_neg (by simp), hd]
        exact ⟨none, 0, hb.only hOu (by unfold One; omega), Nat.le_refl _, World.ownsRow_nil _ _ _ _, hR, (HO2.out.any.trans hO (fun x hx => by rcases hx with hx | hx; exact .inl hx; exact .inr (by omega))).then_ hOu⟩
    obtain ⟨Ax, cx, hb, hcx, hown, hR, hO⟩ := hfin
    have hX : r.1.length = r.1.length := rfl
    obtain ⟨X, hX⟩ : ∃ X, r.1.length = X := ⟨_, rfl⟩
    rw [hX] at hb hcx hown
    have k2 : w1.cell? ⟨w.heap.size + 1 + 1, 0, none⟩ = some (.slice Ax X cx) := hb.cell 0
    have f2 : w1.frozen? ⟨w.heap.size + 1 + 1, 0, none⟩ = false := hb.frozen 0
    have HXL := Lib.hid hX
    have HX := Lib.hid hcx
    have HW := Lib.hid hown
    have HB := Lib.hid hb
    have HR := Lib.hid hR
    have HO := Lib.hid hO
    clear hb hR hO hq hcx hown hX
    go_wp2_with fail
    refine bodyPost_ret (v := .slice Ax X cx) (by simp [results, Try.results41, go_sem, k2]) rfl ?_
    have hfin : ∀ u, Only (One (w.heap.size + 1 + 1)) w1 u → RBytPost r p A c l w (.returned (.slice Ax X cx)) u := fun u hS => by
      refine ⟨Ax, cx, by rw [HXL.out], by rw [HXL.out]; exact HX.out, ?_, HR.out.far HB.out (sone_no _ _ _) (by omega) hS, HO.out.trans hS (fun x hx => .inr (by unfold One at hx; omega))⟩
      rw [HXL.out]
      exact own_only HW.out hS (fun q hq hx => own_blk_ne HW.out HB.out (by decide) (by rw [hq, hx]))
    refine hfin _ ?_
    (repeat' (first | with_reducible exact Only.refl _ _ | with_reducible refine Only.setCell ?_ (Or.inl ?_) _ | with_reducible refine Only.drewN ?_ _ | with_reducible refine Only.drew ?_ | with_reducible refine Only.alloc ?_ _ | (exact rfl)))
  · have hr1 : r = ([], pos, true) := by rw [← hr]; rfl
    have HR1 := Lib.hid hr1
    have HT := Lib.hid (fun F => try_failed F p A c l pos w2 hR2)
    clear hR2 hb1 hb2 hb3 hO2 h hp hl hr hr1 hc
    go_enter Try.func41, Try.ntmps41
    go_wp2_with fail
    rw [← hw2]
    clear hw2
    refine (HT.out _).mono ?_
    rintro e w1 ⟨⟨v, rfl⟩, rfl⟩
    have k2 : w1.cell? ⟨w.heap.size + 1 + 1, 0, none⟩ = some (.slice none 0 0) := HB3.out.cell 0
    have f2 : w1.frozen? ⟨w.heap.size + 1 + 1, 0, none⟩ = false := HB3.out.frozen 0
    go_wp2_with fail
    refine bodyPost_ret (v := .slice none 0 0) (by simp [results, Try.results41, go_sem, k2]) rfl ?_
    have hfin : ∀ u, Only (One (w.heap.size + 1 + 1)) w1 u → RBytPost r p A c l w (.returned (.slice none 0 0)) u := fun u hS => by
      rw [HR1.out]
      exact ⟨none, 0, rfl, Nat.le_refl _, World.ownsRow_nil _ _ _ _, HR2.out.far HB3.out (sone_no _ _ _) (by omega) hS, HO2.out.any.trans hS (fun x hx => .inr (by unfold One at hx; omega))⟩
    refine hfin _ ?_
    (repeat' (first | with_reducible exact Only.refl _ _ | with_reducible refine Only.setCell ?_ (Or.inl ?_) _ | with_reducible refine Only.drewN ?_ _ | with_reducible refine Only.drew ?_ | with_reducible refine Only.alloc ?_ _ | (exact rfl)))

end Go.Proofs.Ytbhgaaendekghaa
