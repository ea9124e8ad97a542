/-
  wire.Reader's Entry.
  Conditions: the reader stands within its bytes; they are at most 2 to the power 40.
-/
import Derived.Test.YtbhgaaendekghaaWmEntry
namespace Go.Proofs.Ytbhgaaendekghaa
open Go.RowKit

/-- What the method answers. -/
def REntPost (r : En × Nat × Bool) (p : Nat) (A : Option Addr) (c : Nat) (l : List UInt8) (w : World) (e : Ending) (w' : World) : Prop :=
  ∃ Ax cx, e = .returned (.agg (ecl Ax cx r.1)) ∧ r.1.data.length ≤ cx ∧ w'.ownsRow w.heap.size 5 1 (.slice Ax r.1.data.length cx) r.1.data.length (bcells r.1.data) ∧ RR w' p A c l r.2.1 r.2.2 ∧ Only (One p) w w'

set_option maxRecDepth 100000 in
set_option maxHeartbeats 1000000 in
theorem rEnt_any (p : Nat) (A : Option Addr) (c : Nat) (l : List UInt8) (pos : Nat) (f : Bool) (w : World) (h : RR w p A c l pos f) (hp : pos ≤ l.length) (hl : l.length ≤ 1099511627776) (hc : c ≤ maxLen) :
    Calls Try.prog 51 #[.pointer (some ⟨p, 0, none⟩)] w (REntPost (rEnt l pos f) p A c l w) := by
  obtain ⟨w2, hw2⟩ : ∃ w2, w2 = (w.alloc (.cells #[.pointer (some ⟨p, 0, none⟩)] 53)).alloc (.cells (ecl none 0 zE) 35) := ⟨_, rfl⟩
  have hO2 : Only Nil w w2 := by rw [hw2]; exact ((Only.refl _ _).alloc _).alloc _
  have hb1 : Blk w2 w.heap.size 53 #[.pointer (some ⟨p, 0, none⟩)] := by rw [hw2]; exact (Blk.new _ _ _).alloc _
  have hb2 : Blk w2 (w.heap.size + 1) 35 (ecl none 0 zE) := by
    rw [hw2]
    have := Blk.new (w.alloc (.cells #[.pointer (some ⟨p, 0, none⟩)] 53)) 35 (ecl none 0 zE)
    rw [World.size_alloc] at this
    exact this
  have hpw := h.box.lt
  have hR2 := h.onlyNil hO2
  have HB2 := Lib.hid hb2
  have HO2 := Lib.hid hO2
  have HR2 := Lib.hid hR2
  obtain ⟨r, hr⟩ : ∃ r, rEnt l pos f = r := ⟨_, rfl⟩
  rw [hr]
  have HRR := Lib.hid hr
  unfold ecl ER.cells zE at hw2
  dsimp only at hw2
  rw [show ([] : List UInt8).length = 0 from rfl] at hw2
  cases f
  · have ht := try_Entry _ _ _ p A c l pos w2 hR2 (clo_Entry w.heap.size (w.heap.size + 1) p A c l pos w2 hR2 hp hl hc hb1 hb2)
    have HT := Lib.hid ht
    clear ht hR2 hb1 hb2 hO2 h hp hl hr hc
    go_enter Try.func51, Try.ntmps51
    go_wp2_with fail
    rw [← hw2]
    clear hw2
    refine HT.out.mono ?_
    rintro e w1 ⟨⟨v, rfl⟩, hq⟩
    have hfin : ∃ Ax cx, Blk w1 (w.heap.size + 1) 35 (ecl Ax cx r.1) ∧ r.1.data.length ≤ cx ∧ w1.ownsRow w.heap.size 5 1 (.slice Ax r.1.data.length cx) r.1.data.length (bcells r.1.data) ∧ RR w1 p A c l r.2.1 r.2.2 ∧ Only (One p) w w1 := by
      rw [← HRR.out]
      unfold rEnt
      rcases hq with ⟨hO, ⟨_, m, n, Ax, cx, hd, hR, hb, hcx, hown⟩ | ⟨h1, _⟩⟩ | ⟨u, ⟨hO, ⟨h1, _⟩ | ⟨_, hd, hb⟩⟩, hR, hOu⟩
      · rw [if_neg (by simp), hd]
        exact ⟨Ax, cx, hb, hcx, own_base hown HO2.out.size, hR, HO2.out.any.trans hO (fun x hx => by rcases hx with hx | hx; exact .inl hx; exact .inr (by omega))⟩
      · cases h1
      · cases h1
      · rw [if_neg (by simp), hd]
        exact ⟨none, 0, hb.only hOu (by unfold One; omega), Nat.le_refl _, World.ownsRow_nil _ _ _ _, hR, (HO2.out.any.trans hO (fun x hx => by rcases hx with hx | hx; exact .inl hx; exact .inr (by omega))).then_ hOu⟩
    obtain ⟨Ax, cx, hb, hcx, hown, hR, hO⟩ := hfin
    have k2 : ∀ i, w1.cell? ⟨w.heap.size + 1, i, none⟩ = (ecl Ax cx r.1)[i]? := fun i => hb.cell i
    have f2 : ∀ i, w1.frozen? ⟨w.heap.size + 1, i, none⟩ = false := fun i => hb.frozen i
    have hfin : ∀ u, Only (One (w.heap.size + 1)) w1 u → REntPost r p A c l w (.returned (.agg (ecl Ax cx r.1))) u := fun u hS =>
      ⟨Ax, cx, rfl, hcx, own_only hown hS (fun q hq hx => own_blk_ne hown hb (by decide) (by rw [hq, hx])), hR.far hb (ecl_no _ _ _) (by omega) hS, hO.trans hS (fun x hx => .inr (by unfold One at hx; omega))⟩
    obtain ⟨⟨kind, task, call, a0, a1, a2, res, x⟩, pos', f'⟩ := r
    unfold ecl ER.cells at k2 hfin
    dsimp only at k2 hfin
    obtain ⟨X, hX⟩ : ∃ X, x.length = X := ⟨_, rfl⟩
    rw [hX] at k2 hfin
    have HF := Lib.hid hfin
    clear hb hR hO hq hcx hown hX hfin HRR
    go_wp2_with fail
    refine bodyPost_ret (v := .agg #[.int .i64 kind, .int .i64 task, .int .i64 call, .int .i64 a0, .int .i64 a1, .int .i64 a2, .int .i64 res, .slice Ax X cx]) (by simp [results, Try.results51, go_sem, k2]) rfl ?_
    refine HF.out _ ?_
    (repeat' (first | with_reducible exact Only.refl _ _ | with_reducible refine Only.setCell ?_ (Or.inl ?_) _ | with_reducible refine Only.drewN ?_ _ | with_reducible refine Only.drew ?_ | with_reducible refine Only.alloc ?_ _ | (exact rfl)))
  · have hr1 : r = (zE, pos, true) := by rw [← hr]; rfl
    have HR1 := Lib.hid hr1
    have HT := Lib.hid (fun F => try_failed F p A c l pos w2 hR2)
    clear hR2 hb1 hb2 hO2 h hp hl hr hr1 hc
    go_enter Try.func51, Try.ntmps51
    go_wp2_with fail
    rw [← hw2]
    clear hw2
    refine (HT.out _).mono ?_
    rintro e w1 ⟨⟨v, rfl⟩, rfl⟩
    have k2 : ∀ i, w1.cell? ⟨w.heap.size + 1, i, none⟩ = (ecl none 0 zE)[i]? := fun i => HB2.out.cell i
    have f2 : ∀ i, w1.frozen? ⟨w.heap.size + 1, i, none⟩ = false := fun i => HB2.out.frozen i
    have hfin : ∀ u, Only (One (w.heap.size + 1)) w1 u → REntPost r p A c l w (.returned (.agg (ecl none 0 zE))) u := fun u hS => by
      rw [HR1.out]
      exact ⟨none, 0, rfl, Nat.le_refl _, World.ownsRow_nil _ _ _ _, HR2.out.far HB2.out (ecl_no _ _ _) (by omega) hS, HO2.out.any.trans hS (fun x hx => .inr (by unfold One at hx; omega))⟩
    unfold ecl ER.cells zE at k2 hfin
    dsimp only at k2 hfin
    rw [show ([] : List UInt8).length = 0 from rfl] at k2 hfin
    have HF := Lib.hid hfin
    clear hfin
    go_wp2_with fail
    refine bodyPost_ret (v := .agg #[.int .i64 0, .int .i64 0, .int .i64 0, .int .i64 0, .int .i64 0, .int .i64 0, .int .i64 0, .slice none 0 0]) (by simp [results, Try.results51, go_sem, k2]) rfl ?_
    refine HF.out _ ?_
    (repeat' (first | with_reducible exact Only.refl _ _ | with_reducible refine Only.setCell ?_ (Or.inl ?_) _ | with_reducible refine Only.drewN ?_ _ | with_reducible refine Only.drew ?_ | with_reducible refine Only.alloc ?_ _ | (exact rfl)))

end Go.Proofs.Ytbhgaaendekghaa
