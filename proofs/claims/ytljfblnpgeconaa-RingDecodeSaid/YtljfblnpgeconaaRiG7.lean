/-
  The walk of the reference's DecodeBytes on any bytes.
  Conditions: the slice can be read.
-/
import Derived.Test.YtljfblnpgeconaaRiG1
namespace Go.Proofs.Ytljfblnpgeconaa
open Go.RowKit

def RDecBPost (r : Option (Nat × List UInt8)) (w : World) (e : Ending) (w' : World) : Prop :=
  match r with
  | none => e = .returned (.tuple #[.agg #[.int .i64 0, .slice none 0 0], .int .i64 4]) ∧ Only Nil w w'
  | some (n, x) => ∃ A c, e = .returned (.tuple #[.agg #[.int .i64 n, .slice A x.length c], .int .i64 0]) ∧ x.length ≤ c ∧ w'.ownsRow w.heap.size 5 1 (.slice A x.length c) x.length (bcells x) ∧ Only Nil w w'

set_option maxRecDepth 100000 in
set_option maxHeartbeats 1000000 in
theorem Ref.decBytes_any (A : Option Addr) (c : Nat) (l : List UInt8) (w : World) (h : Bs w w.heap.size A l) (hl : l.length ≤ 1099511627776) (hc : l.length ≤ c) (hcm : c ≤ maxLen) :
    Calls Try.prog 33 #[.slice A l.length c] w (RDecBPost (decQ l) w) := by
  obtain ⟨r, hr⟩ : ∃ r, decQ l = r := ⟨_, rfl⟩
  obtain ⟨a, ha⟩ : ∃ a, rBnd 1 4096 l 0 false = a := ⟨_, rfl⟩
  obtain ⟨b, hb⟩ : ∃ b, rByt a.1 l a.2.1 a.2.2 = b := ⟨_, rfl⟩
  have ha1 : a.2.2 = false → 1 ≤ a.1 ∧ a.1 ≤ 4096 := fun h => by rw [← ha] at h ⊢; exact rBnd_in h
  have hap : a.2.1 ≤ l.length := by rw [← ha]; exact rBnd_to _ (Nat.zero_le _)
  have hb1 : b.2.2 = false → a.2.2 = false ∧ (b.1.length : Int) ≤ a.1 := fun h => by rw [← hb] at h ⊢; exact rByt_in h
  have hbp : b.2.1 ≤ l.length := by rw [← hb]; exact rByt_to _ hap
  have hr' : r = if b.2.2 = true ∨ b.2.1 ≠ l.length then none else some (a.1.toNat, b.1) := by rw [← hr, ← hb, ← ha]; rfl
  rw [hr]
  obtain ⟨a0, a1, a2⟩ := a
  obtain ⟨b0, b1, b2⟩ := b
  dsimp only at ha1 hap hb1 hbp hb hr'
  obtain ⟨W0, hW0⟩ : ∃ W, w.alloc (.cells #[.int .i64 0, .slice none 0 0] 61) = W := ⟨_, rfl⟩
  obtain ⟨W, hW⟩ : ∃ V, W0.alloc (.cells #[.slice A l.length c, .int .i64 0, .bool false] 101) = V := ⟨_, rfl⟩
  have hO0 : Only Nil w W0 := by rw [← hW0]; exact (Only.refl _ _).alloc _
  have hO : Only Nil w W := by rw [← hW]; exact hO0.alloc _
  have hs0 : W0.heap.size = w.heap.size + 1 := by rw [← hW0, World.size_alloc]
  have hsW : W.heap.size = w.heap.size + 2 := by rw [← hW, World.size_alloc, hs0]
  have hb0 : Blk W w.heap.size 61 #[.int .i64 0, .slice none 0 0] := by rw [← hW, ← hW0]; exact (Blk.new _ _ _).alloc _
  have hR : RF W (w.heap.size + 1) A c l 0 false := ⟨by rw [← hW, ← hs0]; exact Blk.new _ _ _, (h.onlyNil hO (Nat.le_refl _)).up hO.size, hc⟩
  have HR := Lib.hid hR
  have HL := Lib.hid hl
  have HA := Lib.hid ha
  have HB := Lib.hid hb
  have HAP := Lib.hid hap
  have HBP := Lib.hid hbp
  have HCM := Lib.hid hcm
  have HO := Lib.hid hO
  have HSW := Lib.hid hsW
  have HB0 := Lib.hid hb0
  have HRR := Lib.hid hr'
  have HA1 := Lib.hid ha1
  have HB1 := Lib.hid hb1
  clear hr hr' h hl ha hb hap hbp hcm hR hO hO0 hb0 ha1 hb1 hc
  go_enter Try.func33, Try.ntmps33
  go_wp2_with fail
  clear hW0 hW hs0 hsW
  refine (rfBnd_any 1 4096 (w.heap.size + 1) A c l 0 false _ HR.out (Nat.zero_le _) HL.out).mono ?_
  rw [HA.out]
  rintro e w2 ⟨rfl, hR2, hO2⟩
  have HO2 := Lib.hid hO2
  have HR2 := Lib.hid hR2
  have HC2 := Lib.hid (HB0.out.only hO2 (by unfold One; omega))
  have HS2 := Lib.hid hO2.size
  clear hO2 hR2
  go_wp2_with fail
  have hR3 := HR2.out.onlyNil ((Only.refl Nil w2).alloc (.cells #[.int .i64 a0, .slice none 0 0] 61))
  have hq3 := Blk.new w2 61 #[.int .i64 a0, .slice none 0 0]
  have hc3 := HC2.out.alloc (.cells #[.int .i64 a0, .slice none 0 0] 61)
  have HR3 := Lib.hid hR3
  have HQ3 := Lib.hid hq3
  have HC3 := Lib.hid hc3
  clear hR3 hq3 hc3
  refine (rfByt_any a0 (w.heap.size + 1) A c l a1 a2 _ HR3.out HAP.out HL.out HCM.out).mono ?_
  rw [HB.out]
  rintro e w4 ⟨Ax, cx, rfl, hcx, hown, hR4, hO4⟩
  have hsz := HSW.out
  have hsz2 := HS2.out
  have hsz4 := hO4.size
  rw [World.size_alloc] at hsz4
  have hne : w2.heap.size ≠ w.heap.size + 1 := by omega
  have hq4 := HQ3.out.only hO4 (show ¬ One (w.heap.size + 1) w2.heap.size by unfold One; omega)
  have hc4 := HC3.out.only hO4 (show ¬ One (w.heap.size + 1) w.heap.size by unfold One; omega)
  have k4 : ∀ i, w4.cell? ⟨w2.heap.size, i, none⟩ = #[Value.int .i64 a0, .slice none 0 0][i]? := fun i => hq4.cell i
  have f4 : ∀ i, w4.frozen? ⟨w2.heap.size, i, none⟩ = false := fun i => hq4.frozen i
  have hO5 : Only (One w2.heap.size) w4 (w4.setCell ⟨w2.heap.size, 1, none⟩ (.slice Ax b0.length cx)) := (Only.refl _ _).setCell (p := ⟨w2.heap.size, 1, none⟩) (Or.inl (show One w2.heap.size w2.heap.size from rfl)) _
  have hR5 : RF (w4.setCell ⟨w2.heap.size, 1, none⟩ (.slice Ax b0.length cx)) (w.heap.size + 1) A c l b1 b2 :=
    ⟨hR4.box.only hO5 (by unfold One; omega), (hR4.bytes.box hq4 (by intro i z; match i with | 0 => simp | 1 => simp | n + 2 => simp) hO5 (Nat.le_refl _)).up hO5.size, hR4.cap⟩
  have hown5 : (w4.setCell ⟨w2.heap.size, 1, none⟩ (.slice Ax b0.length cx)).ownsRow (w2.heap.size + 1) 5 1 (.slice Ax b0.length cx) b0.length (bcells b0) := own_only (by rw [← World.size_alloc w2 (.cells #[.int .i64 a0, .slice none 0 0] 61)]; exact hown) hO5 (fun q hq hx => by
    have := ownBlock_ge hown hq
    rw [World.size_alloc] at this
    unfold One at hx
    omega)
  have hq5 : Blk (w4.setCell ⟨w2.heap.size, 1, none⟩ (.slice Ax b0.length cx)) w2.heap.size 61 #[.int .i64 a0, .slice Ax b0.length cx] := by
    have := hq4.set_ 1 (.slice Ax b0.length cx)
    simpa using this
  have hc5 := hc4.only hO5 (show ¬ One w2.heap.size w.heap.size by unfold One; omega)
  have hOO : Only Nil w (w4.setCell ⟨w2.heap.size, 1, none⟩ (.slice Ax b0.length cx)) := (((HO.out.trans HO2.out fun x hx => .inr (by unfold One at hx; omega)).alloc _).trans hO4 fun x hx => .inr (by unfold One at hx; omega)).trans hO5 fun x hx => .inr (by unfold One at hx; omega)
  have HE := Lib.hid (rfEnd_any (w.heap.size + 1) A c l b1 b2 _ hR5)
  have HCX := Lib.hid hcx
  have HW5 := Lib.hid hown5
  have HQ5 := Lib.hid hq5
  have HC5 := Lib.hid hc5
  have HO5 := Lib.hid hOO
  clear hcx hown hR4 hO4 hsz4 hq4 hc4 hO5 hR5 hown5 hq5 hc5 hOO
  go_wp2_with fail
  by_cases hend : b2 = true ∨ b1 ≠ l.length
  · have hE := HE.out
    have hrr := HRR.out
    rw [if_pos hend] at hE hrr
    subst hrr
    refine hE.mono ?_
    clear hE hend k4 f4
    rintro e w6 ⟨rfl, hO6⟩
    have hc6 := HC5.out.onlyNil hO6
    have k6 : ∀ i, w6.cell? ⟨w.heap.size, i, none⟩ = #[Value.int .i64 0, .slice none 0 0][i]? := fun i => hc6.cell i
    have f6 : ∀ i, w6.frozen? ⟨w.heap.size, i, none⟩ = false := fun i => hc6.frozen i
    have HO6 := Lib.hid (HO5.out.thenNil hO6)
    clear hO6 hc6
    go_wp2_with fail
    refine bodyPost_ret (v := .tuple #[.agg #[.int .i64 0, .slice none 0 0], .int .i64 4]) (by simp [results, Try.results33, go_sem, k6]) rfl ?_
    have hfin : ∀ w', Only (One w.heap.size) w6 w' → Only Nil w w' := fun w' hw => HO6.out.trans hw fun x hx => .inr (by unfold One at hx; omega)
    refine ⟨rfl, hfin _ ?_⟩
    (repeat' (first | with_reducible exact Only.refl _ _ | with_reducible refine Only.setCell ?_ (Or.inl ?_) _ | with_reducible refine Only.drewN ?_ _ | with_reducible refine Only.drew ?_ | with_reducible refine Only.alloc ?_ _ | (exact rfl)))
  · have hE := HE.out
    have hrr := HRR.out
    rw [if_neg hend] at hE hrr
    have hb2 : b2 = false := by
      cases b2
      · rfl
      · exact absurd (.inl rfl) hend
    obtain ⟨hm1, hm2⟩ := HA1.out (HB1.out hb2).1
    obtain ⟨n, hn⟩ : ∃ n : Nat, a0 = n := ⟨a0.toNat, by omega⟩
    subst hn
    rw [Int.toNat_natCast] at hrr
    subst hrr
    refine hE.mono ?_
    clear hE hend hb2 hm1 hm2 k4 f4
    rintro e w6 ⟨rfl, hO6⟩
    have hc6 := HC5.out.onlyNil hO6
    have hq6 := HQ5.out.onlyNil hO6
    have k6 : ∀ i, w6.cell? ⟨w.heap.size, i, none⟩ = #[Value.int .i64 0, .slice none 0 0][i]? := fun i => hc6.cell i
    have f6 : ∀ i, w6.frozen? ⟨w.heap.size, i, none⟩ = false := fun i => hc6.frozen i
    have g6 : ∀ i, w6.cell? ⟨w2.heap.size, i, none⟩ = #[Value.int .i64 n, .slice Ax b0.length cx][i]? := fun i => hq6.cell i
    have HO6 := Lib.hid (HO5.out.thenNil hO6)
    have HW6 := Lib.hid (own_onlyNil HW5.out hO6)
    clear hO6 hc6 hq6
    go_wp2_with fail
    refine bodyPost_ret (v := .tuple #[.agg #[.int .i64 n, .slice Ax b0.length cx], .int .i64 0]) (by simp [results, Try.results33, go_sem, k6]) rfl ?_
    have hfin : ∀ w', Only (One w.heap.size) w6 w' → RDecBPost (some (n, b0)) w (.returned (.tuple #[.agg #[.int .i64 n, .slice Ax b0.length cx], .int .i64 0])) w' := fun w' hw =>
      ⟨Ax, cx, rfl, HCX.out, own_base (own_only HW6.out hw fun q hq hx => by
        have := ownBlock_ge HW6.out hq
        unfold One at hx
        omega) (by omega), HO6.out.trans hw fun x hx => .inr (by unfold One at hx; omega)⟩
    refine hfin _ ?_
    (repeat' (first | with_reducible exact Only.refl _ _ | with_reducible refine Only.setCell ?_ (Or.inl ?_) _ | with_reducible refine Only.drewN ?_ _ | with_reducible refine Only.drew ?_ | with_reducible refine Only.alloc ?_ _ | (exact rfl)))

end Go.Proofs.Ytljfblnpgeconaa
