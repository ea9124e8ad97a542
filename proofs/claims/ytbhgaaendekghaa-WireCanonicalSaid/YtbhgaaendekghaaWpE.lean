/-
  wire.Entry behind nil: the encoding of an entry.
  Conditions: the entry can be read; its Data have at most 2 to the power 38 bytes.
-/
import Derived.Test.YtbhgaaendekghaaWpP
import Derived.Test.YtbhgaaendekghaaEn1
import Derived.Test.YtbhgaaendekghaaWrP
import Derived.Deep.RegionHeld3
namespace Go.Proofs.Ytbhgaaendekghaa
open Go.RowKit

/-- The encoding of an entry. -/
def encE (x : En) : List UInt8 := encL [x.kind, x.task, x.call] ++ encL [x.a0, x.a1, x.a2] ++ encI x.result ++ encI x.data.length ++ x.data

def EncPost (r : List UInt8) (w : World) (x : Ending) (w' : World) : Prop :=
  ∃ A c, x = .returned (.slice A r.length c) ∧ r.length ≤ c ∧ w'.ownsRow w.heap.size 5 1 (.slice A r.length c) r.length (bcells r) ∧ Only Nil w w'

theorem er_no (A : Option Addr) (n c : Nat) (k t ca a0 a1 a2 r : Int) : NoU8 #[Value.int .i64 k, .int .i64 t, .int .i64 ca, .int .i64 a0, .int .i64 a1, .int .i64 a2, .int .i64 r, .slice A n c] := by
  intro i z
  match i with
  | 0 => simp
  | 1 => simp
  | 2 => simp
  | 3 => simp
  | 4 => simp
  | 5 => simp
  | 6 => simp
  | 7 => simp
  | n + 8 => simp

set_option maxRecDepth 100000 in
set_option maxHeartbeats 2000000 in
theorem entry_enc (r : ER) (w : World) (h : ER.ok w w.heap.size r) (hd : r.x.data.length ≤ 274877906944) :
    Calls Try.prog 43 #[.slice none 0 0, .agg r.cells.toArray] w (EncPost (encE r.x) w) := by
  obtain ⟨A, c, ⟨kind, task, call, a0, a1, a2, result, data⟩⟩ := r
  obtain ⟨⟨f1, f2, f3, f4, f5, f6, f7⟩, hcd, hmx, hbs⟩ := h
  unfold I64 at f1 f2 f3 f4 f5 f6 f7
  dsimp only at f1 f2 f3 f4 f5 f6 f7 hcd hmx hbs hd
  unfold ER.cells
  dsimp only
  obtain ⟨E1, hE1⟩ : ∃ E1, encL [kind, task, call] = E1 := ⟨_, rfl⟩
  obtain ⟨E2, hE2⟩ : ∃ E2, E1 ++ encL [a0, a1, a2] = E2 := ⟨_, rfl⟩
  obtain ⟨E3, hE3⟩ : ∃ E3, E2 ++ encI result = E3 := ⟨_, rfl⟩
  obtain ⟨E4, hE4⟩ : ∃ E4, E3 ++ encI data.length ++ data = E4 := ⟨_, rfl⟩
  have hE : encE ⟨kind, task, call, a0, a1, a2, result, data⟩ = E4 := by
    unfold encE
    dsimp only
    rw [hE1, hE2, hE3, hE4]
  rw [hE]
  have l1 : E1.length ≤ 30 := by rw [← hE1]; exact encL_len (zs := [kind, task, call]) (by simp; exact ⟨f1, f2, f3⟩)
  have l2 : E2.length ≤ 60 := by
    rw [← hE2, List.length_append]
    have := encL_len (zs := [a0, a1, a2]) (by simp; exact ⟨f4, f5, f6⟩)
    simp only [List.length_cons, List.length_nil] at this
    omega
  have l3 : E3.length ≤ 70 := by
    rw [← hE3, List.length_append]
    have := encI_len result (zig_lt f7)
    omega
  obtain ⟨CS, hCS⟩ : ∃ CS : Array Value, CS = #[Value.int .i64 kind, .int .i64 task, .int .i64 call, .int .i64 a0, .int .i64 a1, .int .i64 a2, .int .i64 result, .slice A data.length c] := ⟨_, rfl⟩
  -- the first call: three integers laid in a new block
  have hc1 : ∀ u g, Only Nil w u → Blk u g 3 #[Value.int .i64 kind, .int .i64 task, .int .i64 call] → Calls Try.prog 59 #[.slice none 0 0, .slice (some ⟨g, 0, none⟩) 3 3] u fun x u' => ∃ A1 c1, x = .returned (.slice A1 E1.length c1) ∧ E1.length ≤ c1 ∧ u'.ownsRow w.heap.size 5 1 (.slice A1 E1.length c1) E1.length (bcells E1) ∧ Only Nil u u' := fun u g hO hg => by
    refine (wplain_any none 0 w.heap.size [] (some ⟨g, 0, none⟩) 3 [kind, task, call] u hO.size (World.ownsRow_nil _ _ _ _) (Nat.le_refl _) (fun w' hO2 => ⟨rfl, fun _ => ⟨g, 0, rfl, hg.lt, fun j v hj => ?_⟩⟩) (by simp) (by simp) (by simp; exact ⟨f1, f2, f3⟩)).mono ?_
    · have := (hg.only (hO2.more (S' := Nil) (fun x hx => by cases hx)) (fun hx => hx)).cell j
      rw [Nat.zero_add, this, ← hj]
      simp
    · rw [List.nil_append, hE1]
      rintro x u' ⟨A1, c1, rfl, hc1, hown, _, hO2⟩
      exact ⟨A1, c1, rfl, hc1, hown, hO2.more (fun x hx => by cases hx)⟩
  -- the second: the box's array
  have hc2 : ∀ u bx A1 c1, Only Nil w u → Blk u bx 35 CS → E1.length ≤ c1 → u.ownsRow w.heap.size 5 1 (.slice A1 E1.length c1) E1.length (bcells E1) → Calls Try.prog 59 #[.slice A1 E1.length c1, .slice (some ⟨bx, 3, none⟩) 3 3] u fun x u' => ∃ A2 c2, x = .returned (.slice A2 E2.length c2) ∧ E2.length ≤ c2 ∧ u'.ownsRow w.heap.size 5 1 (.slice A2 E2.length c2) E2.length (bcells E2) ∧ Blk u' bx 35 CS ∧ Only Nil w u' := fun u bx A1 c1 hO hb hcc hown => by
    have hne : ∀ w', Only (fun y => (Value.slice A1 E1.length c1).ownBlock = some y) u w' → Blk w' bx 35 CS := fun w' hO2 => hb.only hO2 (own_blk_ne hown hb (by decide))
    refine (wplain_any A1 c1 w.heap.size E1 (some ⟨bx, 3, none⟩) 3 [a0, a1, a2] u hO.size hown hcc (fun w' hO2 => ⟨rfl, fun _ => ⟨bx, 3, rfl, hb.lt, fun j v hj => ?_⟩⟩) (by omega) (by simp) (by simp; exact ⟨f4, f5, f6⟩)).mono ?_
    · rw [(hne w' hO2).cell, hCS]
      match j, hj with
      | 0, hj => simpa using hj
      | 1, hj => simpa using hj
      | 2, hj => simpa using hj
      | n + 3, hj => simp at hj
    · rw [hE2]
      rintro x u' ⟨A2, c2, rfl, hc2, hown2, _, hO2⟩
      exact ⟨A2, c2, rfl, hc2, hown2, hne u' hO2, hO.trans hO2 (fun x hx => .inr (ownBlock_ge hown hx))⟩
  have hc3 : ∀ u bx A2 c2, Only Nil w u → Blk u bx 35 CS → u.ownsRow w.heap.size 5 1 (.slice A2 E2.length c2) E2.length (bcells E2) → Calls Try.prog 21 #[.slice A2 E2.length c2, .int .i64 result] u fun x u' => ∃ A3 c3, x = .returned (.slice A3 E3.length c3) ∧ u'.ownsRow w.heap.size 5 1 (.slice A3 E3.length c3) E3.length (bcells E3) ∧ Blk u' bx 35 CS ∧ Only Nil w u' := fun u bx A2 c2 hO hb hown => by
    refine (int_any A2 c2 w.heap.size E2 result u hO.size hown (by omega) f7).mono ?_
    rw [hE3]
    rintro x u' ⟨A3, c3, rfl, _, hown2, _, hO2⟩
    exact ⟨A3, c3, rfl, hown2, hb.only hO2 (own_blk_ne hown hb (by decide)), hO.trans hO2 (fun x hx => .inr (ownBlock_ge hown hx))⟩
  have hc4 : ∀ u bx A3 c3, Only Nil w u → Blk u bx 35 CS → u.ownsRow w.heap.size 5 1 (.slice A3 E3.length c3) E3.length (bcells E3) → Calls Try.prog 31 #[.slice A3 E3.length c3, .slice A data.length c] u fun x u' => ∃ A4 c4, x = .returned (.slice A4 E4.length c4) ∧ E4.length ≤ c4 ∧ u'.ownsRow w.heap.size 5 1 (.slice A4 E4.length c4) E4.length (bcells E4) ∧ Blk u' bx 35 CS ∧ Only Nil w u' := fun u bx A3 c3 hO hb hown => by
    refine (bytes_any A3 c3 w.heap.size E3 A c data u hO.size hown (fun w' hO2 => ?_) (by omega) (by omega)).mono ?_
    · exact Rd.more (Rd.onlyNil hbs (hO.trans hO2 (fun x hx => .inr (ownBlock_ge hown hx))) (Nat.le_refl _)) hO.size
    · rw [hE4]
      rintro x u' ⟨A4, c4, rfl, hc4, hown2, _, hO2⟩
      exact ⟨A4, c4, rfl, hc4, hown2, hb.only hO2 (own_blk_ne hown hb (by decide)), hO.trans hO2 (fun x hx => .inr (ownBlock_ge hown hx))⟩
  obtain ⟨L1, hL1⟩ : ∃ L1, E1.length = L1 := ⟨_, rfl⟩
  obtain ⟨L2, hL2⟩ : ∃ L2, E2.length = L2 := ⟨_, rfl⟩
  obtain ⟨L3, hL3⟩ : ∃ L3, E3.length = L3 := ⟨_, rfl⟩
  obtain ⟨D, hD⟩ : ∃ D, data.length = D := ⟨_, rfl⟩
  rw [hL1] at hc1 hc2
  rw [hL2] at hc2 hc3
  rw [hL3] at hc3 hc4
  rw [hD] at hc4 hCS ⊢
  have H1 := Lib.hid hc1
  have H2 := Lib.hid hc2
  have H3 := Lib.hid hc3
  have H4 := Lib.hid hc4
  have HCS := Lib.hid hCS
  clear hc1 hc2 hc3 hc4 hE1 hE2 hE3 hE4 hE l1 l2 l3 hL1 hL2 hL3 hbs hcd hmx f1 f2 f3 f4 f5 f6 f7 hD hd hCS
  go_enter Try.func43, Try.ntmps43
  go_upto_region 0 with fail
  go_cut [3, 4] (fun p v wd => v = .slice none 0 0 ∧ ∃ bx, p = .pointer (some ⟨bx, 0, none⟩) ∧ Blk wd bx 35 CS ∧ Only Nil w wd)
  case first =>
    go_wp2_with fail
    go_meet
    case rel => exact ⟨rfl, _, rfl, by rw [HCS.out]; exact Blk.new _ _ _, by (repeat' (first | with_reducible exact Only.refl _ _ | with_reducible refine Only.setCell ?_ (Or.inl ?_) _ | with_reducible refine Only.drewN ?_ _ | with_reducible refine Only.drew ?_ | with_reducible refine Only.alloc ?_ _ | (fail)))⟩
  case rest =>
  obtain ⟨rfl, bx, rfl, hb, hO⟩ := hcut
  have hks : ∀ u, Only Nil wc u → ∀ i, u.cell? ⟨bx, i, none⟩ = #[Value.int .i64 kind, .int .i64 task, .int .i64 call, .int .i64 a0, .int .i64 a1, .int .i64 a2, .int .i64 result, .slice A D c][i]? := fun u hO i => by rw [(hb.onlyNil hO).cell, HCS.out]
  have HKS := Lib.hid hks
  have HB := Lib.hid hb
  have HO := Lib.hid hO
  have kd := hks wc.drew (Only.refl _ _).drew
  have kd0 := hks wc (Only.refl _ _)
  clear hks hb hO
  go_upto_region 1 with fail
  go_cut [0] (fun v wd => ∃ A2 c2, v = .slice A2 L2 c2 ∧ wd.ownsRow w.heap.size 5 1 (.slice A2 L2 c2) L2 (bcells E2) ∧ Blk wd bx 35 CS ∧ Only Nil w wd)
  case first =>
    go_region_held3 (fun w' => ∀ i, w'.cell? ⟨bx, i, none⟩ = #[Value.int .i64 kind, .int .i64 task, .int .i64 call, .int .i64 a0, .int .i64 a1, .int .i64 a2, .int .i64 result, .slice A D c][i]?) (first | with_reducible assumption | exact HKS.out _ (by (repeat' (first | with_reducible exact Only.refl _ _ | with_reducible refine Only.setCell ?_ (Or.inl ?_) _ | with_reducible refine Only.drewN ?_ _ | with_reducible refine Only.drew ?_ | with_reducible refine Only.alloc ?_ _ | (fail)))) | go_keep)
      (first
        | (go_simp; go_at_call 59; refine (H2.out _ _ _ _ hO1 hb1 hc1 hown1).mono ?_; rintro x w2 ⟨A2, c2, rfl, hc2, hown2, hb2, hO2⟩; have hs2 : ∀ i, w2.cell? ⟨bx, i, none⟩ = #[Value.int .i64 kind, .int .i64 task, .int .i64 call, .int .i64 a0, .int .i64 a1, .int .i64 a2, .int .i64 result, .slice A D c][i]? := fun i => by rw [hb2.cell, HCS.out])
        | (go_simp; go_at_call 59; refine (H1.out _ _ (HO.out.thenNil (((Only.refl _ _).drew).alloc _)) (Blk.new _ _ _)).mono ?_; rintro x w1 ⟨A1, c1, rfl, hc1, hown1, hOz⟩; have hO1 := HO.out.thenNil ((((Only.refl _ _).drew).alloc _).thenNil hOz); have hb1 := HB.out.onlyNil ((((Only.refl _ _).drew).alloc _).thenNil hOz); have hs1 := HKS.out w1 ((((Only.refl _ _).drew).alloc _).thenNil hOz)))
    all_goals
      go_wp2_with fail
      go_meet
      case rel => exact ⟨A2, c2, rfl, hown2, hb2, hO2⟩
  case rest =>
  obtain ⟨A2, c2, rfl, hown, hb, hO2⟩ := hcut
  have hks : ∀ u, Blk u bx 35 CS → ∀ i, u.cell? ⟨bx, i, none⟩ = #[Value.int .i64 kind, .int .i64 task, .int .i64 call, .int .i64 a0, .int .i64 a1, .int .i64 a2, .int .i64 result, .slice A D c][i]? := fun u hb i => by rw [hb.cell, HCS.out]
  have HKT := Lib.hid hks
  have HB2 := Lib.hid hb
  have HO2 := Lib.hid hO2
  have HW2 := Lib.hid hown
  clear kd kd0
  have kd := hks wc.drew hb
  have kd0 := hks wc hb
  clear hks hb hO2 hown HKS
  go_wp2_with fail
  go_region_held3 (fun w' => ∀ i, w'.cell? ⟨bx, i, none⟩ = #[Value.int .i64 kind, .int .i64 task, .int .i64 call, .int .i64 a0, .int .i64 a1, .int .i64 a2, .int .i64 result, .slice A D c][i]?) (first | with_reducible assumption | go_keep)
    (first
      | (go_simp; go_at_call 31; refine (H4.out _ _ _ _ hO3 hb3 hown3).mono ?_; rintro x w4 ⟨A4, c4, rfl, hc4, hown4, hb4, hO4⟩; have hs4 := HKT.out _ hb4)
      | (go_simp; go_at_call 21; refine (H3.out _ _ _ _ HO2.out.drew HB2.out.drew HW2.out).mono ?_; rintro x w3 ⟨A3, c3, rfl, hown3, hb3, hO3⟩; have hs3 := HKT.out _ hb3))
  all_goals
    go_wp2_with fail
    go_ret
    exact ⟨A4, c4, rfl, hc4, hown4, hO4⟩

end Go.Proofs.Ytbhgaaendekghaa
