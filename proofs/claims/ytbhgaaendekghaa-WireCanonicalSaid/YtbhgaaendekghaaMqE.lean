/-
  wire.Msg: the encoding of a message is appended to the slice.
  Conditions: the slice's memory is the caller's own, and newer than the message; it has at most 2 to the power 38 bytes.
-/
import Derived.Test.YtbhgaaendekghaaMqP
import Derived.Test.YtbhgaaendekghaaMqR
import Derived.Deep.RegionHeld3
namespace Go.Proofs.Ytbhgaaendekghaa
open Go.RowKit

set_option maxRecDepth 100000 in
set_option maxHeartbeats 2000000 in
theorem wmsg_any (A : Option Addr) (c base : Nat) (l : List UInt8) (Am : Option Addr) (cm : Nat) (m : M) (w : World) (hb : base ≤ w.heap.size) (hw : w.ownsRow base 5 1 (.slice A l.length c) l.length (bcells l)) (hlc : l.length ≤ c)
    (hf : m.fits) (hm : Bs w base Am m.data) (hd : m.data.length ≤ 274877906944) (hl : l.length ≤ 274877906944) :
    Calls Try.prog 26 #[.slice A l.length c, .agg (mcells Am cm m).toArray] w (AppPost base (.slice A l.length c) (l ++ encM m) w) := by
  obtain ⟨V, hV⟩ : ∃ V, Value.slice A l.length c = V := ⟨_, rfl⟩
  have hn := hf.nums
  obtain ⟨src, dst, kind, seq, a0, a1, a2, a3, data⟩ := m
  unfold M.nums at hn
  dsimp only at hn hm hd
  obtain ⟨E1, hE1⟩ : ∃ E1, l ++ encL [src, dst, kind, seq] = E1 := ⟨_, rfl⟩
  obtain ⟨E2, hE2⟩ : ∃ E2, E1 ++ encL [a0, a1, a2, a3] = E2 := ⟨_, rfl⟩
  obtain ⟨E3, hE3⟩ : ∃ E3, E2 ++ encI data.length ++ data = E3 := ⟨_, rfl⟩
  have hE : l ++ encM ⟨src, dst, kind, seq, a0, a1, a2, a3, data⟩ = E3 := by
    rw [← hE3, ← hE2, ← hE1]
    unfold encM encL M.nums
    simp [List.append_assoc]
  rw [hE, hV]
  have n1 : ∀ z ∈ [src, dst, kind, seq], -9223372036854775808 ≤ z ∧ z ≤ 9223372036854775807 := fun z hz => hn z (by simp at hz ⊢; rcases hz with h | h | h | h <;> simp [h])
  have n2 : ∀ z ∈ [a0, a1, a2, a3], -9223372036854775808 ≤ z ∧ z ≤ 9223372036854775807 := fun z hz => hn z (by simp at hz ⊢; rcases hz with h | h | h | h <;> simp [h])
  have l1 : E1.length ≤ l.length + 40 := by
    rw [← hE1, List.length_append]
    have := encL_len n1
    simp only [List.length_cons, List.length_nil] at this
    omega
  have l2 : E2.length ≤ l.length + 80 := by
    rw [← hE2, List.length_append]
    have := encL_len n2
    simp only [List.length_cons, List.length_nil] at this
    omega
  obtain ⟨CS, hCS⟩ : ∃ CS : Array Value, CS = #[Value.int .i64 src, .int .i64 dst, .int .i64 kind, .int .i64 seq, .int .i64 a0, .int .i64 a1, .int .i64 a2, .int .i64 a3, .slice Am data.length cm] := ⟨_, rfl⟩
  have hVb : ∀ q, V.ownBlock = some q → base ≤ q := fun q hq => ownBlock_ge hw (by rw [hV]; exact hq)
  have hVl : ∀ q, V.ownBlock = some q → q < w.heap.size := fun q hq => own_lt hw (by rw [hV]; exact hq)
  have hc1 : ∀ u g, Only Nil w u → Blk u g 3 #[Value.int .i64 src, .int .i64 dst, .int .i64 kind, .int .i64 seq] → Calls Try.prog 59 #[V, .slice (some ⟨g, 0, none⟩) 4 4] u (AppPost base V E1 u) := fun u g hO hg => by
    have ho := own_onlyNil hw hO
    have := wplain_any A c base l (some ⟨g, 0, none⟩) 4 [src, dst, kind, seq] u (Nat.le_trans hb hO.size) ho hlc (fun w' hO2 => ⟨rfl, fun _ => ⟨g, 0, rfl, hg.lt, fun j v hj => (by
      have := (hg.only hO2 (own_blk_ne ho hg (by decide))).cell j
      rw [Nat.zero_add, this, ← hj]
      simp)⟩⟩) (by omega) (by simp) n1
    rw [hV, hE1] at this
    exact this
  have hc2 : ∀ u bx A1 c1, Only (fun y => V.ownBlock = some y) w u → Blk u bx 26 CS → E1.length ≤ c1 → u.ownsRow base 5 1 (.slice A1 E1.length c1) E1.length (bcells E1) → (∀ q, (Value.slice A1 E1.length c1).ownBlock = some q → V.ownBlock = some q ∨ w.heap.size ≤ q) →
      Calls Try.prog 59 #[.slice A1 E1.length c1, .slice (some ⟨bx, 4, none⟩) 4 4] u fun x u' => ∃ A2 c2, x = .returned (.slice A2 E2.length c2) ∧ u'.ownsRow base 5 1 (.slice A2 E2.length c2) E2.length (bcells E2) ∧ (∀ q, (Value.slice A2 E2.length c2).ownBlock = some q → V.ownBlock = some q ∨ w.heap.size ≤ q) ∧ Blk u' bx 26 CS ∧ Only (fun y => V.ownBlock = some y) w u' := fun u bx A1 c1 hO hbx hcc hown hsep => by
    have hne : ∀ w', Only (fun y => (Value.slice A1 E1.length c1).ownBlock = some y) u w' → Blk w' bx 26 CS := fun w' hO2 => hbx.only hO2 (own_blk_ne hown hbx (by decide))
    refine (wplain_any A1 c1 base E1 (some ⟨bx, 4, none⟩) 4 [a0, a1, a2, a3] u (Nat.le_trans hb hO.size) hown hcc (fun w' hO2 => ⟨rfl, fun _ => ⟨bx, 4, rfl, hbx.lt, fun j v hj => ?_⟩⟩) (by omega) (by simp) n2).mono ?_
    · rw [(hne w' hO2).cell, hCS]
      match j, hj with
      | 0, hj => simpa using hj
      | 1, hj => simpa using hj
      | 2, hj => simpa using hj
      | 3, hj => simpa using hj
      | n + 4, hj => simp at hj
    · rw [hE2]
      rintro x u' ⟨A2, c2, rfl, hc2, hown2, hq2, hO2⟩
      exact ⟨A2, c2, rfl, hown2, fun q hq => (by
        rcases hq2 q hq with h1 | h1
        · exact hsep q h1
        · exact .inr (Nat.le_trans hO.size h1)), hne u' hO2, hO.trans hO2 (fun x hx => hsep x hx)⟩
  have hc3 : ∀ u bx A2 c2, Only (fun y => V.ownBlock = some y) w u → Blk u bx 26 CS → u.ownsRow base 5 1 (.slice A2 E2.length c2) E2.length (bcells E2) → (∀ q, (Value.slice A2 E2.length c2).ownBlock = some q → V.ownBlock = some q ∨ w.heap.size ≤ q) →
      Calls Try.prog 31 #[.slice A2 E2.length c2, .slice Am data.length cm] u fun x u' => AppPost base V E3 w x u' ∧ Blk u' bx 26 CS := fun u bx A2 c2 hO hbx hown hsep => by
    refine (bytes_any A2 c2 base E2 Am cm data u (Nat.le_trans hb hO.size) hown (fun w' hO2 => ?_) (by omega) (by omega)).mono ?_
    · exact Rd.more (Rd.only hm (hO.trans hO2 (fun x hx => hsep x hx)) hb (fun x hx => hVb x hx)) (Nat.le_trans hb hO.size)
    · rw [hE3]
      rintro x u' ⟨A3, c3, rfl, hc3, hown3, hq3, hO3⟩
      exact ⟨⟨A3, c3, rfl, hc3, hown3, fun q hq => (by
        rcases hq3 q hq with h1 | h1
        · exact hsep q h1
        · exact .inr (Nat.le_trans hO.size h1)), hO.trans hO3 (fun x hx => hsep x hx)⟩, hbx.only hO3 (own_blk_ne hown hbx (by decide))⟩
  unfold mcells
  dsimp only
  obtain ⟨D, hD⟩ : ∃ D, data.length = D := ⟨_, rfl⟩
  obtain ⟨L1, hL1⟩ : ∃ L1, E1.length = L1 := ⟨_, rfl⟩
  obtain ⟨L2, hL2⟩ : ∃ L2, E2.length = L2 := ⟨_, rfl⟩
  rw [hL1] at hc2
  rw [hL2] at hc2 hc3
  rw [hD] at hc3 hCS ⊢
  unfold AppPost at hc1
  rw [hL1] at hc1
  have H1 := Lib.hid hc1
  have H2 := Lib.hid hc2
  have H3 := Lib.hid hc3
  have HCS := Lib.hid hCS
  have HVL := Lib.hid hVl
  have HV := Lib.hid hV
  obtain ⟨AV, nV, cV, hVV⟩ : ∃ a n c, V = .slice a n c := ⟨_, _, _, hV.symm⟩
  subst hVV
  clear hc1 hc2 hc3 hE1 hE2 hE3 hE l1 l2 hL1 hL2 n1 n2 hVb hVl hm hd hl hn hf hw hlc hb hD hV hCS
  go_enter Try.func26, Try.ntmps26
  go_upto_region 0 with fail
  go_cut [3, 4] (fun p v wd => v = .slice none 0 0 ∧ ∃ bx, p = .pointer (some ⟨bx, 0, none⟩) ∧ Blk wd bx 26 CS ∧ w.heap.size ≤ bx ∧ Only Nil w wd)
  case first =>
    go_wp2_with fail
    go_meet
    case rel => exact ⟨rfl, _, rfl, by rw [HCS.out]; exact Blk.new _ _ _, Nat.le_refl _, by (repeat' (first | with_reducible exact Only.refl _ _ | with_reducible refine Only.setCell ?_ (Or.inl ?_) _ | with_reducible refine Only.drewN ?_ _ | with_reducible refine Only.drew ?_ | with_reducible refine Only.alloc ?_ _ | (fail)))⟩
  case rest =>
  obtain ⟨rfl, bx, rfl, hb, hbx, hO⟩ := hcut
  have HB := Lib.hid hb
  have HO := Lib.hid hO
  have HBX := Lib.hid hbx
  have kd0 : ∀ i, wc.cell? ⟨bx, i, none⟩ = #[Value.int .i64 src, .int .i64 dst, .int .i64 kind, .int .i64 seq, .int .i64 a0, .int .i64 a1, .int .i64 a2, .int .i64 a3, .slice Am D cm][i]? := fun i => by rw [hb.cell, HCS.out]
  clear hb hO hbx
  go_wp2_with fail
  refine (H1.out _ _ (HO.out.alloc _) (Blk.new _ _ _)).mono ?_
  rintro e w1 ⟨A1, c1, rfl, hc1, hown1, hq1, hO1⟩
  have hb1 := (HB.out.alloc _).only hO1 (fun hx => by have := HVL.out _ hx; have := HBX.out; omega)
  have HB1 := Lib.hid hb1
  have HC1 := Lib.hid hc1
  have HW1 := Lib.hid hown1
  have HQ1 : Hid (∀ q, (Value.slice A1 L1 c1).ownBlock = some q → (Value.slice AV nV cV).ownBlock = some q ∨ w.heap.size ≤ q) := Lib.hid (fun q hq => by
    rcases hq1 q hq with h1 | h1
    · exact .inl h1
    · exact .inr (Nat.le_trans (HO.out.alloc _).size h1))
  have HO1 := Lib.hid (((HO.out.alloc _).any (S := fun y => (Value.slice AV nV cV).ownBlock = some y)).then_ hO1)
  clear hc1 hown1 hq1 hO1 hb1 kd0
  have hks : ∀ u, Blk u bx 26 CS → ∀ i, u.cell? ⟨bx, i, none⟩ = #[Value.int .i64 src, .int .i64 dst, .int .i64 kind, .int .i64 seq, .int .i64 a0, .int .i64 a1, .int .i64 a2, .int .i64 a3, .slice Am D cm][i]? := fun u hb i => by rw [hb.cell, HCS.out]
  have HKT := Lib.hid hks
  have kd := hks w1.drew HB1.out
  have kd0 := hks w1 HB1.out
  clear hks
  go_wp2_with fail
  go_region_held3 (fun w' => ∀ i, w'.cell? ⟨bx, i, none⟩ = #[Value.int .i64 src, .int .i64 dst, .int .i64 kind, .int .i64 seq, .int .i64 a0, .int .i64 a1, .int .i64 a2, .int .i64 a3, .slice Am D cm][i]?) (first | with_reducible assumption | go_keep)
    (first
      | (go_simp; go_at_call 31; refine (H3.out _ _ _ _ hO2 hb2 hown2 hq2).mono ?_; rintro x w3 ⟨⟨A3, c3, rfl, hc3, hown3, hq3, hO3⟩, hb3⟩; have hs3 := HKT.out _ hb3)
      | (go_simp; go_at_call 59; refine (H2.out _ _ _ _ HO1.out.drew HB1.out.drew HC1.out HW1.out HQ1.out).mono ?_; rintro x w2 ⟨A2, c2, rfl, hown2, hq2, hb2, hO2⟩; have hs2 := HKT.out _ hb2))
  all_goals
    go_wp2_with fail
    go_ret
    exact ⟨A3, c3, rfl, hc3, hown3, hq3, hO3⟩

end Go.Proofs.Ytbhgaaendekghaa
