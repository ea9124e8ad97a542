/-
  Walks of ratoonref01's reader: Int, Bounded, Bytes, End.
  Conditions: the reader stands within its bytes; they are at most 2 to the power 40.
-/
import Derived.Test.YtbhgaaendekghaaRfK
import Derived.StillTailTactics
import Derived.BigQuiet
namespace Go.Proofs.Ytbhgaaendekghaa
open Go.RowKit

def RfIntPost (r : Int × Nat × Bool) (p : Nat) (A : Option Addr) (c : Nat) (l : List UInt8) (w : World) (e : Ending) (w' : World) : Prop :=
  e = .returned (.int .i64 r.1) ∧ RF w' p A c l r.2.1 r.2.2 ∧ Only (One p) w w'

theorem rInt_pos {l : List UInt8} {pos : Nat} (f : Bool) (hp : pos ≤ l.length) : (rInt l pos f).2.1 ≤ l.length := by
  unfold rInt
  split
  · exact hp
  · split
    · rename_i hd
      have := dec_len hd
      rw [List.length_drop] at this
      dsimp only
      omega
    · exact hp
theorem rBnd_pos {lo hi : Int} {l : List UInt8} {pos : Nat} (f : Bool) (hp : pos ≤ l.length) : (rBnd lo hi l pos f).2.1 ≤ l.length := by
  unfold rBnd
  split
  · exact hp
  · split
    · rename_i hd
      have := dec_len hd
      rw [List.length_drop] at this
      split
      · dsimp only; omega
      · exact hp
    · exact hp
theorem decB_len {most : Int} {l x : List UInt8} {n : Nat} (h : decB most l = some (x, n)) : n ≤ l.length := by
  unfold decB at h
  split at h
  · rename_i hd
    have := dec_len hd
    split at h
    · injection h with h
      injection h with _ h
      omega
    · cases h
  · cases h
theorem rByt_pos {most : Int} {l : List UInt8} {pos : Nat} (f : Bool) (hp : pos ≤ l.length) : (rByt most l pos f).2.1 ≤ l.length := by
  unfold rByt
  split
  · exact hp
  · split
    · rename_i hd
      have := decB_len hd
      rw [List.length_drop] at this
      dsimp only
      omega
    · exact hp

set_option maxRecDepth 100000 in
set_option maxHeartbeats 2000000 in
theorem rfInt_any (p : Nat) (A : Option Addr) (c : Nat) (l : List UInt8) (pos : Nat) (f : Bool) (w : World) (h : RF w p A c l pos f) (hp : pos ≤ l.length) (hl : l.length ≤ 1099511627776) :
    Calls Try.prog 55 #[.pointer (some ⟨p, 0, none⟩)] w (RfIntPost (rInt l pos f) p A c l w) := by
  have HPK := Lib.hid (rfPeek_any p A c l pos f w h hp hl)
  have H := Lib.hid h
  have HPL := Lib.hid hp
  have HLL := Lib.hid hl
  clear h hp hl
  obtain ⟨r, hr⟩ : ∃ r, rInt l pos f = r := ⟨_, rfl⟩
  rw [hr]
  have HRR := Lib.hid hr
  clear hr
  go_enter Try.func55, Try.ntmps55
  go_wp2_with fail
  refine HPK.out.mono ?_
  rintro e w1 ⟨z, b, rfl, hz, hy, hn, hO1⟩
  obtain ⟨N, hN⟩ : ∃ N, l.length = N := ⟨_, rfl⟩
  have hbx := (H.out.onlyNil hO1).box
  have HB := Lib.hid hbx
  rw [hN] at hbx
  have kb : ∀ i, w1.cell? ⟨p, i, none⟩ = #[Value.slice A N c, .int .i64 pos, .bool f][i]? := fun i => hbx.cell i
  have fb : ∀ i, w1.frozen? ⟨p, i, none⟩ = false := fun i => hbx.frozen i
  have HRF := Lib.hid (H.out.onlyNil hO1)
  have HY := Lib.hid hy
  have HNO := Lib.hid hn
  have HZ := Lib.hid hz
  have HO1 := Lib.hid hO1
  have HN := Lib.hid hN
  clear hy hn hz hO1 hN hbx
  have hfail : (f = true ∨ b = false) → r = (0, pos, true) := fun hh => by
    rw [← HRR.out]
    unfold rInt
    cases f
    · rw [if_neg (by simp)]
      cases hd : dec (l.drop pos) with
      | none => rfl
      | some q =>
        obtain ⟨y, k⟩ := q
        have := (HY.out y k hd).2
        rcases hh with h1 | h1
        · cases h1
        · rw [this] at h1; cases h1
    · rw [if_pos rfl]
  have hfin : r = (0, pos, true) → ∀ u, Only (One p) w1 u → Blk u p 40 #[.slice A l.length c, .int .i64 pos, .bool true] → RfIntPost r p A c l w (.returned (.int .i64 0)) u := fun hr u hu hb => by
    rw [hr]
    exact ⟨rfl, HRF.out.move hu hb, HO1.out.any.then_ hu⟩
  have HFIN := Lib.hid hfin
  cases f
  rotate_left
  · have hr0 := hfail (.inl rfl)
    have HR0 := Lib.hid hr0
    clear hfail hfin hr0
    go_wp2_with fail
    go_ret
    exact HFIN.out HR0.out _ (by (repeat' (first | with_reducible exact Only.refl _ _ | with_reducible refine Only.setCell ?_ (Or.inl ?_) _ | with_reducible refine Only.drewN ?_ _ | with_reducible refine Only.drew ?_ | with_reducible refine Only.alloc ?_ _ | (exact rfl)))) (HB.out.set_ 2 (.bool true))
  cases b
  · have hr0 := hfail (.inr rfl)
    have HR0 := Lib.hid hr0
    clear hfail hfin hr0
    go_wp2_with fail
    go_ret
    exact HFIN.out HR0.out _ (by (repeat' (first | with_reducible exact Only.refl _ _ | with_reducible refine Only.setCell ?_ (Or.inl ?_) _ | with_reducible refine Only.drewN ?_ _ | with_reducible refine Only.drew ?_ | with_reducible refine Only.alloc ?_ _ | (exact rfl)))) (HB.out.set_ 2 (.bool true))
  clear hfail hfin HFIN
  cases hd : dec (l.drop pos) with
  | none => have := HNO.out hd; cases this
  | some q =>
  obtain ⟨y, k⟩ := q
  obtain ⟨rfl, _⟩ := HY.out y k hd
  have hk := (dec_some hd).1
  have hkl := dec_len hd
  rw [List.length_drop, HN.out] at hkl
  have hr1 : r = (z, pos + k, false) := by
    rw [← HRR.out]
    unfold rInt
    rw [if_neg (by simp), hd]
  have hpN : pos ≤ N := by rw [← HN.out]; exact HPL.out
  have hN40 : N ≤ 1099511627776 := by rw [← HN.out]; exact HLL.out
  have HI := Lib.hid (fun u => Ref.int_any z u HZ.out)
  unfold BytesPost at HI
  obtain ⟨ez, hez⟩ : ∃ ez, encI z = ez := ⟨_, rfl⟩
  rw [hez] at HI hk
  have HK := Lib.hid hk
  have HR1 := Lib.hid hr1
  have HB0 := Lib.hid HB.out
  have hlt := HB.out.lt
  have HLT := Lib.hid hlt
  have hw1 : IntKind.i64.wrap ((pos : Int) + k) = ((pos + k : Nat) : Int) := by rw [IntWalk.i64_in _ (by omega)]; omega
  have HW1 := Lib.hid hw1
  clear hd hk hr1 hez hlt
  rw [HN.out] at HB
  go_wp2_with fail
  have HIN : Hid (∀ (L : Nat → Bool) (vs : Nat → Value) (u u' : World), Only Nil u u' → (fun _ _ u => Only Nil w1 u) L vs u → (fun _ _ u => Only Nil w1 u) L vs u') := Lib.hid (fun L vs u u' hO hI => by
    exact hI.thenNil hO)
  refine wp_region_any (by kernel_rfl) ?_
  change wpAny _ _ _ _ _ _ _ (World.drew _)
  refine take_first (i := 0) (v := ?v0_1) (some 21) rfl (by rfl) (by kernel_rfl) (by kernel_rfl) (by kernel_rfl) (fun _ _ _ h => h) (Or.inl ⟨by rfl, ?hy0_1⟩) ?rest0_1
  case hy0_1 => (intro w; go_simp <;> with_reducible rfl)
  refine take_first (i := 1) (v := ?v1_1) (some 22) rfl (by rfl) (by kernel_rfl) (by kernel_rfl) (by kernel_rfl) (fun _ _ _ h => h) (Or.inl ⟨by rfl, ?hy1_1⟩) ?rest1_1
  case hy1_1 => (intro w; go_simp <;> with_reducible rfl)
  refine take_first (i := 2) (v := ?v2_1) (some 23) rfl (by rfl) (by kernel_rfl) (by kernel_rfl) (by kernel_rfl) (fun _ _ _ h => h) (Or.inl ⟨by rfl, ?hy2_1⟩) ?rest2_1
  case hy2_1 => (intro w; go_simp <;> with_reducible rfl)
  refine take_first (i := 4) (v := ?v4_1) (some 25) rfl (by rfl) (by kernel_rfl) (by kernel_rfl) (by kernel_rfl) (fun _ _ _ h => h) (Or.inl ⟨by rfl, ?hy4_1⟩) ?rest4_1
  case hy4_1 => (intro w; go_simp <;> with_reducible rfl)
  refine wpAny_inv2 (X := [(3, some 24, []), (5, some 26, []), (6, some 27, [5]), (7, some 28, [3, 6])]) (n := 4) (g := 3) (m := 8) (l0 := [true, true, true, false, true, false, false, false, false, false, false]) (T := Nil) (Ps := [Any, Any, Any, Cst (.int .i64 pos), Any, OwnB 5 w1.heap.size ez, Cst (.int .i64 k), Cst (.int .i64 ((pos + k : Nat) : Int))])
    (I := fun _ _ u => Only Nil w1 u)
    (by kernel_rfl) rfl (by kernel_rfl) (by kernel_rfl) (by kernel_rfl) rfl ?h0_1 ?st_1 ?i0_1 ?step_1 ?fin_1
  case h0_1 =>
    intro j hj v u
    match j, hj with
    | 0, hj => trivial
    | 1, hj => trivial
    | 2, hj => trivial
    | 3, hj => exact absurd hj (by decide)
    | 4, hj => trivial
    | 5, hj => exact absurd hj (by decide)
    | 6, hj => exact absurd hj (by decide)
    | 7, hj => exact absurd hj (by decide)
    | 8, hj => exact absurd hj (by decide)
    | 9, hj => exact absurd hj (by decide)
    | 10, hj => exact absurd hj (by decide)
    | n + 11, hj => exact absurd hj (by simp)
  case st_1 =>
    have hT : ∀ x, (Nil) x → x < 0 := fun x h => h.elim
    intro p hp
    simp only [List.mem_cons, List.not_mem_nil, or_false] at hp
    rcases hp with rfl | rfl | rfl | rfl | rfl | rfl | rfl | rfl <;> first | exact Stays.cst _ | exact Stays.own hT | exact Stays.emp hT | exact Stays.any | exact Stays.ownNil
  case i0_1 =>
    intro vs
    exact (Only.refl _ _).drew
  case step_1 =>
    intro x hx L vs u hI hA h0 hd
    simp only [List.mem_cons, List.not_mem_nil, or_false] at hx
    rcases hx with rfl | rfl | rfl | rfl
    · refine inv_step _ (by rfl) (by rfl) (fun K' hK => ?_)
      simp only [putAll, Act.put, List.setIfInBounds_toArray, List.set_cons_succ, List.set_cons_zero] at hK ⊢
      have ks := fun i => (HB.out.onlyNil hI).cell i
      go_simp
      exact hK _ _ ⟨Only.refl _ _, hI, rfl⟩
    · refine inv_step _ (by rfl) (by rfl) (fun K' hK => ?_)
      simp only [putAll, Act.put, List.setIfInBounds_toArray, List.set_cons_succ, List.set_cons_zero] at hK ⊢
      go_simp
      go_at_call 73
      refine (HI.out _).mono ?_
      rintro x u2 ⟨A2, c2, rfl, hc2, ho2, hO2⟩
      go_simp
      exact hK _ _ ⟨hO2, HIN.out L vs _ _ hO2 hI, ⟨A2, c2, rfl, hc2, own_base ho2 hI.size⟩⟩
    · refine inv_step _ (by rfl) (by rfl) (fun K' hK => ?_)
      simp only [putAll, Act.put, List.setIfInBounds_toArray, List.set_cons_succ, List.set_cons_zero] at hK ⊢
      obtain ⟨A2, c2, e5, hc2, ho2⟩ := hA 5 (hd 5 (by simp))
      rw [HK.out] at e5
      simp only [e5] at hK
      go_simp
      exact hK _ _ ⟨Only.refl _ _, hI, rfl⟩
    · refine inv_step _ (by rfl) (by rfl) (fun K' hK => ?_)
      simp only [putAll, Act.put, List.setIfInBounds_toArray, List.set_cons_succ, List.set_cons_zero] at hK ⊢
      have e3 := hA 3 (hd 3 (by simp))
      change vs 3 = (.int .i64 pos) at e3
      have e6 := hA 6 (hd 6 (by simp))
      change vs 6 = (.int .i64 k) at e6
      simp only [e3, e6] at hK
      have hw1 := HW1.out
      go_simp
      exact hK _ _ ⟨Only.refl _ _, hI, by first | rfl | (congr 1; omega)⟩
  case fin_1 =>
    intro L vs u hI hL hA
    simp only [putAll, Act.put, List.setIfInBounds_toArray, List.set_cons_succ, List.set_cons_zero, List.drop_succ_cons, List.drop_zero]
    have e7 := hA 7 (by omega)
    change vs 7 = .int .i64 ((pos + k : Nat) : Int) at e7
    simp only [e7]
    have hbu := HB.out.onlyNil hI
    have ku : ∀ i, u.cell? ⟨p, i, none⟩ = #[Value.slice A N c, .int .i64 pos, .bool false][i]? := fun i => hbu.cell i
    have fu : ∀ i, u.frozen? ⟨p, i, none⟩ = false := fun i => hbu.frozen i
    have HBU := Lib.hid hbu
    have HI2 := Lib.hid hI
    clear hA hL hI e7 hbu kb fb
    go_wp2_with fail
    go_ret
    have hO2 : Only (One p) u (u.setCell ⟨p, 1, none⟩ (.int .i64 ((pos + k : Nat) : Int))) := by (repeat' (first | with_reducible exact Only.refl _ _ | with_reducible refine Only.setCell ?_ (Or.inl ?_) _ | with_reducible refine Only.drewN ?_ _ | with_reducible refine Only.drew ?_ | with_reducible refine Only.alloc ?_ _ | (exact rfl)))
    have hb2 := HBU.out.set_ 1 (.int .i64 ((pos + k : Nat) : Int))
    rw [← HN.out] at hb2
    have hfin : RfIntPost r p A c l w (.returned (.int .i64 z)) (u.setCell ⟨p, 1, none⟩ (.int .i64 ((pos + k : Nat) : Int))) := by
      rw [HR1.out]
      exact ⟨rfl, (HRF.out.onlyNil HI2.out).move hO2 hb2, (HO1.out.thenNil HI2.out).any.then_ hO2⟩
    exact hfin

set_option maxRecDepth 100000 in
set_option maxHeartbeats 2000000 in
theorem rfBnd_any (lo hi : Int) (p : Nat) (A : Option Addr) (c : Nat) (l : List UInt8) (pos : Nat) (f : Bool) (w : World) (h : RF w p A c l pos f) (hp : pos ≤ l.length) (hl : l.length ≤ 1099511627776) :
    Calls Try.prog 57 #[.pointer (some ⟨p, 0, none⟩), .int .i64 lo, .int .i64 hi] w (RfIntPost (rBnd lo hi l pos f) p A c l w) := by
  have HPK := Lib.hid (rfPeek_any p A c l pos f w h hp hl)
  have H := Lib.hid h
  have HPL := Lib.hid hp
  have HLL := Lib.hid hl
  clear h hp hl
  obtain ⟨r, hr⟩ : ∃ r, rBnd lo hi l pos f = r := ⟨_, rfl⟩
  rw [hr]
  have HRR := Lib.hid hr
  clear hr
  go_enter Try.func57, Try.ntmps57
  go_wp2_with fail
  refine HPK.out.mono ?_
  rintro e w1 ⟨z, b, rfl, hz, hy, hn, hO1⟩
  have HRF := Lib.hid (H.out.onlyNil hO1)
  have HBX := Lib.hid HRF.out.box
  have kb : ∀ i, w1.cell? ⟨p, i, none⟩ = #[Value.slice A l.length c, .int .i64 pos, .bool f][i]? := fun i => HBX.out.cell i
  have fb : ∀ i, w1.frozen? ⟨p, i, none⟩ = false := fun i => HBX.out.frozen i
  have HY := Lib.hid hy
  have HNO := Lib.hid hn
  have HO1 := Lib.hid hO1
  clear hy hn hz hO1
  -- the bad ways: the reader fails, and Int answers 0
  have hbad : (∀ y k, dec (l.drop pos) = some (y, k) → ¬ (lo ≤ y ∧ y ≤ hi)) → r = (0, pos, true) := fun hh => by
    rw [← HRR.out]
    unfold rBnd
    split
    · rfl
    · cases hd : dec (l.drop pos) with
      | none => rfl
      | some q =>
        obtain ⟨y, k⟩ := q
        dsimp only
        rw [if_neg (hh y k hd)]
  have hset : RF (w1.setCell ⟨p, 2, none⟩ (.bool true)) p A c l pos true := HRF.out.move (by (repeat' (first | with_reducible exact Only.refl _ _ | with_reducible refine Only.setCell ?_ (Or.inl ?_) _ | with_reducible refine Only.drewN ?_ _ | with_reducible refine Only.drew ?_ | with_reducible refine Only.alloc ?_ _ | (exact rfl)))) (HBX.out.set_ 2 (.bool true))
  have hcall := rfInt_any p A c l pos true _ hset HPL.out HLL.out
  have hr0 : rInt l pos true = (0, pos, true) := by unfold rInt; rw [if_pos rfl]
  rw [hr0] at hcall
  have HCALL := Lib.hid hcall
  have HOS : Hid (Only (One p) w (w1.setCell ⟨p, 2, none⟩ (.bool true))) := Lib.hid (HO1.out.any.then_ (by (repeat' (first | with_reducible exact Only.refl _ _ | with_reducible refine Only.setCell ?_ (Or.inl ?_) _ | with_reducible refine Only.drewN ?_ _ | with_reducible refine Only.drew ?_ | with_reducible refine Only.alloc ?_ _ | (exact rfl)))))
  have HBAD := Lib.hid hbad
  clear hset hcall hr0 hbad
  by_cases hg : b = true ∧ lo ≤ z ∧ z ≤ hi
  · obtain ⟨hb, h1, h2⟩ := hg
    subst hb
    have hg1 : ¬ z < lo := by omega
    have hg2 : ¬ hi < z := by omega
    have HI := Lib.hid (rfInt_any p A c l pos f w1 HRF.out HPL.out HLL.out)
    have hri : rInt l pos f = r := by
      rw [← HRR.out]
      unfold rInt rBnd
      split
      · rfl
      · cases hd : dec (l.drop pos) with
        | none => rfl
        | some q =>
          obtain ⟨y, k⟩ := q
          obtain ⟨rfl, _⟩ := HY.out y k hd
          dsimp only
          rw [if_pos ⟨h1, h2⟩]
    rw [hri] at HI
    clear hri kb fb
    go_wp2_with fail
    refine HI.out.mono ?_
    rintro e w2 ⟨rfl, hR, hO⟩
    have HR := Lib.hid hR
    have HO := Lib.hid hO
    clear hR hO
    go_wp2_with fail
    go_ret
    exact ⟨rfl, HR.out, HO1.out.any.then_ HO.out⟩
  · have hr1 : r = (0, pos, true) := HBAD.out (fun y k hd hh => by
      obtain ⟨rfl, hb⟩ := HY.out y k hd
      exact hg ⟨hb, hh⟩)
    have HR1 := Lib.hid hr1
    clear hr1
    have hlast : ∀ (e : Ending) (w2 : World), RfIntPost (0, pos, true) p A c l (w1.setCell ⟨p, 2, none⟩ (.bool true)) e w2 → RfIntPost r p A c l w e w2 := fun e w2 hh => by
      rw [HR1.out]
      exact ⟨hh.1, hh.2.1, HOS.out.then_ hh.2.2⟩
    have HLAST := Lib.hid hlast
    clear hlast
    cases b
    · go_wp2_with fail
      refine HCALL.out.mono ?_
      rintro e w2 hh
      have HH := Lib.hid (HLAST.out _ _ hh)
      obtain ⟨rfl, _, _⟩ := hh
      go_wp2_with fail
      go_ret
      exact HH.out
    · by_cases h1 : z < lo
      · go_wp2_with fail
        refine HCALL.out.mono ?_
        rintro e w2 hh
        have HH := Lib.hid (HLAST.out _ _ hh)
        obtain ⟨rfl, _, _⟩ := hh
        go_wp2_with fail
        go_ret
        exact HH.out
      · have h2 : hi < z := by
          rcases Int.lt_or_le hi z with h2 | h2
          · exact h2
          · exact absurd ⟨rfl, by omega, h2⟩ hg
        clear hg
        go_wp2_with fail
        refine HCALL.out.mono ?_
        rintro e w2 hh
        have HH := Lib.hid (HLAST.out _ _ hh)
        obtain ⟨rfl, _, _⟩ := hh
        go_wp2_with fail
        go_ret
        exact HH.out

def RfBytPost (r : List UInt8 × Nat × Bool) (p : Nat) (A : Option Addr) (c : Nat) (l : List UInt8) (w : World) (e : Ending) (w' : World) : Prop :=
  ∃ Ax cx, e = .returned (.slice Ax r.1.length cx) ∧ r.1.length ≤ cx ∧ w'.ownsRow w.heap.size 5 1 (.slice Ax r.1.length cx) r.1.length (bcells r.1) ∧ RF w' p A c l r.2.1 r.2.2 ∧ Only (One p) w w'

set_option maxRecDepth 100000 in
set_option maxHeartbeats 2000000 in
theorem rfByt_any (most : Int) (p : Nat) (A : Option Addr) (c : Nat) (l : List UInt8) (pos : Nat) (f : Bool) (w : World) (h : RF w p A c l pos f) (hp : pos ≤ l.length) (hl : l.length ≤ 1099511627776) (hc : c ≤ maxLen) :
    Calls Try.prog 56 #[.pointer (some ⟨p, 0, none⟩), .int .i64 most] w (RfBytPost (rByt most l pos f) p A c l w) := by
  obtain ⟨i0, hi0, hz0, hz1, hz2⟩ := info_parts byte_info
  unfold maxLen at hc
  have HBN := Lib.hid (rfBnd_any 0 most p A c l pos f w h hp hl)
  have hq := rBnd_pos (lo := 0) (hi := most) f hp
  have H := Lib.hid h
  have HPL := Lib.hid hp
  have HLL := Lib.hid hl
  have HBX := Lib.hid h.box
  have kb : ∀ i, w.cell? ⟨p, i, none⟩ = #[Value.slice A l.length c, .int .i64 pos, .bool f][i]? := fun i => HBX.out.cell i
  obtain ⟨r, hr⟩ : ∃ r, rByt most l pos f = r := ⟨_, rfl⟩
  rw [hr]
  have HRR := Lib.hid hr
  obtain ⟨s, hs⟩ : ∃ s, rBnd 0 most l pos f = s := ⟨_, rfl⟩
  rw [hs] at HBN hq
  have HS := Lib.hid hs
  obtain ⟨v, P, g⟩ := s
  dsimp only at hq
  obtain ⟨N, hN⟩ : ∃ N, l.length = N := ⟨_, rfl⟩
  have HN := Lib.hid hN
  rw [hN] at hq hp hl
  have hNc : N ≤ c := by rw [← hN]; exact h.cap
  clear h hr hs hN
  -- when it fails
  have hbad : (g = true ∨ ¬ v ≤ (N : Int) - P) → r = ([], pos, true) := fun hh => by
    rw [← HRR.out]
    have hs := HS.out
    unfold rByt decB
    unfold rBnd at hs
    cases f
    · rw [if_neg (by simp)] at hs ⊢
      cases hd : dec (l.drop pos) with
      | none => rfl
      | some q =>
        obtain ⟨y, k⟩ := q
        have hkl := dec_len hd
        rw [hd] at hs
        dsimp only at hs ⊢
        rw [List.length_drop, HN.out] at hkl ⊢
        by_cases hy : 0 ≤ y ∧ y ≤ most
        · rw [if_pos hy] at hs
          injection hs with e1 e2
          injection e2 with e2 e3
          subst e1 e2 e3
          rw [if_neg (by rcases hh with h | h; cases h; omega)]
        · rw [if_neg (fun h => hy ⟨h.1, h.2.1⟩)]
    · rw [if_pos rfl]
  have HBAD := Lib.hid hbad
  clear hbad
  go_enter Try.func56, Try.ntmps56
  go_wp2_with fail
  refine HBN.out.mono ?_
  rintro e w1 ⟨rfl, hR1, hO1⟩
  dsimp only at hR1 ⊢
  have HR1 := Lib.hid hR1
  have hbx := hR1.box
  rw [HN.out] at hbx
  have HB1 := Lib.hid hbx
  have HO1 := Lib.hid hO1
  clear hR1 hO1 kb hbx
  have kb : ∀ i, w1.cell? ⟨p, i, none⟩ = #[Value.slice A N c, .int .i64 P, .bool g][i]? := fun i => HB1.out.cell i
  have kd : ∀ i, w1.drew.cell? ⟨p, i, none⟩ = #[Value.slice A N c, .int .i64 P, .bool g][i]? := fun i => HB1.out.drew.cell i
  have hsub : IntKind.i64.wrap ((N : Int) - P) = (N : Int) - P := IntWalk.i64_in _ (by omega)
  obtain ⟨w2, rfl⟩ : ∃ w2, w2 = w1 := ⟨_, rfl⟩
  obtain ⟨T, hT⟩ : ∃ T, (g || decide ((N : Int) - P < v)) = T := ⟨_, rfl⟩
  go_upto_region 3 with fail
  go_cut [31] (fun x wd => x = .bool T ∧ Only Nil w2 wd)
  case first =>
    cases g
    · cases hb : decide ((N : Int) - P < v)
      · have HT := Lib.hid (show T = false by rw [← hT, hb]; rfl)
        clear hT
        go_quiet (fail)
        go_wp2_with fail
        go_meet
        case rel => exact ⟨by rw [HT.out], by (repeat' (first | with_reducible exact Only.refl _ _ | with_reducible refine Only.setCell ?_ (Or.inl ?_) _ | with_reducible refine Only.drewN ?_ _ | with_reducible refine Only.drew ?_ | with_reducible refine Only.alloc ?_ _ | (fail)))⟩
      · have HT := Lib.hid (show T = true by rw [← hT, hb]; rfl)
        clear hT
        go_quiet (fail)
        go_wp2_with fail
        go_meet
        case rel => exact ⟨by rw [HT.out], by (repeat' (first | with_reducible exact Only.refl _ _ | with_reducible refine Only.setCell ?_ (Or.inl ?_) _ | with_reducible refine Only.drewN ?_ _ | with_reducible refine Only.drew ?_ | with_reducible refine Only.alloc ?_ _ | (fail)))⟩
    · have HT := Lib.hid (show T = true by rw [← hT]; rfl)
      clear hT
      go_quiet (fail)
      go_wp2_with fail
      go_meet
      case rel => exact ⟨by rw [HT.out], by (repeat' (first | with_reducible exact Only.refl _ _ | with_reducible refine Only.setCell ?_ (Or.inl ?_) _ | with_reducible refine Only.drewN ?_ _ | with_reducible refine Only.drew ?_ | with_reducible refine Only.alloc ?_ _ | (fail)))⟩
  case rest =>
  obtain ⟨rfl, hO3⟩ := hcut
  have HT := Lib.hid hT
  have HB3 := Lib.hid (HB1.out.onlyNil hO3)
  have HR3 := Lib.hid (HR1.out.onlyNil hO3)
  have HO3 := Lib.hid (HO1.out.thenNil hO3)
  clear kb kd hO3 hT
  have kb : ∀ i, wc.cell? ⟨p, i, none⟩ = #[Value.slice A N c, .int .i64 P, .bool g][i]? := fun i => HB3.out.cell i
  have fb : ∀ i, wc.frozen? ⟨p, i, none⟩ = false := fun i => HB3.out.frozen i
  cases T
  rotate_left
  · have hr0 := HBAD.out (by
      have := HT.out
      cases g
      · right
        have h1 : (N : Int) - P < v := by simpa using this
        omega
      · left; rfl)
    have HR0 := Lib.hid hr0
    clear hr0
    go_wp2_with fail
    go_ret
    have hfin : ∀ u, Only (One p) wc u → Blk u p 40 #[.slice A N c, .int .i64 pos, .bool true] → RfBytPost r p A c l w (.returned (.slice none 0 0)) u := fun u hu hb => by
      rw [← HN.out] at hb
      rw [HR0.out]
      exact ⟨none, 0, rfl, Nat.le_refl _, World.ownsRow_nil _ _ _ _, HR3.out.move hu hb, HO3.out.then_ hu⟩
    refine hfin _ (by (repeat' (first | with_reducible exact Only.refl _ _ | with_reducible refine Only.setCell ?_ (Or.inl ?_) _ | with_reducible refine Only.drewN ?_ _ | with_reducible refine Only.drew ?_ | with_reducible refine Only.alloc ?_ _ | (exact rfl)))) ((HB3.out.set_ 2 (.bool true)).set_ 1 (.int .i64 pos))
  · have hg : g = false := by
      have := HT.out
      cases g
      · rfl
      · cases this
    subst hg
    have hvN : v ≤ (N : Int) - P := by
      have := HT.out
      simp at this
      omega
    have hs := HS.out
    unfold rBnd at hs
    cases f
    rotate_left
    · rw [if_pos rfl] at hs
      injection hs with _ hs
      injection hs with _ hs
      cases hs
    rw [if_neg (by simp)] at hs
    cases hd : dec (l.drop pos) with
    | none =>
      rw [hd] at hs
      injection hs with _ hs
      injection hs with _ hs
      cases hs
    | some q =>
    obtain ⟨y, k⟩ := q
    have hkl := dec_len hd
    rw [List.length_drop, HN.out] at hkl
    rw [hd] at hs
    dsimp only at hs
    by_cases hy : 0 ≤ y ∧ y ≤ most
    rotate_left
    · rw [if_neg hy] at hs
      injection hs with _ hs
      injection hs with _ hs
      cases hs
    rw [if_pos hy] at hs
    injection hs with e1 e2
    injection e2 with e2 _
    subst e1
    obtain ⟨K, rfl⟩ : ∃ K : Nat, y = K := ⟨y.toNat, by omega⟩
    obtain ⟨x, hx⟩ : ∃ x, (l.drop P).take K = x := ⟨_, rfl⟩
    have hxl : x.length = K := by rw [← hx, List.length_take, List.length_drop, HN.out]; omega
    have hr1 : r = (x, P + K, false) := by
      rw [← HRR.out]
      unfold rByt decB
      rw [if_neg (by simp), hd]
      dsimp only
      rw [List.length_drop, HN.out, if_pos (by omega), List.drop_drop, e2, Int.toNat_natCast, hx]
      dsimp only
      rw [← Nat.add_assoc, e2]
    have HR1' := Lib.hid hr1
    have HXL := Lib.hid hxl
    obtain ⟨Q, hQ⟩ : ∃ Q, P + K = Q := ⟨_, rfl⟩
    have hQN : Q ≤ N := by omega
    have hQP : Q - P = K := by omega
    have hw1 : IntKind.i64.wrap ((P : Int) + K) = (Q : Int) := by rw [IntWalk.i64_in _ (by omega)]; omega
    have hw2 : IntKind.i64.wrap ((Q : Int) - K) = (P : Int) := by rw [IntWalk.i64_in _ (by omega)]; omega
    have hPQ : (P : Int) ≤ Q := by omega
    have hQc : (Q : Int) ≤ c := by omega
    obtain ⟨Ax, hAx⟩ : ∃ Ax, (if c = P then A else Option.map (fun x => x.add P) A) = Ax := ⟨_, rfl⟩
    have hcut : ∀ u B, Bs u B A l → Bs u B Ax x := fun u B h => by
      have h1 := (h.take Q (by rw [HN.out]; exact hQN)).cut (k := P) (cap := c) (by rw [List.length_take, HN.out]; omega) (by rw [List.length_take, HN.out]; omega)
      rw [hAx, List.drop_take, hQP, hx] at h1
      exact h1
    have HCUT := Lib.hid hcut
    have HQ := Lib.hid hQ
    have hK40 : K ≤ 1099511627776 := by omega
    have HK40 := Lib.hid hK40
    obtain ⟨C, hC⟩ : ∃ C, c - P = C := ⟨_, rfl⟩
    clear hd hkl hx hxl hr1 hcut hQ e2 hK40
    go_upto_region 7 with fail
    obtain ⟨w4, hw4⟩ : ∃ w4, wc.setCell ⟨p, 1, none⟩ (.int .i64 (Q : Int)) = w4 := ⟨_, rfl⟩
    have hO4 : Only (One p) wc w4 := by rw [← hw4]; (repeat' (first | with_reducible exact Only.refl _ _ | with_reducible refine Only.setCell ?_ (Or.inl ?_) _ | with_reducible refine Only.drewN ?_ _ | with_reducible refine Only.drew ?_ | with_reducible refine Only.alloc ?_ _ | (exact rfl)))
    have hb4 : Blk w4 p 40 #[.slice A N c, .int .i64 Q, .bool false] := by rw [← hw4]; exact HB3.out.set_ 1 _
    have hb4' := hb4
    rw [← HN.out] at hb4'
    have HR4 := Lib.hid (HR3.out.move hO4 hb4')
    have HO4 := Lib.hid (HO3.out.then_ hO4)
    have HB4 := Lib.hid hb4
    rw [hw4]
    clear hw4 hO4 hb4' kb fb
    have kb : ∀ i, w4.drew.cell? ⟨p, i, none⟩ = #[Value.slice A N c, .int .i64 Q, .bool false][i]? := fun i => hb4.drew.cell i
    have hrd : Rd w4.drew w4.drew.heap.size 1 Ax K (bcells x) := by
      have h1 := HCUT.out _ _ (HR4.out.onlyNil (Only.refl _ _).drew).bytes
      unfold Bs at h1
      rw [HXL.out] at h1
      exact h1
    have HRD := Lib.hid hrd
    clear hrd hb4
    go_still_tail 15, (by kernel_rfl)
    try rw [hAx]
    try rw [hQP]
    try rw [hC]
    clear hAx
    go_wp2_with (at_builtin; go_must (refine wpList_append_rd _ rfl (.const (.slice none 0 0)) (.tmp 61) _ rfl w.heap.size 5 i0 (.int .u8 0) 1 1 Try.underlying22 hi0 hz0 hz1 hz2 rfl (by omega) (.slice none 0 0) 0 [] rfl ?qown w4.drew.heap.size Ax K C (bcells x) rfl ?qrd (bcells_one x) K (Nat.zero_add _) (bcells x) (List.nil_append _) ?q63 ?qby ?qbase ?_))
    case qown => exact World.ownsRow_nil _ _ _ _
    case qrd => exact HRD.out
    case q63 => have := HK40.out; unfold maxLen; omega
    case qby => have := HK40.out; omega
    case qbase => exact HO4.out.size
    intro A5 c5 w5 hc5 hown5 hgr5 hat5
    have hO5 : Only Nil w4 w5 := ((Only.refl Nil w4).drew).grown hgr5 (fun q hq => (by cases hq))
    have HR5 := Lib.hid (HR4.out.onlyNil hO5)
    have HO5 := Lib.hid (HO4.out.thenNil hO5)
    have HW5 := Lib.hid hown5
    have HC5 := Lib.hid hc5
    clear hO5 hown5 hgr5 hat5 hc5 kb
    go_wp2_with fail
    go_ret
    have hfin : RfBytPost r p A c l w (.returned (.slice A5 K c5)) w5 := by
      rw [HR1'.out]
      refine ⟨A5, c5, by rw [HXL.out], by rw [HXL.out]; exact HC5.out, by rw [HXL.out]; exact HW5.out, ?_, HO5.out⟩
      dsimp only
      rw [HQ.out]
      exact HR5.out
    exact hfin

set_option maxRecDepth 100000 in
theorem rfEnd_any (p : Nat) (A : Option Addr) (c : Nat) (l : List UInt8) (pos : Nat) (f : Bool) (w : World) (h : RF w p A c l pos f) :
    Calls Try.prog 16 #[.pointer (some ⟨p, 0, none⟩)] w fun e w' => e = .returned (.int .i64 (if f = true ∨ pos ≠ l.length then 4 else 0)) ∧ Only Nil w w' := by
  have HB := Lib.hid h.box
  obtain ⟨N, hN⟩ : ∃ N, l.length = N := ⟨_, rfl⟩
  have hbx := h.box
  rw [hN] at hbx ⊢
  have kb : ∀ i, w.cell? ⟨p, i, none⟩ = #[Value.slice A N c, .int .i64 pos, .bool f][i]? := fun i => hbx.cell i
  have kd : ∀ i, w.drew.cell? ⟨p, i, none⟩ = #[Value.slice A N c, .int .i64 pos, .bool f][i]? := fun i => hbx.drew.cell i
  clear h hbx hN
  cases f
  · by_cases hpn : pos = N
    · subst hpn
      have hb1 : ((pos : Int) != (pos : Int)) = false := by simp
      rw [if_neg (by simp)]
      go_enter Try.func16, Try.ntmps16
      go_wp2_with fail
      go_quiet (fail)
      go_wp2_with fail
      go_ret
      exact ⟨rfl, by (repeat' (first | with_reducible exact Only.refl _ _ | with_reducible refine Only.setCell ?_ (Or.inl ?_) _ | with_reducible refine Only.drewN ?_ _ | with_reducible refine Only.drew ?_ | with_reducible refine Only.alloc ?_ _ | (fail)))⟩
    · have hb1 : ((pos : Int) == (N : Int)) = false := beq_false_of_ne (by omega)
      have hb2 : ((pos : Int) != (N : Int)) = true := by simp; omega
      rw [if_pos (.inr hpn)]
      go_enter Try.func16, Try.ntmps16
      go_wp2_with fail
      go_quiet (fail)
      go_wp2_with fail
      go_ret
      exact ⟨rfl, by (repeat' (first | with_reducible exact Only.refl _ _ | with_reducible refine Only.setCell ?_ (Or.inl ?_) _ | with_reducible refine Only.drewN ?_ _ | with_reducible refine Only.drew ?_ | with_reducible refine Only.alloc ?_ _ | (fail)))⟩
  · rw [if_pos (.inl rfl)]
    go_enter Try.func16, Try.ntmps16
    go_wp2_with fail
    go_quiet (fail)
    go_wp2_with fail
    go_ret
    exact ⟨rfl, by (repeat' (first | with_reducible exact Only.refl _ _ | with_reducible refine Only.setCell ?_ (Or.inl ?_) _ | with_reducible refine Only.drewN ?_ _ | with_reducible refine Only.drew ?_ | with_reducible refine Only.alloc ?_ _ | (fail)))⟩

end Go.Proofs.Ytbhgaaendekghaa
