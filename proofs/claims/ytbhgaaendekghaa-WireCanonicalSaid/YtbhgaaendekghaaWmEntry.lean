/-
  The walk of wire.Reader's Entry.
  Conditions: the reader stands within its bytes; they are at most 2 to the power 40.
-/
import Derived.Test.YtbhgaaendekghaaEqP
import Derived.Test.YtbhgaaendekghaaWrB
import Derived.Test.YtbhgaaendekghaaWrN
import Derived.Deep.RegionHeld3
import Derived.BigRegion
namespace Go.Proofs.Ytbhgaaendekghaa
open Go.RowKit

set_option maxHeartbeats 1000000 in
/-- try with the closure of Entry: where the closure answers false, the reader fails at its old place. -/
theorem try_Entry (v0 v1 : Value) (Q : Bool → World → Prop) (p : Nat) (A : Option Addr) (c : Nat) (l : List UInt8) (pos : Nat) (w : World) (h : RR w p A c l pos false)
    (hcall : Calls Try.prog 79 #[v0, v1] w fun e w' => ∃ b, e = .returned (.bool b) ∧ (∃ pos', RR w' p A c l pos' false) ∧ Q b w') :
    Calls Try.prog 60 #[.pointer (some ⟨p, 0, none⟩), .func (Fn.func 79) #[] #[v0, v1]] w (TryPost Q p A c l pos) := by
  have HC := Lib.hid hcall
  have kb : ∀ i, w.cell? ⟨p, i, none⟩ = #[Value.slice A l.length c, .int .i64 pos, .bool false][i]? := fun i => h.box.cell i
  clear hcall h
  go_enter Try.func60, Try.ntmps60
  go_wp2_with fail
  refine HC.out.mono ?_
  rintro e w1 ⟨b, rfl, ⟨pos', hR⟩, hQ⟩
  have HR := Lib.hid hR
  have HQ := Lib.hid hQ
  have kb1 : ∀ i, w1.cell? ⟨p, i, none⟩ = #[Value.slice A l.length c, .int .i64 pos', .bool false][i]? := fun i => hR.box.cell i
  have fb1 : ∀ i, w1.frozen? ⟨p, i, none⟩ = false := fun i => hR.box.frozen i
  clear hR hQ kb
  cases b
  · go_wp2_with fail
    refine bodyPost_end (v := .tuple #[]) (by simp [results, Try.results60, go_sem]) rfl ?_
    have hO : ∀ u, Only (One p) w1 u → Blk u p 96 #[.slice A l.length c, .int .i64 pos, .bool true] → TryPost Q p A c l pos (.returned (.tuple #[])) u := fun u hO hb =>
      ⟨⟨_, rfl⟩, .inr ⟨w1, HQ.out, HR.out.move hO hb, hO⟩⟩
    refine hO _ ?_ ((HR.out.box.set_ 1 _).set_ 2 _)
    (repeat' (first | with_reducible exact Only.refl _ _ | with_reducible refine Only.setCell ?_ (Or.inl ?_) _ | with_reducible refine Only.drewN ?_ _ | with_reducible refine Only.drew ?_ | with_reducible refine Only.alloc ?_ _ | (exact rfl)))
  · go_wp2_with fail
    refine bodyPost_end (v := .tuple #[]) (by simp [results, Try.results60, go_sem]) rfl ?_
    exact ⟨⟨_, rfl⟩, .inl HQ.out⟩

/-- The cells of an entry whose Data lies at A. -/
def ecl (A : Option Addr) (c : Nat) (x : En) : Array Value := (ER.cells ⟨A, c, x⟩).toArray
theorem ecl_no (A : Option Addr) (c : Nat) (x : En) : NoU8 (ecl A c x) := er_no A _ c _ _ _ _ _ _ _

/-- What a closure answers. -/
def ECloPost (Q : Bool → World → Prop) (p : Nat) (A : Option Addr) (c : Nat) (l : List UInt8) (e : Ending) (w' : World) : Prop :=
  ∃ b, e = .returned (.bool b) ∧ (∃ pos', RR w' p A c l pos' false) ∧ Q b w'

def EntQ (p g : Nat) (A : Option Addr) (c : Nat) (l : List UInt8) (pos : Nat) (w : World) (b : Bool) (w' : World) : Prop :=
  Only (Two p g) w w' ∧ ((b = true ∧ ∃ x n Ax cx, decE (l.drop pos) = some (x, n) ∧ RR w' p A c l (pos + n) false ∧ Blk w' g 35 (ecl Ax cx x) ∧ x.data.length ≤ cx ∧ w'.ownsRow w.heap.size 5 1 (.slice Ax x.data.length cx) x.data.length (bcells x.data)) ∨
    (b = false ∧ decE (l.drop pos) = none ∧ Blk w' g 35 (ecl none 0 zE)))

/-- What numbers answers, the answer named. -/
def NumQ (p g : Nat) (A : Option Addr) (c : Nat) (l : List UInt8) (pos : Nat) (w : World) (b : Bool) (w' : World) : Prop :=
  ∃ (pos' : Nat) (zs : List Int), RR w' p A c l pos' false ∧ pos' ≤ l.length ∧ zs.length = 7 ∧ Blk w' g 111 (ints zs) ∧ Only (Two p g) w w' ∧ ((∃ k, decN 7 (l.drop pos) = some (zs, k) ∧ pos' = pos + k ∧ b = true) ∨ (decN 7 (l.drop pos) = none ∧ b = false))
theorem NumQ.only {p g : Nat} {A : Option Addr} {c : Nat} {l : List UInt8} {pos : Nat} {w w' : World} {b : Bool} (h : NumQ p g A c l pos w b w') : Only (Two p g) w w' := by
  obtain ⟨_, _, _, _, _, _, h, _⟩ := h
  exact h
def CE (z0 z1 z2 z3 z4 z5 : Int) (L : Nat → Bool) : Array Value := #[.int .i64 (bif L 14 then z0 else 0), .int .i64 (bif L 16 then z1 else 0), .int .i64 (bif L 18 then z2 else 0), .int .i64 (bif L 20 then z3 else 0), .int .i64 (bif L 20 then z4 else 0), .int .i64 (bif L 20 then z5 else 0), .int .i64 0, .slice none 0 0]
theorem array_at3 : ∀ (u : World) (a : Option Addr) (c : Nat), (Instr.arrayAt 33 (.slice a 3 c)).run Try.prog u = .ok (.pointer a) u := fun u a c => by
  simp [Instr.arrayAt, run_underlying Try.underlying33]

set_option maxRecDepth 100000 in
set_option maxHeartbeats 4000000 in
theorem clo_Entry (g1 g2 : Nat) (p : Nat) (A : Option Addr) (c : Nat) (l : List UInt8) (pos : Nat) (w : World) (h : RR w p A c l pos false) (hp : pos ≤ l.length) (hl : l.length ≤ 1099511627776) (hc : c ≤ maxLen)
    (b1 : Blk w g1 53 #[.pointer (some ⟨p, 0, none⟩)]) (b2 : Blk w g2 35 (ecl none 0 zE)) :
    Calls Try.prog 79 #[.pointer (some ⟨g1, 0, none⟩), .pointer (some ⟨g2, 0, none⟩)] w (ECloPost (EntQ p g2 A c l pos w) p A c l) := by
  have n2 : g2 ≠ p := b2.ne_ h.box (by decide)
  obtain ⟨g3, hg3⟩ : ∃ g3, g3 = w.heap.size := ⟨_, rfl⟩
  obtain ⟨w2, hw2⟩ : ∃ w2, w2 = w.alloc (.cells (ints (List.replicate 7 0)) 111) := ⟨_, rfl⟩
  have hO2 : Only Nil w w2 := by rw [hw2]; exact (Only.refl _ _).alloc _
  have hb3 : Blk w2 g3 111 (ints (List.replicate 7 0)) := by rw [hw2, hg3]; exact Blk.new _ _ _
  have hpw := h.box.lt
  have h2w := b2.lt
  have n3 : p ≠ g3 := by omega
  have n23 : g2 ≠ g3 := by omega
  have n13 : g1 ≠ g3 := by have := b1.lt; omega
  have n1p : g1 ≠ p := b1.ne_ h.box (by decide)
  have hnu : ∀ u, Only Nil w2 u → Calls Try.prog 65 #[.pointer (some ⟨p, 0, none⟩), .slice (some ⟨g3, 0, none⟩) 7 7] u fun e w' => ∃ bb, e = .returned (.bool bb) ∧ NumQ p g3 A c l pos u bb w' := fun u hu => by
    refine (numbers_any 7 g3 7 111 (List.replicate 7 0) p A c l pos false u ((h.onlyNil hO2).onlyNil hu) hp hl (hb3.onlyNil hu) (by simp) n3 (by omega)).mono ?_
    rintro e w' ⟨pos', zs, h1, h2, h3, h4, h5, ⟨k, h6, h7, rfl⟩ | ⟨h6, rfl⟩⟩
    · exact ⟨true, rfl, pos', zs, h1, h2, h3, h4, h5, .inl ⟨k, h6, h7, rfl⟩⟩
    · exact ⟨false, rfl, pos', zs, h1, h2, h3, h4, h5, .inr ⟨h6, rfl⟩⟩
  have HNU := Lib.hid hnu
  have HB2 := Lib.hid (b2.onlyNil hO2)
  have HB1 := Lib.hid (b1.onlyNil hO2)
  have HB1K := Lib.hid (fun u (hu : Only (Two p g3) w2.drew u) => (show u.cell? ⟨g1, 0, none⟩ = some (.pointer (some ⟨p, 0, none⟩)) from ((b1.onlyNil hO2).drew.only hu (fun hx => by rcases hx with hx | hx; exact n1p hx; exact n13 hx)).cell 0))
  have HNE := Lib.hid (And.intro n1p (And.intro n13 (And.intro n2 n23)))
  have HO2 := Lib.hid hO2
  have HPL := Lib.hid hp
  have HL := Lib.hid hl
  have HC := Lib.hid hc
  have HW2 := Lib.hid hw2
  have HG3 := Lib.hid hg3
  have HPW := Lib.hid (And.intro hpw h2w)
  have kd : w2.drew.cell? ⟨g1, 0, none⟩ = some (.pointer (some ⟨p, 0, none⟩)) := (b1.onlyNil hO2).drew.cell 0
  clear hnu h hp hl hc b1 b2 hb3 hO2 hw2 hg3 hpw h2w n3 n23 n13 n1p
  go_enter Try.func79, Try.ntmps79
  go_upto_region 2 with fail
  rw [show w.alloc (.cells #[Value.int .i64 0, .int .i64 0, .int .i64 0, .int .i64 0, .int .i64 0, .int .i64 0, .int .i64 0] 111) = w2 from HW2.out.symm, ← HG3.out]
  go_cut [9] (fun v wd => ∃ bb, v = .bool (!bb) ∧ NumQ p g3 A c l pos w2.drew bb wd)
  case first =>
    go_region_held3 (fun u => u.cell? ⟨g1, 0, none⟩ = some (.pointer (some ⟨p, 0, none⟩))) (first | with_reducible assumption | go_keep)
      (first
        | (go_simp; go_at_call 65; have hh := HNU.out _ ((Only.refl _ _).drew); refine hh.mono ?_; rintro e w3 ⟨bb, rfl, hq⟩; have hs3 : w3.cell? ⟨g1, 0, none⟩ = some (.pointer (some ⟨p, 0, none⟩)) := HB1K.out _ hq.only)
        | fail)
    all_goals
      go_wp2_with fail
      go_meet
      case rel => exact ⟨bb, rfl, hq⟩
  case rest =>
  obtain ⟨bb, rfl, hq⟩ := hcut
  have hb1 := (HB1.out.drew).only hq.only (fun hx => by rcases hx with hx | hx; exact HNE.out.1 hx; exact HNE.out.2.1 hx)
  have hb2 := (HB2.out.drew).only hq.only (fun hx => by rcases hx with hx | hx; exact HNE.out.2.2.1 hx; exact HNE.out.2.2.2 hx)
  obtain ⟨pos', zs, hR, hp', hzl, hb3, hO3, ⟨k, hd, rfl, rfl⟩ | ⟨hd, rfl⟩⟩ := hq
  rotate_left
  · have hD : decE (l.drop pos) = none := by unfold decE; rw [hd]
    have hfin : ECloPost (EntQ p g2 A c l pos w) p A c l (.returned (.bool false)) wc :=
      ⟨false, rfl, ⟨_, hR⟩, ((HO2.out.thenNil (Only.refl Nil w2).drew).any (S := Two p g2)).trans hO3 (fun x hx => by rcases hx with hx | hx; exact .inl (.inl hx); exact .inr (by rw [hx, HG3.out]; exact Nat.le_refl _)), .inr ⟨rfl, hD, hb2⟩⟩
    have HF := Lib.hid hfin
    clear hR hp' hzl hb3 hO3 hd hD hfin hb1 hb2
    go_wp2_with fail
    go_ret
    exact HF.out
  match zs, hzl with
  | [z0, z1, z2, z3, z4, z5, z6], _ =>
  have k1 : wc.cell? ⟨g1, 0, none⟩ = some (.pointer (some ⟨p, 0, none⟩)) := hb1.cell 0
  have HBY := Lib.hid (rdbytes_any 1536 p A c l (pos + k) false wc hR hp' HL.out HC.out)
  have HO3 : Hid (Only (Two p g2) w wc) := Lib.hid (((HO2.out.thenNil (Only.refl Nil w2).drew).any (S := Two p g2)).trans hO3 (fun x hx => by rcases hx with hx | hx; exact .inl (.inl hx); exact .inr (by rw [hx, HG3.out]; exact Nat.le_refl _)))
  have HD := Lib.hid hd
  have HB2 := Lib.hid hb2
  have HB3 := Lib.hid hb3
  clear hR hp' hO3 hd hb1 hb2 hb3
  go_wp2_with fail
  refine HBY.out.mono ?_
  rintro e w4 ⟨pos', hR, hp', hO4, ⟨x, n, Ax, cx, hdb, rfl, rfl, hcx, hown⟩ | ⟨hdb, rfl⟩⟩
  rotate_left
  · have hD : decE (l.drop pos) = none := by
      unfold decE
      rw [HD.out]
      dsimp only
      rw [List.drop_drop, hdb]
    have hb2 := HB2.out.only hO4 (fun hx => n2 hx)
    have hfin : ECloPost (EntQ p g2 A c l pos w) p A c l (.returned (.bool false)) w4 :=
      ⟨false, rfl, ⟨_, hR⟩, HO3.out.then_ (hO4.more (fun x hx => .inl hx)), .inr ⟨rfl, hD, hb2⟩⟩
    have HF := Lib.hid hfin
    clear hR hp' hO4 hdb hD hfin hb2
    go_wp2_with fail
    go_ret
    exact HF.out
  have hD : decE (l.drop pos) = some (⟨z0, z1, z2, z3, z4, z5, z6, x⟩, k + n) := by
    unfold decE
    rw [HD.out]
    dsimp only
    rw [List.drop_drop, hdb]
    rfl
  have hb2 := HB2.out.only hO4 (fun hx => n2 hx)
  have hb3 := HB3.out.only hO4 (fun hx => HNE.out.2.2.2 (by have := HPW.out; unfold One at hx; rw [HG3.out] at hx; omega))
  have hfin : ∀ u, Only (One g2) w4 u → Blk u g2 35 (ecl Ax cx ⟨z0, z1, z2, z3, z4, z5, z6, x⟩) → ECloPost (EntQ p g2 A c l pos w) p A c l (.returned (.bool true)) u := fun u hu hbu => by
    have hR' := hR.far hb2 (ecl_no _ _ _) (fun e => n2 e.symm) hu
    exact ⟨true, rfl, ⟨_, hR'⟩, (HO3.out.then_ (hO4.more (fun x hx => .inl hx))).then_ (hu.more (fun x hx => .inr hx)), .inl ⟨rfl, _, k + n, Ax, cx, hD, by rw [← Nat.add_assoc]; exact hR', hbu, hcx, own_base (own_only hown hu (fun q hq hx => own_blk_ne hown hb2 (by decide) (by rw [hq, hx]))) HO3.out.size⟩⟩
  obtain ⟨X, hX⟩ : ∃ X, x.length = X := ⟨_, rfl⟩
  unfold ecl ER.cells at hfin
  dsimp only at hfin
  rw [hX] at hfin ⊢
  have HF := Lib.hid hfin
  have HB2' := Lib.hid hb2
  have HB3' := Lib.hid hb3
  clear hR hp' hO4 hdb hcx hown hD hfin hb2 hb3 hX k1
  obtain ⟨w5, hw5⟩ : ∃ w5, w5 = w4.drew := ⟨_, rfl⟩
  have k3 : ∀ i, w4.drew.cell? ⟨g3, i, none⟩ = #[Value.int .i64 z0, .int .i64 z1, .int .i64 z2, .int .i64 z3, .int .i64 z4, .int .i64 z5, .int .i64 z6][i]? := fun i => HB3'.out.drew.cell i
  have k2 : ∀ i, w4.drew.cell? ⟨g2, i, none⟩ = #[Value.int .i64 0, .int .i64 0, .int .i64 0, .int .i64 0, .int .i64 0, .int .i64 0, .int .i64 0, .slice none 0 0][i]? := fun i => HB2'.out.drew.cell i
  have f2 : ∀ i, w4.drew.frozen? ⟨g2, i, none⟩ = false := fun i => HB2'.out.drew.frozen i
  have hap := array_at3
  have ne1 : g2 ≠ g3 := HNE.out.2.2.2
  have ne2 : g3 ≠ g2 := fun e => ne1 e.symm
  go_upto_region 6 with fail
  have HIN : Hid (∀ (L : Nat → Bool) (vs : Nat → Value) (u u' : World), Only Nil u u' → (fun L _ u => Only (One g2) w4 u ∧ (L 12 = false → L 14 = false ∧ L 16 = false ∧ L 18 = false ∧ L 20 = false) ∧ Blk u g2 35 (CE z0 z1 z2 z3 z4 z5 L)) L vs u → (fun L _ u => Only (One g2) w4 u ∧ (L 12 = false → L 14 = false ∧ L 16 = false ∧ L 18 = false ∧ L 20 = false) ∧ Blk u g2 35 (CE z0 z1 z2 z3 z4 z5 L)) L vs u') := Lib.hid (fun L vs u u' hO hI => by
    exact ⟨hI.1.thenNil hO, hI.2.1, hI.2.2.onlyNil hO⟩)
  refine wp_region_any (by kernel_rfl) ?_
  change wpAny _ _ _ _ _ _ _ (World.drew _)
  refine take_first (i := 0) (v := ?v0_2) (some 16) rfl (by rfl) (by kernel_rfl) (by kernel_rfl) (by kernel_rfl) (fun _ _ _ h => h) (Or.inl ⟨by rfl, ?hy0_2⟩) ?rest0_2
  case hy0_2 => (intro w; go_simp <;> with_reducible rfl)
  refine take_first (i := 2) (v := ?v2_2) (some 18) rfl (by rfl) (by kernel_rfl) (by kernel_rfl) (by kernel_rfl) (fun _ _ _ h => h) (Or.inl ⟨by rfl, ?hy2_2⟩) ?rest2_2
  case hy2_2 => (intro w; go_simp <;> with_reducible rfl)
  refine take_first (i := 4) (v := ?v4_2) (some 20) rfl (by rfl) (by kernel_rfl) (by kernel_rfl) (by kernel_rfl) (fun _ _ _ h => h) (Or.inl ⟨by rfl, ?hy4_2⟩) ?rest4_2
  case hy4_2 => (intro w; go_simp <;> with_reducible rfl)
  refine take_first (i := 9) (v := ?v9_2) (some 25) rfl (by rfl) (by kernel_rfl) (by kernel_rfl) (by kernel_rfl) (fun _ _ _ h => h) (Or.inl ⟨by rfl, ?hy9_2⟩) ?rest9_2
  case hy9_2 => (intro w; go_simp <;> with_reducible rfl)
  refine take_first (i := 11) (v := ?v11_2) (some 27) rfl (by rfl) (by kernel_rfl) (by kernel_rfl) (by kernel_rfl) (fun _ _ _ h => h) (Or.inl ⟨by rfl, ?hy11_2⟩) ?rest11_2
  case hy11_2 => (intro w; go_simp <;> with_reducible rfl)
  refine wpAny_inv2 (X := [(1, some 17, []), (3, some 19, []), (5, some 21, []), (6, some 22, []), (7, some 23, [6]), (8, some 24, [7]), (10, some 26, []), (12, none, []), (13, some 28, [12]), (14, none, [1, 12, 13]), (15, some 29, [12]), (16, none, [3, 12, 15]), (17, some 30, [12]), (18, none, [5, 12, 17]), (19, some 31, [12]), (20, none, [8, 12, 19])]) (n := 16) (g := 4) (m := 21) (l0 := [true, false, true, false, true, false, false, false, false, true, false, true, false, false, false, false, false, false, false, false, false, false, false, false, false]) (T := One g2) (Ps := [Any, Cst (.int .i64 z0), Any, Cst (.int .i64 z1), Any, Cst (.int .i64 z2), Cst (.slice (some ⟨g3, 3, none⟩) 3 4), Cst (.pointer (some ⟨g3, 3, none⟩)), Cst (.agg #[.int .i64 z3, .int .i64 z4, .int .i64 z5]), Any, Cst (.int .i64 z6), Any, Any, Cst (.pointer (some ⟨g2, 0, none⟩)), Any, Cst (.pointer (some ⟨g2, 1, none⟩)), Any, Cst (.pointer (some ⟨g2, 2, none⟩)), Any, Cst (.pointer (some ⟨g2, 3, none⟩)), Any])
    (I := fun L _ u => Only (One g2) w4 u ∧ (L 12 = false → L 14 = false ∧ L 16 = false ∧ L 18 = false ∧ L 20 = false) ∧ Blk u g2 35 (CE z0 z1 z2 z3 z4 z5 L))
    (by kernel_rfl) rfl (by kernel_rfl) (by kernel_rfl) (by kernel_rfl) rfl ?h0_2 ?st_2 ?i0_2 ?step_2 ?fin_2
  case h0_2 =>
    intro j hj v u
    match j, hj with
    | 0, hj => trivial
    | 1, hj => exact absurd hj (by decide)
    | 2, hj => trivial
    | 3, hj => exact absurd hj (by decide)
    | 4, hj => trivial
    | 5, hj => exact absurd hj (by decide)
    | 6, hj => exact absurd hj (by decide)
    | 7, hj => exact absurd hj (by decide)
    | 8, hj => exact absurd hj (by decide)
    | 9, hj => trivial
    | 10, hj => exact absurd hj (by decide)
    | 11, hj => trivial
    | 12, hj => exact absurd hj (by decide)
    | 13, hj => exact absurd hj (by decide)
    | 14, hj => exact absurd hj (by decide)
    | 15, hj => exact absurd hj (by decide)
    | 16, hj => exact absurd hj (by decide)
    | 17, hj => exact absurd hj (by decide)
    | 18, hj => exact absurd hj (by decide)
    | 19, hj => exact absurd hj (by decide)
    | 20, hj => exact absurd hj (by decide)
    | 21, hj => exact absurd hj (by decide)
    | 22, hj => exact absurd hj (by decide)
    | 23, hj => exact absurd hj (by decide)
    | 24, hj => exact absurd hj (by decide)
    | n + 25, hj => exact absurd hj (by simp)
  case st_2 =>
    intro p hp
    simp only [List.mem_cons, List.not_mem_nil, or_false] at hp
    rcases hp with rfl | rfl | rfl | rfl | rfl | rfl | rfl | rfl | rfl | rfl | rfl | rfl | rfl | rfl | rfl | rfl | rfl | rfl | rfl | rfl | rfl <;> first | exact Stays.cst _ | exact Stays.any
  case i0_2 =>
    intro vs
    exact ⟨(Only.refl _ _).drew, fun _ => ⟨rfl, rfl, rfl, rfl⟩, HB2'.out.drew⟩
  case step_2 =>
    intro x hx L vs u hI hA h0 hd
    simp only [List.mem_cons, List.not_mem_nil, or_false] at hx
    rcases hx with rfl | rfl | rfl | rfl | rfl | rfl | rfl | rfl | rfl | rfl | rfl | rfl | rfl | rfl | rfl | rfl
    · refine inv_step _ (by rfl) (by rfl) (fun K' hK => ?_)
      simp only [putAll, Act.put, List.setIfInBounds_toArray, List.set_cons_succ, List.set_cons_zero] at hK ⊢
      have ks : ∀ i, u.cell? ⟨g3, i, none⟩ = #[Value.int .i64 z0, .int .i64 z1, .int .i64 z2, .int .i64 z3, .int .i64 z4, .int .i64 z5, .int .i64 z6][i]? := fun i => (HB3'.out.only hI.1 (fun hx => ne2 hx)).cell i
      go_simp
      exact hK _ _ ⟨Only.refl _ _, hI, rfl⟩
    · refine inv_step _ (by rfl) (by rfl) (fun K' hK => ?_)
      simp only [putAll, Act.put, List.setIfInBounds_toArray, List.set_cons_succ, List.set_cons_zero] at hK ⊢
      have ks : ∀ i, u.cell? ⟨g3, i, none⟩ = #[Value.int .i64 z0, .int .i64 z1, .int .i64 z2, .int .i64 z3, .int .i64 z4, .int .i64 z5, .int .i64 z6][i]? := fun i => (HB3'.out.only hI.1 (fun hx => ne2 hx)).cell i
      go_simp
      exact hK _ _ ⟨Only.refl _ _, hI, rfl⟩
    · refine inv_step _ (by rfl) (by rfl) (fun K' hK => ?_)
      simp only [putAll, Act.put, List.setIfInBounds_toArray, List.set_cons_succ, List.set_cons_zero] at hK ⊢
      have ks : ∀ i, u.cell? ⟨g3, i, none⟩ = #[Value.int .i64 z0, .int .i64 z1, .int .i64 z2, .int .i64 z3, .int .i64 z4, .int .i64 z5, .int .i64 z6][i]? := fun i => (HB3'.out.only hI.1 (fun hx => ne2 hx)).cell i
      go_simp
      exact hK _ _ ⟨Only.refl _ _, hI, rfl⟩
    · refine inv_step _ (by rfl) (by rfl) (fun K' hK => ?_)
      simp only [putAll, Act.put, List.setIfInBounds_toArray, List.set_cons_succ, List.set_cons_zero] at hK ⊢
      go_simp
      exact hK _ _ ⟨Only.refl _ _, hI, rfl⟩
    · refine inv_step _ (by rfl) (by rfl) (fun K' hK => ?_)
      simp only [putAll, Act.put, List.setIfInBounds_toArray, List.set_cons_succ, List.set_cons_zero] at hK ⊢
      have e6 := hA 6 (hd 6 (by simp))
      change vs 6 = (.slice (some ⟨g3, 3, none⟩) 3 4) at e6
      simp only [e6] at hK
      have hap := array_at3
      go_simp
      exact hK _ _ ⟨Only.refl _ _, hI, rfl⟩
    · refine inv_step _ (by rfl) (by rfl) (fun K' hK => ?_)
      simp only [putAll, Act.put, List.setIfInBounds_toArray, List.set_cons_succ, List.set_cons_zero] at hK ⊢
      have e7 := hA 7 (hd 7 (by simp))
      change vs 7 = (.pointer (some ⟨g3, 3, none⟩)) at e7
      simp only [e7] at hK
      have ks : ∀ i, u.cell? ⟨g3, i, none⟩ = #[Value.int .i64 z0, .int .i64 z1, .int .i64 z2, .int .i64 z3, .int .i64 z4, .int .i64 z5, .int .i64 z6][i]? := fun i => (HB3'.out.only hI.1 (fun hx => ne2 hx)).cell i
      go_simp
      exact hK _ _ ⟨Only.refl _ _, hI, rfl⟩
    · refine inv_step _ (by rfl) (by rfl) (fun K' hK => ?_)
      simp only [putAll, Act.put, List.setIfInBounds_toArray, List.set_cons_succ, List.set_cons_zero] at hK ⊢
      have ks : ∀ i, u.cell? ⟨g3, i, none⟩ = #[Value.int .i64 z0, .int .i64 z1, .int .i64 z2, .int .i64 z3, .int .i64 z4, .int .i64 z5, .int .i64 z6][i]? := fun i => (HB3'.out.only hI.1 (fun hx => ne2 hx)).cell i
      go_simp
      exact hK _ _ ⟨Only.refl _ _, hI, rfl⟩
    · refine inv_step _ (by rfl) (by rfl) (fun K' hK => ?_)
      simp only [putAll, Act.put, List.setIfInBounds_toArray, List.set_cons_succ, List.set_cons_zero] at hK ⊢
      have kk : ∀ i, u.cell? ⟨g2, i, none⟩ = (CE z0 z1 z2 z3 z4 z5 L)[i]? := fun i => hI.2.2.cell i
      have ff : ∀ i, u.frozen? ⟨g2, i, none⟩ = false := fun i => hI.2.2.frozen i
      unfold CE at kk
      have hO2 : Only (One g2) u ((((((((u.setCell ⟨g2, 0, none⟩ (.int .i64 0)).setCell ⟨g2, 1, none⟩ (.int .i64 0)).setCell ⟨g2, 2, none⟩ (.int .i64 0)).setCell ⟨g2, 3, none⟩ (.int .i64 0)).setCell ⟨g2, 4, none⟩ (.int .i64 0)).setCell ⟨g2, 5, none⟩ (.int .i64 0)).setCell ⟨g2, 6, none⟩ (.int .i64 0)).setCell ⟨g2, 7, none⟩ (.slice none 0 0)) := by (repeat' (first | with_reducible exact Only.refl _ _ | with_reducible refine Only.setCell ?_ (Or.inl ?_) _ | with_reducible refine Only.drewN ?_ _ | with_reducible refine Only.drew ?_ | with_reducible refine Only.alloc ?_ _ | (exact rfl)))
      have hb2 : Blk ((((((((u.setCell ⟨g2, 0, none⟩ (.int .i64 0)).setCell ⟨g2, 1, none⟩ (.int .i64 0)).setCell ⟨g2, 2, none⟩ (.int .i64 0)).setCell ⟨g2, 3, none⟩ (.int .i64 0)).setCell ⟨g2, 4, none⟩ (.int .i64 0)).setCell ⟨g2, 5, none⟩ (.int .i64 0)).setCell ⟨g2, 6, none⟩ (.int .i64 0)).setCell ⟨g2, 7, none⟩ (.slice none 0 0)) g2 35 (CE z0 z1 z2 z3 z4 z5 (upd L 12 true)) := by
        have hb := ((((((((hI.2.2.set_ 0 (.int .i64 0)).set_ 1 (.int .i64 0)).set_ 2 (.int .i64 0)).set_ 3 (.int .i64 0)).set_ 4 (.int .i64 0)).set_ 5 (.int .i64 0)).set_ 6 (.int .i64 0)).set_ 7 (.slice none 0 0))
        obtain ⟨q1, q2, q3, q4⟩ := hI.2.1 h0
        simpa [CE, upd, q1, q2, q3, q4] using hb
      have hI2 : Only (One g2) w4 ((((((((u.setCell ⟨g2, 0, none⟩ (.int .i64 0)).setCell ⟨g2, 1, none⟩ (.int .i64 0)).setCell ⟨g2, 2, none⟩ (.int .i64 0)).setCell ⟨g2, 3, none⟩ (.int .i64 0)).setCell ⟨g2, 4, none⟩ (.int .i64 0)).setCell ⟨g2, 5, none⟩ (.int .i64 0)).setCell ⟨g2, 6, none⟩ (.int .i64 0)).setCell ⟨g2, 7, none⟩ (.slice none 0 0)) ∧ (upd L 12 true 12 = false → upd L 12 true 14 = false ∧ upd L 12 true 16 = false ∧ upd L 12 true 18 = false ∧ upd L 12 true 20 = false) ∧ Blk ((((((((u.setCell ⟨g2, 0, none⟩ (.int .i64 0)).setCell ⟨g2, 1, none⟩ (.int .i64 0)).setCell ⟨g2, 2, none⟩ (.int .i64 0)).setCell ⟨g2, 3, none⟩ (.int .i64 0)).setCell ⟨g2, 4, none⟩ (.int .i64 0)).setCell ⟨g2, 5, none⟩ (.int .i64 0)).setCell ⟨g2, 6, none⟩ (.int .i64 0)).setCell ⟨g2, 7, none⟩ (.slice none 0 0)) g2 35 (CE z0 z1 z2 z3 z4 z5 (upd L 12 true)) := ⟨hI.1.then_ hO2, (fun h => by simp [upd] at h), hb2⟩
      have HI2 := Lib.hid (And.intro hO2 hI2)
      clear hO2 hb2 hI2 hI hA
      go_simp
      exact hK (.bool false) _ ⟨HI2.out.1, HI2.out.2, trivial⟩
    · refine inv_step _ (by rfl) (by rfl) (fun K' hK => ?_)
      simp only [putAll, Act.put, List.setIfInBounds_toArray, List.set_cons_succ, List.set_cons_zero] at hK ⊢
      go_simp
      exact hK _ _ ⟨Only.refl _ _, hI, rfl⟩
    · refine inv_step _ (by rfl) (by rfl) (fun K' hK => ?_)
      simp only [putAll, Act.put, List.setIfInBounds_toArray, List.set_cons_succ, List.set_cons_zero] at hK ⊢
      have e1 := hA 1 (hd 1 (by simp))
      change vs 1 = (.int .i64 z0) at e1
      have e13 := hA 13 (hd 13 (by simp))
      change vs 13 = (.pointer (some ⟨g2, 0, none⟩)) at e13
      simp only [e1, e13] at hK
      have kk : ∀ i, u.cell? ⟨g2, i, none⟩ = (CE z0 z1 z2 z3 z4 z5 L)[i]? := fun i => hI.2.2.cell i
      have ff : ∀ i, u.frozen? ⟨g2, i, none⟩ = false := fun i => hI.2.2.frozen i
      unfold CE at kk
      have hO2 : Only (One g2) u (u.setCell ⟨g2, 0, none⟩ (.int .i64 z0)) := by (repeat' (first | with_reducible exact Only.refl _ _ | with_reducible refine Only.setCell ?_ (Or.inl ?_) _ | with_reducible refine Only.drewN ?_ _ | with_reducible refine Only.drew ?_ | with_reducible refine Only.alloc ?_ _ | (exact rfl)))
      have hb2 : Blk (u.setCell ⟨g2, 0, none⟩ (.int .i64 z0)) g2 35 (CE z0 z1 z2 z3 z4 z5 (upd L 14 true)) := by
        have hb := (hI.2.2.set_ 0 (.int .i64 z0))
        skip
        simpa [CE, upd, h0] using hb
      have hI2 : Only (One g2) w4 (u.setCell ⟨g2, 0, none⟩ (.int .i64 z0)) ∧ (upd L 14 true 12 = false → upd L 14 true 14 = false ∧ upd L 14 true 16 = false ∧ upd L 14 true 18 = false ∧ upd L 14 true 20 = false) ∧ Blk (u.setCell ⟨g2, 0, none⟩ (.int .i64 z0)) g2 35 (CE z0 z1 z2 z3 z4 z5 (upd L 14 true)) := ⟨hI.1.then_ hO2, (fun h => absurd ((hd 12 (by simp)).symm.trans (by simpa [upd] using h)) (by decide)), hb2⟩
      have HI2 := Lib.hid (And.intro hO2 hI2)
      clear hO2 hb2 hI2 hI hA
      go_simp
      exact hK (.bool false) _ ⟨HI2.out.1, HI2.out.2, trivial⟩
    · refine inv_step _ (by rfl) (by rfl) (fun K' hK => ?_)
      simp only [putAll, Act.put, List.setIfInBounds_toArray, List.set_cons_succ, List.set_cons_zero] at hK ⊢
      go_simp
      exact hK _ _ ⟨Only.refl _ _, hI, rfl⟩
    · refine inv_step _ (by rfl) (by rfl) (fun K' hK => ?_)
      simp only [putAll, Act.put, List.setIfInBounds_toArray, List.set_cons_succ, List.set_cons_zero] at hK ⊢
      have e3 := hA 3 (hd 3 (by simp))
      change vs 3 = (.int .i64 z1) at e3
      have e15 := hA 15 (hd 15 (by simp))
      change vs 15 = (.pointer (some ⟨g2, 1, none⟩)) at e15
      simp only [e3, e15] at hK
      have kk : ∀ i, u.cell? ⟨g2, i, none⟩ = (CE z0 z1 z2 z3 z4 z5 L)[i]? := fun i => hI.2.2.cell i
      have ff : ∀ i, u.frozen? ⟨g2, i, none⟩ = false := fun i => hI.2.2.frozen i
      unfold CE at kk
      have hO2 : Only (One g2) u (u.setCell ⟨g2, 1, none⟩ (.int .i64 z1)) := by (repeat' (first | with_reducible exact Only.refl _ _ | with_reducible refine Only.setCell ?_ (Or.inl ?_) _ | with_reducible refine Only.drewN ?_ _ | with_reducible refine Only.drew ?_ | with_reducible refine Only.alloc ?_ _ | (exact rfl)))
      have hb2 : Blk (u.setCell ⟨g2, 1, none⟩ (.int .i64 z1)) g2 35 (CE z0 z1 z2 z3 z4 z5 (upd L 16 true)) := by
        have hb := (hI.2.2.set_ 1 (.int .i64 z1))
        skip
        simpa [CE, upd, h0] using hb
      have hI2 : Only (One g2) w4 (u.setCell ⟨g2, 1, none⟩ (.int .i64 z1)) ∧ (upd L 16 true 12 = false → upd L 16 true 14 = false ∧ upd L 16 true 16 = false ∧ upd L 16 true 18 = false ∧ upd L 16 true 20 = false) ∧ Blk (u.setCell ⟨g2, 1, none⟩ (.int .i64 z1)) g2 35 (CE z0 z1 z2 z3 z4 z5 (upd L 16 true)) := ⟨hI.1.then_ hO2, (fun h => absurd ((hd 12 (by simp)).symm.trans (by simpa [upd] using h)) (by decide)), hb2⟩
      have HI2 := Lib.hid (And.intro hO2 hI2)
      clear hO2 hb2 hI2 hI hA
      go_simp
      exact hK (.bool false) _ ⟨HI2.out.1, HI2.out.2, trivial⟩
    · refine inv_step _ (by rfl) (by rfl) (fun K' hK => ?_)
      simp only [putAll, Act.put, List.setIfInBounds_toArray, List.set_cons_succ, List.set_cons_zero] at hK ⊢
      go_simp
      exact hK _ _ ⟨Only.refl _ _, hI, rfl⟩
    · refine inv_step _ (by rfl) (by rfl) (fun K' hK => ?_)
      simp only [putAll, Act.put, List.setIfInBounds_toArray, List.set_cons_succ, List.set_cons_zero] at hK ⊢
      have e5 := hA 5 (hd 5 (by simp))
      change vs 5 = (.int .i64 z2) at e5
      have e17 := hA 17 (hd 17 (by simp))
      change vs 17 = (.pointer (some ⟨g2, 2, none⟩)) at e17
      simp only [e5, e17] at hK
      have kk : ∀ i, u.cell? ⟨g2, i, none⟩ = (CE z0 z1 z2 z3 z4 z5 L)[i]? := fun i => hI.2.2.cell i
      have ff : ∀ i, u.frozen? ⟨g2, i, none⟩ = false := fun i => hI.2.2.frozen i
      unfold CE at kk
      have hO2 : Only (One g2) u (u.setCell ⟨g2, 2, none⟩ (.int .i64 z2)) := by (repeat' (first | with_reducible exact Only.refl _ _ | with_reducible refine Only.setCell ?_ (Or.inl ?_) _ | with_reducible refine Only.drewN ?_ _ | with_reducible refine Only.drew ?_ | with_reducible refine Only.alloc ?_ _ | (exact rfl)))
      have hb2 : Blk (u.setCell ⟨g2, 2, none⟩ (.int .i64 z2)) g2 35 (CE z0 z1 z2 z3 z4 z5 (upd L 18 true)) := by
        have hb := (hI.2.2.set_ 2 (.int .i64 z2))
        skip
        simpa [CE, upd, h0] using hb
      have hI2 : Only (One g2) w4 (u.setCell ⟨g2, 2, none⟩ (.int .i64 z2)) ∧ (upd L 18 true 12 = false → upd L 18 true 14 = false ∧ upd L 18 true 16 = false ∧ upd L 18 true 18 = false ∧ upd L 18 true 20 = false) ∧ Blk (u.setCell ⟨g2, 2, none⟩ (.int .i64 z2)) g2 35 (CE z0 z1 z2 z3 z4 z5 (upd L 18 true)) := ⟨hI.1.then_ hO2, (fun h => absurd ((hd 12 (by simp)).symm.trans (by simpa [upd] using h)) (by decide)), hb2⟩
      have HI2 := Lib.hid (And.intro hO2 hI2)
      clear hO2 hb2 hI2 hI hA
      go_simp
      exact hK (.bool false) _ ⟨HI2.out.1, HI2.out.2, trivial⟩
    · refine inv_step _ (by rfl) (by rfl) (fun K' hK => ?_)
      simp only [putAll, Act.put, List.setIfInBounds_toArray, List.set_cons_succ, List.set_cons_zero] at hK ⊢
      go_simp
      exact hK _ _ ⟨Only.refl _ _, hI, rfl⟩
    · refine inv_step _ (by rfl) (by rfl) (fun K' hK => ?_)
      simp only [putAll, Act.put, List.setIfInBounds_toArray, List.set_cons_succ, List.set_cons_zero] at hK ⊢
      have e8 := hA 8 (hd 8 (by simp))
      change vs 8 = (.agg #[.int .i64 z3, .int .i64 z4, .int .i64 z5]) at e8
      have e19 := hA 19 (hd 19 (by simp))
      change vs 19 = (.pointer (some ⟨g2, 3, none⟩)) at e19
      simp only [e8, e19] at hK
      have kk : ∀ i, u.cell? ⟨g2, i, none⟩ = (CE z0 z1 z2 z3 z4 z5 L)[i]? := fun i => hI.2.2.cell i
      have ff : ∀ i, u.frozen? ⟨g2, i, none⟩ = false := fun i => hI.2.2.frozen i
      unfold CE at kk
      have hO2 : Only (One g2) u (((u.setCell ⟨g2, 3, none⟩ (.int .i64 z3)).setCell ⟨g2, 4, none⟩ (.int .i64 z4)).setCell ⟨g2, 5, none⟩ (.int .i64 z5)) := by (repeat' (first | with_reducible exact Only.refl _ _ | with_reducible refine Only.setCell ?_ (Or.inl ?_) _ | with_reducible refine Only.drewN ?_ _ | with_reducible refine Only.drew ?_ | with_reducible refine Only.alloc ?_ _ | (exact rfl)))
      have hb2 : Blk (((u.setCell ⟨g2, 3, none⟩ (.int .i64 z3)).setCell ⟨g2, 4, none⟩ (.int .i64 z4)).setCell ⟨g2, 5, none⟩ (.int .i64 z5)) g2 35 (CE z0 z1 z2 z3 z4 z5 (upd L 20 true)) := by
        have hb := (((hI.2.2.set_ 3 (.int .i64 z3)).set_ 4 (.int .i64 z4)).set_ 5 (.int .i64 z5))
        skip
        simpa [CE, upd, h0] using hb
      have hI2 : Only (One g2) w4 (((u.setCell ⟨g2, 3, none⟩ (.int .i64 z3)).setCell ⟨g2, 4, none⟩ (.int .i64 z4)).setCell ⟨g2, 5, none⟩ (.int .i64 z5)) ∧ (upd L 20 true 12 = false → upd L 20 true 14 = false ∧ upd L 20 true 16 = false ∧ upd L 20 true 18 = false ∧ upd L 20 true 20 = false) ∧ Blk (((u.setCell ⟨g2, 3, none⟩ (.int .i64 z3)).setCell ⟨g2, 4, none⟩ (.int .i64 z4)).setCell ⟨g2, 5, none⟩ (.int .i64 z5)) g2 35 (CE z0 z1 z2 z3 z4 z5 (upd L 20 true)) := ⟨hI.1.then_ hO2, (fun h => absurd ((hd 12 (by simp)).symm.trans (by simpa [upd] using h)) (by decide)), hb2⟩
      have HI2 := Lib.hid (And.intro hO2 hI2)
      clear hO2 hb2 hI2 hI hA
      go_simp
      exact hK (.bool false) _ ⟨HI2.out.1, HI2.out.2, trivial⟩
  case fin_2 =>
    intro L vs u hI hL hA
    simp only [putAll, Act.put, List.setIfInBounds_toArray, List.set_cons_succ, List.set_cons_zero, List.drop_succ_cons, List.drop_zero]
    have e10 := hA 10 (by omega)
    change vs 10 = .int .i64 z6 at e10
    simp only [e10]
    have hbb := hI.2.2
    rw [show CE z0 z1 z2 z3 z4 z5 L = #[.int .i64 z0, .int .i64 z1, .int .i64 z2, .int .i64 z3, .int .i64 z4, .int .i64 z5, .int .i64 0, .slice none 0 0] by simp [CE, hL 14 (by omega), hL 16 (by omega), hL 18 (by omega), hL 20 (by omega)]] at hbb
    have HI := Lib.hid hI.1
    have HBB := Lib.hid hbb
    have kk : ∀ i, u.cell? ⟨g2, i, none⟩ = #[Value.int .i64 z0, .int .i64 z1, .int .i64 z2, .int .i64 z3, .int .i64 z4, .int .i64 z5, .int .i64 0, .slice none 0 0][i]? := fun i => hbb.cell i
    have ff : ∀ i, u.frozen? ⟨g2, i, none⟩ = false := fun i => hbb.frozen i
    clear hA hL hI hbb e10 k2 f2 k3
    go_wp2_with fail
    go_ret
    refine HF.out _ (HI.out.then_ (by (repeat' (first | with_reducible exact Only.refl _ _ | with_reducible refine Only.setCell ?_ (Or.inl ?_) _ | with_reducible refine Only.drewN ?_ _ | with_reducible refine Only.drew ?_ | with_reducible refine Only.alloc ?_ _ | (exact rfl))))) ?_
    have := (HBB.out.set_ 6 (.int .i64 z6)).set_ 7 (.slice Ax X cx)
    simpa using this


end Go.Proofs.Ytbhgaaendekghaa
