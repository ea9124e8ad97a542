/-
  The walk of ratoonref01's Reader.Effects: a list of effects is read.
  Conditions: the reader stands within its bytes; they are at most 2 to the power 40.
-/
import Derived.Test.YtbhgaaendekghaaEfD
import Derived.Test.YtbhgaaendekghaaEfC
namespace Go.Proofs.Ytbhgaaendekghaa
open Go.RowKit

theorem rInt_fits (l : List UInt8) (pos : Nat) (f : Bool) : J64 (rInt l pos f).1 := by
  unfold rInt
  split
  · unfold J64; dsimp only; omega
  · split
    · rename_i hd
      exact (dec_some hd).2.2
    · unfold J64; dsimp only; omega
theorem rI_fits : ∀ (n : Nat) (l : List UInt8) (pos : Nat) (f : Bool), ∀ z ∈ (rI n l pos f).1, J64 z := by
  intro n
  induction n with
  | zero => intro l pos f z hz; cases hz
  | succ n ih =>
    intro l pos f z hz
    unfold rI at hz
    rcases List.mem_cons.1 hz with rfl | hz
    · exact rInt_fits _ _ _
    · exact ih _ _ _ _ hz
theorem rMsg_fits (l : List UInt8) (pos : Nat) (f : Bool) : (rMsg l pos f).1.fits := by
  have hz : zM.fits := by apply M.fits.of_nums; intro z hz; unfold zM M.nums at hz; simp at hz; omega
  unfold rMsg
  split
  · exact hz
  · split
    · rename_i hd
      exact (decM_some hd).2.2.1
    · exact hz
theorem rEff_fits (l : List UInt8) (pos : Nat) (f : Bool) : (rEff l pos f).1.fits := by
  unfold rEff
  refine ⟨?_, rMsg_fits _ _ _⟩
  dsimp only
  rw [nums_fOf _ _ (rI_length _ _ _ _)]
  exact rI_fits _ _ _ _

/-- What Effects answers. -/
def RfEfsPost (r : List Ef × Nat × Bool) (p : Nat) (A : Option Addr) (c : Nat) (l : List UInt8) (w : World) (e : Ending) (w' : World) : Prop :=
  ∃ rs Ax cx, rs.map FR.x = r.1 ∧ e = .returned (.slice Ax rs.length cx) ∧ rs.length ≤ cx ∧ FL w.heap.size w' Ax cx rs ∧ RF w' p A c l r.2.1 r.2.2 ∧ Only (One p) w w'

set_option maxRecDepth 100000 in
set_option maxHeartbeats 4000000 in
theorem rfEfs_any (p : Nat) (A : Option Addr) (c : Nat) (l : List UInt8) (pos : Nat) (f : Bool) (w : World) (h : RF w p A c l pos f) (hp : pos ≤ l.length) (hl : l.length ≤ 1099511627776) (hc : c ≤ maxLen) :
    Calls Try.prog 14 #[.pointer (some ⟨p, 0, none⟩)] w (RfEfsPost (rEfs l pos f) p A c l w) := by
  obtain ⟨i0, hi0, hz0, hz1, hz2⟩ := info_parts effect_info
  have hpw := h.box.lt
  have HBND := Lib.hid (rfBnd_any 0 160 p A c l pos f w h hp hl)
  obtain ⟨L, hL⟩ : ∃ L, l.length = L := ⟨_, rfl⟩
  have hbx := h.box
  rw [hL] at hbx
  have kp : ∀ i, w.cell? ⟨p, i, none⟩ = #[Value.slice A L c, .int .i64 pos, .bool f][i]? := fun i => hbx.cell i
  -- the end where the reader has failed
  have hbad : ∀ u q, (rEfs l pos f).2.2 = true → RF u p A c l q true → Only (One p) w u → RfEfsPost (rEfs l pos f) p A c l w (.returned (.slice none 0 0)) (u.setCell ⟨p, 1, none⟩ (.int .i64 pos)) := fun u q hf hR hO => by
    have hS : Only (One p) u (u.setCell ⟨p, 1, none⟩ (.int .i64 pos)) := by (repeat' (first | with_reducible exact Only.refl _ _ | with_reducible refine Only.setCell ?_ (Or.inl ?_) _ | with_reducible refine Only.drewN ?_ _ | with_reducible refine Only.drew ?_ | with_reducible refine Only.alloc ?_ _ | (exact rfl)))
    have hb : Blk (u.setCell ⟨p, 1, none⟩ (.int .i64 pos)) p 40 #[.slice A l.length c, .int .i64 pos, .bool true] := hR.box.set_ 1 _
    have e : rEfs l pos f = ([], pos, true) := by
      unfold rEfs at *
      split
      · rfl
      · split
        · rename_i h1 _ _ _ h2
          rw [if_neg h1, h2] at hf
          cases hf
        · rfl
    rw [e]
    exact ⟨[], none, 0, rfl, rfl, Nat.le_refl _, FL.nil _ _, hR.move hS hb, hO.then_ hS⟩
  have HBAD := Lib.hid hbad
  have H0 := Lib.hid h
  have HL := Lib.hid hl
  have HC := Lib.hid hc
  have HPW := Lib.hid hpw
  have HLL := Lib.hid hL
  have HPP := Lib.hid hp
  clear h hp hl hc hpw hbx hbad hL
  go_enter Try.func14, Try.ntmps14
  go_wp2_with fail
  refine HBND.out.mono ?_
  clear HBND
  rintro e w1 ⟨rfl, hR, hO⟩
  have HQ0 : Hid ((rBnd 0 160 l pos f).2.1 ≤ l.length) := Lib.hid (rBnd_pos f HPP.out)
  obtain ⟨z, q0, g0, hq⟩ : ∃ z q g, rBnd 0 160 l pos f = (z, q, g) := ⟨_, _, _, rfl⟩
  rw [hq] at hR HQ0 ⊢
  dsimp only at hR HQ0 ⊢
  -- what was read: the number of effects that are to come
  have hcase : (g0 = true ∧ z = 0 ∧ (rEfs l pos f).2.2 = true) ∨ (g0 = false ∧ f = false ∧ ∃ (N n : Nat), z = (N : Int) ∧ N ≤ 160 ∧ q0 = pos + n ∧ decFs (l.drop pos) = (decFn N (l.drop (pos + n))).map fun r => (r.1, n + r.2)) := by
    unfold rBnd at hq
    unfold rEfs decFs
    cases f
    · rw [if_neg (by simp)] at hq
      rw [if_neg (by simp)]
      cases hd : dec (l.drop pos) with
      | none =>
        rw [hd] at hq
        injection hq with e1 e2
        injection e2 with e2 e3
        exact .inl ⟨e3.symm, e1.symm, rfl⟩
      | some r =>
        obtain ⟨y, n⟩ := r
        rw [hd] at hq
        dsimp only at hq ⊢
        by_cases hy : 0 ≤ y ∧ y ≤ 160
        · rw [if_pos hy] at hq
          injection hq with e1 e2
          injection e2 with e2 e3
          refine .inr ⟨e3.symm, rfl, y.toNat, n, by omega, by omega, e2.symm, ?_⟩
          rw [if_pos hy, List.drop_drop]
        · rw [if_neg hy] at hq
          injection hq with e1 e2
          injection e2 with e2 e3
          refine .inl ⟨e3.symm, e1.symm, ?_⟩
          rw [if_neg hy]
    · rw [if_pos rfl] at hq
      injection hq with e1 e2
      injection e2 with e2 e3
      exact .inl ⟨e3.symm, e1.symm, by rw [if_pos rfl]⟩
  obtain ⟨N, hzN, hN160, hst⟩ : ∃ N : Nat, z = (N : Int) ∧ N ≤ 160 ∧ ((g0 = true ∧ N = 0 ∧ (rEfs l pos f).2.2 = true) ∨ (g0 = false ∧ f = false ∧ ∃ n : Nat, q0 = pos + n ∧ decFs (l.drop pos) = (decFn N (l.drop (pos + n))).map fun r => (r.1, n + r.2))) := by
    rcases hcase with ⟨h1, h2, h3⟩ | ⟨h1, h2, N, n, h3, h4, h5, h6⟩
    · exact ⟨0, by rw [h2]; rfl, by omega, .inl ⟨h1, rfl, h3⟩⟩
    · exact ⟨N, h3, h4, .inr ⟨h1, h2, n, h5, h6⟩⟩
  subst hzN
  -- the reader's state over the rounds
  obtain ⟨St, hSt⟩ : ∃ St : List FR → Nat → Bool → Prop, St = fun rs q g => (g = true ∧ (rEfs l pos f).2.2 = true) ∨ (g = false ∧ f = false ∧ ∃ n j : Nat, q = pos + n + j ∧ decFs (l.drop pos) = ((decFn N (l.drop (pos + n))).map fun r => (r.1, n + r.2)) ∧ RestF N (l.drop (pos + n)) (rs.map FR.x) j) := ⟨_, rfl⟩
  have hst0 : St [] q0 g0 := by
    rw [hSt]
    rcases hst with ⟨h1, _, h3⟩ | ⟨h1, h2, n, h5, h6⟩
    · exact .inl ⟨h1, h3⟩
    · exact .inr ⟨h1, h2, n, 0, h5, h6, RestF.zero _ _⟩
  have hnext : ∀ (rs : List FR) (q : Nat) (x : FR), St rs q false → rs.length < N → q ≤ l.length → x.x = (rEff l q false).1 → St (rs ++ [x]) (rEff l q false).2.1 (rEff l q false).2.2 := fun rs q x hs hlt _ hx => by
    rw [hSt] at hs ⊢
    rcases hs with ⟨h1, _⟩ | ⟨_, h2, n, j, h5, h6, h7⟩
    · cases h1
    have hd := rEff_dec l q
    cases hr : decF (l.drop q) with
    | none =>
      rw [hr] at hd
      have h8 := h7.none_ (by rw [List.length_map]; exact hlt) (by rw [List.drop_drop, ← h5]; exact hr)
      refine .inl ⟨hd, ?_⟩
      have h9 : decFs (l.drop pos) = none := by rw [h6, h8]; rfl
      unfold rEfs
      rw [h2, if_neg (by simp), h9]
    | some r =>
      obtain ⟨y, m⟩ := r
      rw [hr] at hd
      dsimp only at hd
      rw [hd] at hx ⊢
      dsimp only at hx
      refine .inr ⟨rfl, h2, n, j + m, by rw [h5]; dsimp only; omega, h6, ?_⟩
      rw [List.map_append]
      have := h7.more (x := y) (n := m) (by rw [List.length_map]; exact hlt) (by rw [List.drop_drop, ← h5]; exact hr)
      simpa [hx] using this
  have hgood : ∀ (rs : List FR) (q : Nat), St rs q false → rs.length = N → rEfs l pos f = (rs.map FR.x, q, false) := fun rs q hs hl => by
    rw [hSt] at hs
    rcases hs with ⟨h1, _⟩ | ⟨_, h2, n, j, h5, h6, h7⟩
    · cases h1
    have hdone := h7.done (by rw [List.length_map, hl]; exact Nat.le_refl _)
    unfold rEfs
    rw [h2, if_neg (by simp), h6, hdone]
    rw [h5, Option.map_some]
    simp only [Nat.add_assoc]
  have hstop : ∀ (rs : List FR) (q : Nat), St rs q true → (rEfs l pos f).2.2 = true := fun rs q hs => by
    rw [hSt] at hs
    rcases hs with ⟨_, h⟩ | ⟨h, _⟩
    · exact h
    · cases h
  have HST0 := Lib.hid hst0
  have HNEXT := Lib.hid hnext
  have HGOOD := Lib.hid hgood
  have HSTOP := Lib.hid hstop
  have HR := Lib.hid hR
  have HO := Lib.hid hO
  clear hR hO hq hcase hst hSt hst0 hnext hgood hstop kp
  go_wp2_with fail
  go_loopw [4, 6] (fun vo vi wr => ∃ (k : Nat) (Ao : Option Addr) (co : Nat) (rs : List FR) (q : Nat) (g : Bool), k ≤ N ∧ vi = .int .i64 k ∧ vo = .slice Ao k co ∧ rs.length = k ∧ k ≤ co ∧ St rs q g ∧ q ≤ l.length ∧ FL w.heap.size wr Ao co rs ∧ RF wr p A c l q g ∧ Only (One p) w wr) (fun _ vi _ => N - (intOf vi).toNat)
  case atStart => exact ⟨0, none, 0, [], q0, g0, Nat.zero_le _, rfl, rfl, rfl, Nat.le_refl _, HST0.out, HQ0.out, FL.nil _ _, HR.out, HO.out⟩
  case round =>
    obtain ⟨k, Ao, co, rs, q, g, hk, rfl, rfl, hrl, hco, hst, hql, hfl, hRk, hOk⟩ := hrel
    have hbx := hRk.box
    rw [HLL.out] at hbx
    have kp : ∀ i, wr.cell? ⟨p, i, none⟩ = #[Value.slice A L c, .int .i64 q, .bool g][i]? := fun i => hbx.cell i
    have kpd : ∀ i, wr.drew.cell? ⟨p, i, none⟩ = #[Value.slice A L c, .int .i64 q, .bool g][i]? := fun i => hbx.drew.cell i
    have fp : ∀ i, wr.frozen? ⟨p, i, none⟩ = false := fun i => hbx.frozen i
    have HRL := Lib.hid hrl
    have HCO := Lib.hid hco
    have HST := Lib.hid hst
    have HQL := Lib.hid hql
    have HFL := Lib.hid hfl
    have HRK := Lib.hid hRk
    have HOK := Lib.hid hOk
    clear hrl hco hst hql hfl hRk hOk hbx
    cases g
    rotate_left
    · have HF := Lib.hid (HBAD.out wr q (HSTOP.out rs q HST.out) HRK.out HOK.out)
      by_cases hlt : k < N
      · have hki : (k : Int) < N := by omega
        clear hlt
        go_wp2_with fail
        go_ret
        exact HF.out
      · have hki : ¬ (k : Int) < N := by omega
        clear hlt
        go_wp2_with fail
        go_ret
        exact HF.out
    by_cases hlt : k < N
    rotate_left
    · have hki : ¬ (k : Int) < N := by omega
      have e := HGOOD.out rs q HST.out (by have := HRL.out; omega)
      have hfin : RfEfsPost (rEfs l pos f) p A c l w (.returned (.slice Ao k co)) wr := by
        rw [e, ← HRL.out]
        exact ⟨rs, Ao, co, rfl, rfl, by rw [HRL.out]; exact HCO.out, HFL.out, HRK.out, HOK.out⟩
      have HF := Lib.hid hfin
      clear hlt e hfin
      go_wp2_with fail
      refine bodyPost_ret (v := .slice Ao k co) (by simp [results, Try.results14, go_sem]) rfl ?_
      exact HF.out
    have hki : (k : Int) < N := by omega
    have HEFF := Lib.hid (rfEff_any p A c l q false wr HRK.out HQL.out HL.out HC.out)
    have HKN := Lib.hid hlt
    clear hlt
    go_wp2_with fail
    refine HEFF.out.mono ?_
    clear HEFF kp kpd fp
    rintro e w4 ⟨x, hx, rfl, hfd, hR4, hO4⟩
    have hfits : x.x.fits := by rw [hx]; exact rEff_fits _ _ _
    have hnx := HNEXT.out rs q x HST.out (by have := HRL.out; have := HKN.out; omega) HQL.out hx
    have hql := rEff_pos false HQL.out
    have hfl4 : FL w.heap.size w4 Ao co rs := ⟨own_only HFL.out.row hO4 (fun q hq hx => own_blk_ne HFL.out.row HRK.out.box (by decide) (by rw [hq, hx])), fun q hq => ⟨(HFL.out.data q hq).1, (HFL.out.data q hq).2.blk HRK.out.box (by decide) hO4⟩⟩
    have hO6 : Only Nil w4 (w4.alloc (.cells x.cells.toArray 58)) := (Only.refl _ _).alloc _
    have hb6 : Blk (w4.alloc (.cells x.cells.toArray 58)) w4.heap.size 58 x.cells.toArray := Blk.new _ _ _
    have hrow := (hfl4.onlyNil hO6).row
    rw [HRL.out] at hrow
    have hbase : w.heap.size ≤ (w4.alloc (.cells x.cells.toArray 58)).heap.size := by
      have h1 := HOK.out.size
      have h2 := hO4.size
      have h4 := hO6.size
      omega
    have hcells : rs.flatMap FR.cells ++ x.cells = (rs ++ [x]).flatMap FR.cells := by simp
    have HCELLS := Lib.hid hcells
    have HCELLS2 := Lib.hid hcells
    have HROW := Lib.hid hrow
    have HB6 := Lib.hid hb6
    have HBASE := Lib.hid hbase
    have HO46 := Lib.hid hO6
    have HFL4 := Lib.hid hfl4
    have HFD4 := Lib.hid (hfd.base HOK.out.size)
    have HFITS := Lib.hid hfits
    have HNX := Lib.hid hnx
    have HQL4 := Lib.hid hql
    have HR4 := Lib.hid hR4
    have HO4 := Lib.hid (HOK.out.then_ hO4)
    have HONE := Lib.hid (FR.cells_one x)
    clear hfits hnx hql hfd hfl4 hO6 hb6 hrow hbase hcells hR4 hO4 hx
    obtain ⟨Am, cm, Ad, cd, ⟨kind, a0, a1, a2, a3, ⟨src, dst, mk, seq, b0, b1, b2, b3, md⟩, data⟩⟩ := x
    unfold FR.cells mcells at HCELLS HB6 HROW HBASE HO46 HONE ⊢
    simp only [List.cons_append, List.nil_append] at HCELLS HB6 HROW HBASE HO46 HONE ⊢
    go_wp2_with (at_builtin; go_must (refine wpList_append_rd _ rfl (.tmp 25) (.tmp 28) _ rfl w.heap.size 58 i0 _ 15 152 Try.underlying30 hi0 hz0 hz1 hz2 rfl (by omega) (.slice Ao k co) k (rs.flatMap FR.cells) rfl HROW.out (w4.heap.size + 1) (some ⟨w4.heap.size, 0, none⟩) 1 1 _ rfl (Rd.blk HB6.out rfl) HONE.out (k + 1) rfl _ HCELLS.out (by unfold maxLen; omega) (by omega) HBASE.out ?_))
    intro A7 c7 w7 hc7 hown7 hgr7 hat7
    have HG7 := Lib.hid hgr7
    have HOWN7 := Lib.hid hown7
    have HC7 := Lib.hid hc7
    clear hc7 hown7 hgr7 hat7
    go_wp2_with fail
    go_roundw
    case rel =>
      obtain ⟨r, hr⟩ : ∃ r : FR, r = ⟨Am, cm, Ad, cd, ⟨kind, a0, a1, a2, a3, ⟨src, dst, mk, seq, b0, b1, b2, b3, md⟩, data⟩⟩ := ⟨_, rfl⟩
      have hfd : FD w.heap.size w4 r := by rw [hr]; exact HFD4.out
      have hfits : r.x.fits := by rw [hr]; exact HFITS.out
      have hst : St (rs ++ [r]) (rEff l q false).2.1 (rEff l q false).2.2 := by rw [hr]; exact HNX.out
      have hown : w7.ownsRow w.heap.size 58 15 (.slice A7 (k + 1) c7) (k + 1) ((rs ++ [r]).flatMap FR.cells) := by
        rw [hr, ← HCELLS2.out]
        exact HOWN7.out
      have hlen : (rs ++ [r]).length = k + 1 := by rw [List.length_append, HRL.out]; rfl
      have hO47 : Only (fun x => (Value.slice Ao rs.length co).ownBlock = some x) w4 w7 := by
        rw [HRL.out]
        exact HO46.out.any.grown HG7.out (fun q hq => .inl hq)
      have hfl7 := HFL4.out.more (r := r) (A' := A7) (c' := c7) hO47 (by rw [hlen]; exact hown) hfits hfd
      have hO7 : Only (One p) w w7 := (HO4.out.thenNil HO46.out).grown HG7.out (fun q hq => .inr (ownBlock_ge HROW.out hq))
      have hb7 := (HR4.out.box.onlyNil HO46.out).grown HG7.out (fun e => own_blk_ne HROW.out (HR4.out.box.onlyNil HO46.out) (by decide) e.symm)
      have hr7 := H0.out.move hO7 hb7
      exact ⟨k + 1, A7, c7, rs ++ [r], _, _, by have := HKN.out; omega, by go_num, rfl, hlen, HC7.out, hst, HQL4.out, hfl7, hr7, hO7⟩
    case measure => simp [intOf]; have := HKN.out; omega

end Go.Proofs.Ytbhgaaendekghaa
