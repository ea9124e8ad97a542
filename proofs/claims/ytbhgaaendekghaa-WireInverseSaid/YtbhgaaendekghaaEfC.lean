/-
  wire.Reader's Effects and its closure.
  Conditions: the reader stands within its bytes; they are at most 2 to the power 40.
-/
import Derived.Test.YtbhgaaendekghaaEfQ
import Derived.Test.YtbhgaaendekghaaEfR
import Derived.Test.YtbhgaaendekghaaWmMsg
import Derived.Test.YtbhgaaendekghaaWmBytes
namespace Go.Proofs.Ytbhgaaendekghaa
open Go.RowKit

theorem effect_info : (Try.prog.info? 58).map (fun i => (i.zero, i.size, i.bytes)) = some (some (.agg #[.int .i64 0, .int .i64 0, .int .i64 0, .int .i64 0, .int .i64 0, .int .i64 0, .int .i64 0, .int .i64 0, .int .i64 0, .int .i64 0, .int .i64 0, .int .i64 0, .int .i64 0, .slice none 0 0, .slice none 0 0]), 15, 152) := by kernel_rfl

set_option maxHeartbeats 1000000 in
/-- try with the closure of Effects: where the closure answers false, the reader fails at its old place. -/
theorem try_Effects (v0 v1 : Value) (Q : Bool → World → Prop) (p : Nat) (A : Option Addr) (c : Nat) (l : List UInt8) (pos : Nat) (w : World) (h : RR w p A c l pos false)
    (hcall : Calls Try.prog 77 #[v0, v1] w fun e w' => ∃ b, e = .returned (.bool b) ∧ (∃ pos', RR w' p A c l pos' false) ∧ Q b w') :
    Calls Try.prog 60 #[.pointer (some ⟨p, 0, none⟩), .func (Fn.func 77) #[] #[v0, v1]] w (TryPost Q p A c l pos) := by
  have HC := Lib.hid hcall
  have kb : ∀ i, w.cell? ⟨p, i, none⟩ = #[Value.slice A l.length c, .int .i64 pos, .bool false][i]? := fun i => h.box.cell i
  clear hcall h
  go_enter Try.func60, Try.ntmps60
  go_wp2_with fail
  refine HC.out.mono ?_
  rintro e w1 ⟨b, rfl, ⟨pos', hR⟩, hQ⟩
  have HR := Lib.hid hR
  have HQ := Lib.hid hQ
  have kb1 : ∀ i, w1.cell? ⟨p, i, none⟩ = #[Value.slice A l.length c, .int .i64 pos', .bool false][i]? := fun i => hR.box.cell i
  have fb1 : ∀ i, w1.frozen? ⟨p, i, none⟩ = false := fun i => hR.box.frozen i
  clear hR hQ kb
  cases b
  · go_wp2_with fail
    refine bodyPost_end (v := .tuple #[]) (by simp [results, Try.results60, go_sem]) rfl ?_
    have hO : ∀ u, Only (One p) w1 u → Blk u p 96 #[.slice A l.length c, .int .i64 pos, .bool true] → TryPost Q p A c l pos (.returned (.tuple #[])) u := fun u hO hb =>
      ⟨⟨_, rfl⟩, .inr ⟨w1, HQ.out, HR.out.move hO hb, hO⟩⟩
    refine hO _ ?_ ((HR.out.box.set_ 1 _).set_ 2 _)
    (repeat' (first | with_reducible exact Only.refl _ _ | with_reducible refine Only.setCell ?_ (Or.inl ?_) _ | with_reducible refine Only.drewN ?_ _ | with_reducible refine Only.drew ?_ | with_reducible refine Only.alloc ?_ _ | (exact rfl)))
  · go_wp2_with fail
    refine bodyPost_end (v := .tuple #[]) (by simp [results, Try.results60, go_sem]) rfl ?_
    exact ⟨⟨_, rfl⟩, .inl HQ.out⟩

def EfsQ (p g : Nat) (A : Option Addr) (c : Nat) (l : List UInt8) (pos : Nat) (w : World) (b : Bool) (w' : World) : Prop :=
  Only (Two p g) w w' ∧ ((b = true ∧ ∃ (rs : List FR) (n : Nat) (Ax : Option Addr) (cx : Nat), decFs (l.drop pos) = some (rs.map FR.x, n) ∧ RR w' p A c l (pos + n) false ∧ Blk w' g 30 #[.slice Ax rs.length cx] ∧ rs.length ≤ cx ∧ FL w.heap.size w' Ax cx rs) ∨
    (b = false ∧ decFs (l.drop pos) = none ∧ Blk w' g 30 #[.slice none 0 0]))

set_option maxRecDepth 100000 in
set_option maxHeartbeats 4000000 in
theorem clo_Effects (g1 g2 : Nat) (p : Nat) (A : Option Addr) (c : Nat) (l : List UInt8) (pos : Nat) (w : World) (h : RR w p A c l pos false) (hp : pos ≤ l.length) (hl : l.length ≤ 1099511627776) (hc : c ≤ maxLen)
    (b1 : Blk w g1 53 #[.pointer (some ⟨p, 0, none⟩)]) (b2 : Blk w g2 30 #[.slice none 0 0]) :
    Calls Try.prog 77 #[.pointer (some ⟨g1, 0, none⟩), .pointer (some ⟨g2, 0, none⟩)] w (CloPost (EfsQ p g2 A c l pos w) p A c l) := by
  obtain ⟨i0, hi0, hz0, hz1, hz2⟩ := info_parts effect_info
  have n2 : g2 ≠ p := b2.ne_ h.box (by decide)
  have n1 : g1 ≠ p := b1.ne_ h.box (by decide)
  have hpw := h.box.lt
  have hg2w := b2.lt
  have H0 := Lib.hid h
  have HBND := Lib.hid (bounded_any 0 160 p A c l pos false w h hp hl)
  have B1 := Lib.hid b1
  have B2 := Lib.hid b2
  have HL := Lib.hid hl
  have HC := Lib.hid hc
  have N1 := Lib.hid n1
  have N2 := Lib.hid n2
  have HPW := Lib.hid hpw
  have HG2 := Lib.hid hg2w
  have k1 : w.cell? ⟨g1, 0, none⟩ = some (.pointer (some ⟨p, 0, none⟩)) := b1.cell 0
  clear h hp hl hc b1 b2 n1 n2 hpw hg2w
  go_enter Try.func77, Try.ntmps77
  go_wp2_with fail
  refine HBND.out.mono ?_
  clear HBND
  rintro e w1 ⟨q0, hR, hq0, hO, hcase⟩
  have HB1 := Lib.hid (B1.out.only hO (fun hx => N1.out hx))
  have HB2 := Lib.hid (B2.out.only hO (fun hx => N2.out hx))
  have HR := Lib.hid hR
  have HO := Lib.hid hO
  have HQ0 := Lib.hid hq0
  have hfalse : decFs (l.drop pos) = none → ∀ u q, RR u p A c l q false → Only (One p) w u → CloPost (EfsQ p g2 A c l pos w) p A c l (.returned (.bool false)) u := fun hd u q hRu hOu =>
    ⟨false, rfl, ⟨q, hRu⟩, hOu.more (fun x hx => .inl hx), .inr ⟨rfl, hd, B2.out.only hOu (fun hx => N2.out hx)⟩⟩
  have HF := Lib.hid hfalse
  clear hR hO hq0 k1 hfalse
  rcases hcase with ⟨z, n, hd, rfl, rfl⟩ | ⟨hd, rfl⟩
  rotate_left
  · have hN : decFs (l.drop pos) = none := by unfold decFs; rw [hd]
    have HN := Lib.hid hN
    clear hN hd
    go_wp2_with fail
    go_ret
    exact HF.out HN.out _ _ HR.out HO.out
  by_cases hz : 0 ≤ z ∧ z ≤ 160
  rotate_left
  · have hN : decFs (l.drop pos) = none := by unfold decFs; rw [hd]; dsimp only; rw [if_neg hz]
    have HN := Lib.hid hN
    rw [decide_eq_false hz]
    clear hN hd hz
    go_wp2_with fail
    go_ret
    exact HF.out HN.out _ _ HR.out HO.out
  rw [decide_eq_true hz]
  obtain ⟨N, rfl⟩ : ∃ N : Nat, z = (N : Int) := ⟨z.toNat, by omega⟩
  have hN160 : N ≤ 160 := by omega
  have hdf : decFs (l.drop pos) = (decFn N (l.drop (pos + n))).map fun r => (r.1, n + r.2) := by
    unfold decFs
    rw [hd]
    dsimp only
    rw [if_pos hz, List.drop_drop, Int.toNat_natCast]
  have HDF := Lib.hid hdf
  clear hd hz hdf
  go_wp2_with fail
  go_loopw [5, 16] (fun vo vi wr => ∃ (k : Nat) (Ao : Option Addr) (co : Nat) (rs : List FR) (j : Nat), k ≤ N ∧ vi = .int .i64 k ∧ vo = .slice Ao k co ∧ rs.length = k ∧ k ≤ co ∧ RestF N (l.drop (pos + n)) (rs.map FR.x) j ∧ FL w.heap.size wr Ao co rs ∧ RR wr p A c l (pos + n + j) false ∧ Only (One p) w wr) (fun _ vi _ => N - (intOf vi).toNat)
  case atStart => exact ⟨0, none, 0, [], 0, Nat.zero_le _, rfl, rfl, rfl, Nat.le_refl _, RestF.zero _ _, FL.nil _ _, HR.out, HO.out⟩
  case round =>
    obtain ⟨k, Ao, co, rs, j, hk, rfl, rfl, hrl, hco, hrest, hfl, hRk, hOk⟩ := hrel
    have hjl := hrest.2.1
    rw [List.length_drop] at hjl
    have HRL := Lib.hid hrl
    have HCO := Lib.hid hco
    have HREST := Lib.hid hrest
    have HFL := Lib.hid hfl
    have HRK := Lib.hid hRk
    have HOK := Lib.hid hOk
    have HB1k := Lib.hid (B1.out.only hOk (fun hx => N1.out hx))
    have k1 : wr.cell? ⟨g1, 0, none⟩ = some (.pointer (some ⟨p, 0, none⟩)) := HB1k.out.cell 0
    have HPJ := Lib.hid (show pos + n + j ≤ l.length by have := HQ0.out; omega)
    clear hrl hco hrest hfl hRk hOk hjl
    by_cases hlt : k < N
    · have hki : (k : Int) < N := by omega
      have HEFF := Lib.hid (rdeff_any p A c l (pos + n + j) false wr HRK.out HPJ.out HL.out HC.out)
      clear hlt
      go_wp2_with fail
      refine HEFF.out.mono ?_
      clear HEFF
      rintro e w4 ⟨q4, hR4, hq4, hO4, hcase⟩
      rcases hcase with ⟨r, m, hd, rfl, rfl, hcm, hom, hcd, hod⟩ | ⟨hd, r, rfl⟩
      rotate_left
      · have hN : decFs (l.drop pos) = none := by
          have h1 := HREST.out.none_ (by rw [List.length_map, HRL.out]; omega) (by rw [List.drop_drop]; exact hd)
          rw [HDF.out, h1]
          rfl
        have HN := Lib.hid hN
        have HR4 := Lib.hid hR4
        have HO4 := Lib.hid (HOK.out.then_ hO4)
        clear hN hd hR4 hO4 hq4 k1
        unfold FR.cells mcells
        simp only [List.cons_append, List.nil_append]
        go_wp2_with fail
        go_ret
        refine HF.out HN.out _ _ (HR4.out.onlyNil ((Only.refl _ _).alloc _)) (HO4.out.thenNil ((Only.refl _ _).alloc _))
      · have hfits := (decF_some hd).2.2.1
        have hrest2 := HREST.out.more (x := r.x) (n := m) (by rw [List.length_map, HRL.out]; omega) (by rw [List.drop_drop]; exact hd)
        have hfd : FD w.heap.size w4 r := ⟨hcm, own_base hom HOK.out.size, hcd, own_base hod HOK.out.size⟩
        obtain ⟨w5, hw5⟩ : ∃ w5, w5 = w4.alloc (.cells r.cells.toArray 58) := ⟨_, rfl⟩
        have hO5 : Only Nil w4 w5 := by rw [hw5]; exact (Only.refl _ _).alloc _
        have hb5 : Blk w5 w4.heap.size 58 r.cells.toArray := by rw [hw5]; exact Blk.new _ _ _
        have kx5 : ∀ i, w5.cell? ⟨w4.heap.size, i, none⟩ = r.cells.toArray[i]? := fun i => hb5.cell i
        have hfl4 : FL w.heap.size w4 Ao co rs := ⟨own_only HFL.out.row hO4 (fun q hq hx => own_blk_ne HFL.out.row HRK.out.box (by decide) (by rw [hq, hx])), fun q hq => ⟨(HFL.out.data q hq).1, (HFL.out.data q hq).2.blk HRK.out.box (by decide) hO4⟩⟩
        have hfl5 := hfl4.onlyNil hO5
        have hO6 : Only Nil w5 (w5.alloc (.cells r.cells.toArray 58)) := (Only.refl _ _).alloc _
        have hb6 : Blk (w5.alloc (.cells r.cells.toArray 58)) w5.heap.size 58 r.cells.toArray := Blk.new _ _ _
        have hrow := (hfl5.onlyNil hO6).row
        rw [HRL.out] at hrow
        have hbase : w.heap.size ≤ (w5.alloc (.cells r.cells.toArray 58)).heap.size := by
          have h1 := HOK.out.size
          have h2 := hO4.size
          have h3 := hO5.size
          have h4 := hO6.size
          omega
        have hcells : rs.flatMap FR.cells ++ r.cells = (rs ++ [r]).flatMap FR.cells := by simp
        have HCELLS := Lib.hid hcells
        have HCELLS2 := Lib.hid hcells
        have HROW := Lib.hid hrow
        have HB6 := Lib.hid hb6
        have HBASE := Lib.hid hbase
        have HO56 := Lib.hid hO6
        have HFL5 := Lib.hid hfl5
        have HFD5 := Lib.hid (hfd.onlyNil hO5)
        have HFITS := Lib.hid hfits
        have HREST2 := Lib.hid hrest2
        have HR5 := Lib.hid (hR4.onlyNil hO5)
        have HO5 := Lib.hid ((HOK.out.then_ hO4).thenNil hO5)
        have HW5 := Lib.hid hw5
        have HONE := Lib.hid (FR.cells_one r)
        clear hfits hrest2 hfd hO5 hb5 hfl4 hfl5 hO6 hb6 hrow hbase hcells hR4 hO4 hq4 hd hcm hom hcd hod hw5 k1
        obtain ⟨CS, hCS⟩ : ∃ CS, r.cells = CS := ⟨_, rfl⟩
        have HCS := Lib.hid hCS
        obtain ⟨Am, cm, Ad, cd, ⟨kind, a0, a1, a2, a3, ⟨src, dst, mk, seq, b0, b1, b2, b3, md⟩, data⟩⟩ := r
        unfold FR.cells mcells at kx5 HW5 HCELLS HB6 HROW HBASE HO56 HONE ⊢
        simp only [List.cons_append, List.nil_append] at kx5 HW5 HCELLS HB6 HROW HBASE HO56 HONE ⊢
        go_upto_region 8 with fail
        rw [← HW5.out]
        go_wp2_with (at_builtin; go_must (refine wpList_append_rd _ rfl (.tmp 25) (.tmp 27) _ rfl w.heap.size 58 i0 _ 15 152 Try.underlying30 hi0 hz0 hz1 hz2 rfl (by omega) (.slice Ao k co) k (rs.flatMap FR.cells) rfl HROW.out (w5.heap.size + 1) (some ⟨w5.heap.size, 0, none⟩) 1 1 _ rfl (Rd.blk HB6.out rfl) HONE.out (k + 1) rfl _ HCELLS.out (by unfold maxLen; omega) (by omega) HBASE.out ?_))
        intro A7 c7 w7 hc7 hown7 hgr7 hat7
        have HG7 := Lib.hid hgr7
        have HOWN7 := Lib.hid hown7
        have HC7 := Lib.hid hc7
        clear hc7 hown7 hgr7 hat7 kx5
        go_wp2_with fail
        go_roundw
        case rel =>
          obtain ⟨r, hr⟩ : ∃ r : FR, r = ⟨Am, cm, Ad, cd, ⟨kind, a0, a1, a2, a3, ⟨src, dst, mk, seq, b0, b1, b2, b3, md⟩, data⟩⟩ := ⟨_, rfl⟩
          have hfd : FD w.heap.size w5 r := by rw [hr]; exact HFD5.out
          have hfits : r.x.fits := by rw [hr]; exact HFITS.out
          have hrest : RestF N (l.drop (pos + n)) (rs.map FR.x ++ [r.x]) (j + m) := by rw [hr]; exact HREST2.out
          have hown : w7.ownsRow w.heap.size 58 15 (.slice A7 (k + 1) c7) (k + 1) ((rs ++ [r]).flatMap FR.cells) := by
            rw [hr, ← HCELLS2.out]
            exact HOWN7.out
          have hlen : (rs ++ [r]).length = k + 1 := by rw [List.length_append, HRL.out]; rfl
          have hO67 : Only (fun x => (Value.slice Ao rs.length co).ownBlock = some x) w5 w7 := by
            rw [HRL.out]
            exact HO56.out.any.grown HG7.out (fun q hq => .inl hq)
          have hfl7 := HFL5.out.more (r := r) (A' := A7) (c' := c7) hO67 (by rw [hlen]; exact hown) hfits hfd
          have hO7 : Only (One p) w w7 := (HO5.out.thenNil HO56.out).grown HG7.out (fun q hq => .inr (ownBlock_ge HROW.out hq))
          have hb7 := (HR5.out.box.onlyNil HO56.out).grown HG7.out (fun e => own_blk_ne HROW.out (HR5.out.box.onlyNil HO56.out) (by decide) e.symm)
          have hr7 := H0.out.move hO7 hb7
          refine ⟨k + 1, A7, c7, rs ++ [r], j + m, by omega, by go_num, rfl, hlen, HC7.out, ?_, hfl7, ?_, hO7⟩
          · rw [List.map_append]
            exact hrest
          · rw [← Nat.add_assoc]
            exact hr7
        case measure => simp [intOf]; omega
    · have hkN : k = N := by omega
      have hki : ¬ (k : Int) < N := by omega
      have hdone := HREST.out.done (by rw [List.length_map, HRL.out]; omega)
      have hdfs : decFs (l.drop pos) = some (rs.map FR.x, n + j) := by rw [HDF.out, hdone]; rfl
      have hb2 := B2.out.only HOK.out (fun hx => N2.out hx)
      have k2 : ∀ i, wr.cell? ⟨g2, i, none⟩ = #[Value.slice none 0 0][i]? := fun i => hb2.cell i
      have f2 : ∀ i, wr.frozen? ⟨g2, i, none⟩ = false := fun i => hb2.frozen i
      have hfin : ∀ u, Only (One g2) wr u → Blk u g2 30 #[.slice Ao k co] → CloPost (EfsQ p g2 A c l pos w) p A c l (.returned (.bool true)) u := fun u hS hb => by
        have hR := HRK.out.far hb2 (sone_no _ _ _) (fun e => N2.out e.symm) hS
        rw [Nat.add_assoc] at hR
        refine ⟨true, rfl, ⟨_, hR⟩, (HOK.out.more (fun x hx => .inl hx)).then_ (hS.more (fun x hx => .inr hx)), .inl ⟨rfl, rs, n + j, Ao, co, hdfs, hR, by rw [HRL.out]; exact hb, by rw [HRL.out]; exact HCO.out, HFL.out.blk hb2 (by decide) (by decide) hS⟩⟩
      have HFIN := Lib.hid hfin
      have HB2k := Lib.hid hb2
      clear hdone hdfs hb2 hfin hkN hlt
      go_wp2_with fail
      go_ret
      refine HFIN.out _ ?_ (HB2k.out.set_ 0 _)
      (repeat' (first | with_reducible exact Only.refl _ _ | with_reducible refine Only.setCell ?_ (Or.inl ?_) _ | with_reducible refine Only.drewN ?_ _ | with_reducible refine Only.drew ?_ | with_reducible refine Only.alloc ?_ _ | (exact rfl)))

/-- What the method answers. -/
def REfsPost (r : List Ef × Nat × Bool) (p : Nat) (A : Option Addr) (c : Nat) (l : List UInt8) (w : World) (e : Ending) (w' : World) : Prop :=
  ∃ rs Ax cx, rs.map FR.x = r.1 ∧ e = .returned (.slice Ax rs.length cx) ∧ rs.length ≤ cx ∧ FL w.heap.size w' Ax cx rs ∧ RR w' p A c l r.2.1 r.2.2 ∧ Only (One p) w w'

set_option maxRecDepth 100000 in
set_option maxHeartbeats 1000000 in
theorem rEfs_any (p : Nat) (A : Option Addr) (c : Nat) (l : List UInt8) (pos : Nat) (f : Bool) (w : World) (h : RR w p A c l pos f) (hp : pos ≤ l.length) (hl : l.length ≤ 1099511627776) (hc : c ≤ maxLen) :
    Calls Try.prog 50 #[.pointer (some ⟨p, 0, none⟩)] w (REfsPost (rEfs l pos f) p A c l w) := by
  obtain ⟨w2, hw2⟩ : ∃ w2, w2 = (w.alloc (.cells #[.pointer (some ⟨p, 0, none⟩)] 53)).alloc (.cells #[.slice none 0 0] 30) := ⟨_, rfl⟩
  have hO2 : Only Nil w w2 := by rw [hw2]; exact ((Only.refl _ _).alloc _).alloc _
  have hb1 : Blk w2 w.heap.size 53 #[.pointer (some ⟨p, 0, none⟩)] := by rw [hw2]; exact (Blk.new _ _ _).alloc _
  have hb2 : Blk w2 (w.heap.size + 1) 30 #[.slice none 0 0] := by
    rw [hw2]
    have := Blk.new (w.alloc (.cells #[.pointer (some ⟨p, 0, none⟩)] 53)) 30 #[.slice none 0 0]
    rw [World.size_alloc] at this
    exact this
  have hpw := h.box.lt
  have hR2 := h.onlyNil hO2
  have HB2 := Lib.hid hb2
  have HO2 := Lib.hid hO2
  have HR2 := Lib.hid hR2
  obtain ⟨r, hr⟩ : ∃ r, rEfs l pos f = r := ⟨_, rfl⟩
  rw [hr]
  have HRR := Lib.hid hr
  cases f
  · have ht := try_Effects _ _ _ p A c l pos w2 hR2 (clo_Effects w.heap.size (w.heap.size + 1) p A c l pos w2 hR2 hp hl hc hb1 hb2)
    have HT := Lib.hid ht
    clear ht hR2 hb1 hb2 hO2 h hp hl hr hc
    go_enter Try.func50, Try.ntmps50
    go_wp2_with fail
    rw [← hw2]
    clear hw2
    refine HT.out.mono ?_
    rintro e w1 ⟨⟨v, rfl⟩, hq⟩
    have hfin : ∃ rs Ax cx, rs.map FR.x = r.1 ∧ Blk w1 (w.heap.size + 1) 30 #[.slice Ax rs.length cx] ∧ rs.length ≤ cx ∧ FL w.heap.size w1 Ax cx rs ∧ RR w1 p A c l r.2.1 r.2.2 ∧ Only (One p) w w1 := by
      rw [← HRR.out]
      unfold rEfs
      rcases hq with ⟨hO, ⟨_, rs, n, Ax, cx, hd, hR, hb, hcx, hfl⟩ | ⟨h1, _⟩⟩ | ⟨u, ⟨hO, ⟨h1, _⟩ | ⟨_, hd, hb⟩⟩, hR, hOu⟩
      · rw [if_neg (by simp), hd]
        exact ⟨rs, Ax, cx, rfl, hb, hcx, hfl.base HO2.out.size, hR, HO2.out.any.trans hO (fun x hx => by rcases hx with hx | hx; exact .inl hx; exact .inr (by omega))⟩
      · cases h1
      · cases h1
      · rw [if_neg (by simp), hd]
        exact ⟨[], none, 0, rfl, hb.only hOu (by unfold One; omega), Nat.le_refl _, FL.nil _ _, hR, (HO2.out.any.trans hO (fun x hx => by rcases hx with hx | hx; exact .inl hx; exact .inr (by omega))).then_ hOu⟩
    obtain ⟨rs, Ax, cx, hmap, hb, hcx, hfl, hR, hO⟩ := hfin
    have k2 : ∀ i, w1.cell? ⟨w.heap.size + 1, i, none⟩ = #[Value.slice Ax rs.length cx][i]? := fun i => hb.cell i
    have f2 : ∀ i, w1.frozen? ⟨w.heap.size + 1, i, none⟩ = false := fun i => hb.frozen i
    have hfin : ∀ u, Only (One (w.heap.size + 1)) w1 u → REfsPost r p A c l w (.returned (.slice Ax rs.length cx)) u := fun u hS =>
      ⟨rs, Ax, cx, hmap, rfl, hcx, hfl.blk hb (by decide) (by decide) hS, hR.far hb (sone_no _ _ _) (by omega) hS, hO.trans hS (fun x hx => .inr (by unfold One at hx; omega))⟩
    obtain ⟨X, hX⟩ : ∃ X, rs.length = X := ⟨_, rfl⟩
    rw [hX] at k2 hfin
    have HF := Lib.hid hfin
    clear hb hR hO hq hcx hfl hmap hX hfin HRR
    go_wp2_with fail
    refine bodyPost_ret (v := .slice Ax X cx) (by simp [results, Try.results50, go_sem, k2]) rfl ?_
    refine HF.out _ ?_
    (repeat' (first | with_reducible exact Only.refl _ _ | with_reducible refine Only.setCell ?_ (Or.inl ?_) _ | with_reducible refine Only.drewN ?_ _ | with_reducible refine Only.drew ?_ | with_reducible refine Only.alloc ?_ _ | (exact rfl)))
  · have hr1 : r = ([], pos, true) := by rw [← hr]; rfl
    have HR1 := Lib.hid hr1
    have HT := Lib.hid (fun F => try_failed F p A c l pos w2 hR2)
    clear hR2 hb1 hb2 hO2 h hp hl hr hr1 hc
    go_enter Try.func50, Try.ntmps50
    go_wp2_with fail
    rw [← hw2]
    clear hw2
    refine (HT.out _).mono ?_
    rintro e w1 ⟨⟨v, rfl⟩, rfl⟩
    have k2 : ∀ i, w1.cell? ⟨w.heap.size + 1, i, none⟩ = #[Value.slice none 0 0][i]? := fun i => HB2.out.cell i
    have f2 : ∀ i, w1.frozen? ⟨w.heap.size + 1, i, none⟩ = false := fun i => HB2.out.frozen i
    have hfin : ∀ u, Only (One (w.heap.size + 1)) w1 u → REfsPost r p A c l w (.returned (.slice none 0 0)) u := fun u hS => by
      rw [HR1.out]
      exact ⟨[], none, 0, rfl, rfl, Nat.le_refl _, FL.nil _ _, HR2.out.far HB2.out (sone_no _ _ _) (by omega) hS, HO2.out.any.trans hS (fun x hx => .inr (by unfold One at hx; omega))⟩
    have HF := Lib.hid hfin
    clear hfin
    go_wp2_with fail
    refine bodyPost_ret (v := .slice none 0 0) (by simp [results, Try.results50, go_sem, k2]) rfl ?_
    refine HF.out _ ?_
    (repeat' (first | with_reducible exact Only.refl _ _ | with_reducible refine Only.setCell ?_ (Or.inl ?_) _ | with_reducible refine Only.drewN ?_ _ | with_reducible refine Only.drew ?_ | with_reducible refine Only.alloc ?_ _ | (exact rfl)))

end Go.Proofs.Ytbhgaaendekghaa
