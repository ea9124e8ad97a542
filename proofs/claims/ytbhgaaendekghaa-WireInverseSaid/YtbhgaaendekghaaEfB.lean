/-
  The walks of wire's Reader.Bool and Reader.Ints, where the bytes hold what is read.
  Conditions: the reader stands within its bytes; they are at most 2 to the power 40.
-/
import Derived.Test.YtbhgaaendekghaaEfV
import Derived.Test.YtbhgaaendekghaaEfY
import Derived.StillTailTactics
namespace Go.Proofs.Ytbhgaaendekghaa
open Go.RowKit

set_option maxHeartbeats 1000000 in
/-- try with the closure of Bool: where the closure answers false, the reader fails at its old place. -/
theorem try_Bool (v0 v1 : Value) (Q : Bool → World → Prop) (p : Nat) (A : Option Addr) (c : Nat) (l : List UInt8) (pos : Nat) (w : World) (h : RR w p A c l pos false)
    (hcall : Calls Try.prog 69 #[v0, v1] w fun e w' => ∃ b, e = .returned (.bool b) ∧ (∃ pos', RR w' p A c l pos' false) ∧ Q b w') :
    Calls Try.prog 60 #[.pointer (some ⟨p, 0, none⟩), .func (Fn.func 69) #[] #[v0, v1]] w (TryPost Q p A c l pos) := by
  have HC := Lib.hid hcall
  have kb : ∀ i, w.cell? ⟨p, i, none⟩ = #[Value.slice A l.length c, .int .i64 pos, .bool false][i]? := fun i => h.box.cell i
  clear hcall h
  go_enter Try.func60, Try.ntmps60
  go_wp2_with fail
  refine HC.out.mono ?_
  rintro e w1 ⟨b, rfl, ⟨pos', hR⟩, hQ⟩
  have HR := Lib.hid hR
  have HQ := Lib.hid hQ
  have kb1 : ∀ i, w1.cell? ⟨p, i, none⟩ = #[Value.slice A l.length c, .int .i64 pos', .bool false][i]? := fun i => hR.box.cell i
  have fb1 : ∀ i, w1.frozen? ⟨p, i, none⟩ = false := fun i => hR.box.frozen i
  clear hR hQ kb
  cases b
  · go_wp2_with fail
    refine bodyPost_end (v := .tuple #[]) (by simp [results, Try.results60, go_sem]) rfl ?_
    have hO : ∀ u, Only (One p) w1 u → Blk u p 96 #[.slice A l.length c, .int .i64 pos, .bool true] → TryPost Q p A c l pos (.returned (.tuple #[])) u := fun u hO hb =>
      ⟨⟨_, rfl⟩, .inr ⟨w1, HQ.out, HR.out.move hO hb, hO⟩⟩
    refine hO _ ?_ ((HR.out.box.set_ 1 _).set_ 2 _)
    (repeat' (first | with_reducible exact Only.refl _ _ | with_reducible refine Only.setCell ?_ (Or.inl ?_) _ | with_reducible refine Only.drewN ?_ _ | with_reducible refine Only.drew ?_ | with_reducible refine Only.alloc ?_ _ | (exact rfl)))
  · go_wp2_with fail
    refine bodyPost_end (v := .tuple #[]) (by simp [results, Try.results60, go_sem]) rfl ?_
    exact ⟨⟨_, rfl⟩, .inl HQ.out⟩

set_option maxHeartbeats 1000000 in
/-- try with the closure of Ints: where the closure answers false, the reader fails at its old place. -/
theorem try_Ints (v0 v1 v2 : Value) (Q : Bool → World → Prop) (p : Nat) (A : Option Addr) (c : Nat) (l : List UInt8) (pos : Nat) (w : World) (h : RR w p A c l pos false)
    (hcall : Calls Try.prog 63 #[v0, v1, v2] w fun e w' => ∃ b, e = .returned (.bool b) ∧ (∃ pos', RR w' p A c l pos' false) ∧ Q b w') :
    Calls Try.prog 60 #[.pointer (some ⟨p, 0, none⟩), .func (Fn.func 63) #[] #[v0, v1, v2]] w (TryPost Q p A c l pos) := by
  have HC := Lib.hid hcall
  have kb : ∀ i, w.cell? ⟨p, i, none⟩ = #[Value.slice A l.length c, .int .i64 pos, .bool false][i]? := fun i => h.box.cell i
  clear hcall h
  go_enter Try.func60, Try.ntmps60
  go_wp2_with fail
  refine HC.out.mono ?_
  rintro e w1 ⟨b, rfl, ⟨pos', hR⟩, hQ⟩
  have HR := Lib.hid hR
  have HQ := Lib.hid hQ
  have kb1 : ∀ i, w1.cell? ⟨p, i, none⟩ = #[Value.slice A l.length c, .int .i64 pos', .bool false][i]? := fun i => hR.box.cell i
  have fb1 : ∀ i, w1.frozen? ⟨p, i, none⟩ = false := fun i => hR.box.frozen i
  clear hR hQ kb
  cases b
  · go_wp2_with fail
    refine bodyPost_end (v := .tuple #[]) (by simp [results, Try.results60, go_sem]) rfl ?_
    have hO : ∀ u, Only (One p) w1 u → Blk u p 96 #[.slice A l.length c, .int .i64 pos, .bool true] → TryPost Q p A c l pos (.returned (.tuple #[])) u := fun u hO hb =>
      ⟨⟨_, rfl⟩, .inr ⟨w1, HQ.out, HR.out.move hO hb, hO⟩⟩
    refine hO _ ?_ ((HR.out.box.set_ 1 _).set_ 2 _)
    (repeat' (first | with_reducible exact Only.refl _ _ | with_reducible refine Only.setCell ?_ (Or.inl ?_) _ | with_reducible refine Only.drewN ?_ _ | with_reducible refine Only.drew ?_ | with_reducible refine Only.alloc ?_ _ | (exact rfl)))
  · go_wp2_with fail
    refine bodyPost_end (v := .tuple #[]) (by simp [results, Try.results60, go_sem]) rfl ?_
    exact ⟨⟨_, rfl⟩, .inl HQ.out⟩


theorem int_info : (Try.prog.info? 3).map (fun i => (i.zero, i.size, i.bytes)) = some (some (.int .i64 0), 1, 8) := by kernel_rfl
def bnum (v : Bool) : Int := if v then 1 else 0
set_option maxRecDepth 100000 in
set_option maxHeartbeats 2000000 in
theorem clo_Bool (v : Bool) (g1 g2 : Nat) (p : Nat) (A : Option Addr) (c : Nat) (l : List UInt8) (pos : Nat) (w : World) (h : RR w p A c l pos false) (hv : l[pos]? = some (if v then 1 else 0)) (hl : l.length ≤ 1099511627776)
    (b1 : Blk w g1 53 #[.pointer (some ⟨p, 0, none⟩)]) (b2 : Blk w g2 4 #[.bool false]) :
    Calls Try.prog 69 #[.pointer (some ⟨g1, 0, none⟩), .pointer (some ⟨g2, 0, none⟩)] w fun e w' => e = .returned (.bool true) ∧ RR w' p A c l (pos + 1) false ∧ Blk w' g2 4 #[.bool v] ∧ Only (Two p g2) w w' := by
  have n2 : g2 ≠ p := b2.ne_ h.box (by decide)
  have n1 : g1 ≠ p := b1.ne_ h.box (by decide)
  have n12 : g1 ≠ g2 := b1.ne_ b2 (by decide)
  have hpl : pos < l.length := (List.getElem?_eq_some_iff.1 hv).1
  obtain ⟨z, hz⟩ : ∃ z, bnum v = z := ⟨_, rfl⟩
  have hzt : (((if v then 1 else 0 : UInt8).toNat : Nat) : Int) = z := by rw [← hz]; cases v <;> rfl
  have hz1 : ¬ (1 : Int) < z := by rw [← hz]; cases v <;> decide
  have hz2 : (z == 1) = v := by rw [← hz]; cases v <;> rfl
  obtain ⟨gb, off, rfl, hgb, cb⟩ := h.bytes.at_ hv
  rw [hzt] at cb
  obtain ⟨N, hN⟩ : ∃ N, l.length = N := ⟨_, rfl⟩
  have H0 := Lib.hid h
  have B1 := Lib.hid b1
  have B2 := Lib.hid b2
  have HN := Lib.hid hN
  have HC : Hid (∀ u, Only Nil w u → u.cell? ⟨gb, off + pos, none⟩ = some (.int .u8 z)) := Lib.hid (fun u hu => (hu.cell (lt_of_cell cb) (fun h => h)).trans cb)
  have K1 : Hid (∀ u, Only Nil w u → u.cell? ⟨g1, 0, none⟩ = some (.pointer (some ⟨p, 0, none⟩))) := Lib.hid (fun u hu => (B1.out.onlyNil hu).cell 0)
  have KP : Hid (∀ u, Only Nil w u → ∀ i, u.cell? ⟨p, i, none⟩ = #[Value.slice (some ⟨gb, off, none⟩) N c, .int .i64 pos, .bool false][i]?) := Lib.hid (fun u hu i => by have := (H0.out.onlyNil hu).box; rw [HN.out] at this; exact this.cell i)
  have KQ : Hid (∀ u, Only (One g2) w u → (u.cell? ⟨g1, 0, none⟩ = some (.pointer (some ⟨p, 0, none⟩)) ∧ (∀ i, u.cell? ⟨p, i, none⟩ = #[Value.slice (some ⟨gb, off, none⟩) N c, .int .i64 pos, .bool false][i]?) ∧ (∀ i, u.frozen? ⟨p, i, none⟩ = false) ∧ RR u p (some ⟨gb, off, none⟩) c l pos false)) := Lib.hid (fun u hu => by
    have h1 := B1.out.only hu (fun hx => n12 hx)
    have h2 := H0.out.far B2.out (fun i y => by match i with | 0 => simp | n + 1 => simp) (fun e => n2 e.symm) hu
    have h3 := h2.box
    rw [HN.out] at h3
    exact ⟨h1.cell 0, fun i => h3.cell i, fun i => h3.frozen i, h2⟩)
  have hpn : ¬ (N : Int) ≤ (pos : Int) := by omega
  have hpn2 : (pos : Int) < (N : Int) := by omega
  have hpn3 : ¬ N ≤ pos := by omega
  have hpn4 : decide (N ≤ pos) = false := decide_eq_false hpn3
  have hw1 : IntKind.i64.wrap ((pos : Int) + 1) = (pos : Int) + 1 := IntWalk.i64_in _ (by omega)
  clear h hv b1 b2 hz hzt hgb cb hpl hN
  have k1 := K1.out w (Only.refl _ _)
  have kd1 := K1.out w.drew (Only.refl _ _).drew
  have kp := KP.out w (Only.refl _ _)
  have kdp := KP.out w.drew (Only.refl _ _).drew
  have kc := HC.out w (Only.refl _ _)
  have kdc := HC.out w.drew (Only.refl _ _).drew
  go_enter Try.func69, Try.ntmps69
  go_wp2_with fail
  go_quiet (fail)
  go_upto_region 3 with fail
  obtain ⟨w1, hw1⟩ : ∃ u, w.drewN nq = u := ⟨_, rfl⟩
  have hO1 : Only Nil w w1 := by rw [← hw1]; exact (Only.refl _ _).drewN _
  rw [hw1]
  clear k1 kd1 kp kdp kc kdc hw1 hpn hpn3 hpn4
  have HO1 := Lib.hid hO1
  have hz : ∀ i, w1.cell? ⟨g2, i, none⟩ = #[Value.bool false][i]? := fun i => (B2.out.onlyNil hO1).cell i
  have fz : ∀ i, w1.frozen? ⟨g2, i, none⟩ = false := fun i => (B2.out.onlyNil hO1).frozen i
  have hzd : ∀ i, w1.drew.cell? ⟨g2, i, none⟩ = #[Value.bool false][i]? := fun i => (B2.out.onlyNil hO1.drew).cell i
  have fzd : ∀ i, w1.drew.frozen? ⟨g2, i, none⟩ = false := fun i => (B2.out.onlyNil hO1.drew).frozen i
  have k1 := K1.out w1 hO1
  have kd1 := K1.out w1.drew hO1.drew
  have kp := KP.out w1 hO1
  have kdp := KP.out w1.drew hO1.drew
  have kc := HC.out w1 hO1
  have kdc := HC.out w1.drew hO1.drew
  clear hO1
  go_still_tail 11, (by kernel_rfl)
  go_upto_region 4 with fail
  obtain ⟨w2, hw2⟩ : ∃ u, (w1.setCell ⟨g2, 0, none⟩ (.bool v)).drew = u := ⟨_, rfl⟩
  have hS : Only (One g2) w1 w2 := by rw [← hw2]; (repeat' (first | with_reducible exact Only.refl _ _ | with_reducible refine Only.setCell ?_ (Or.inl ?_) _ | with_reducible refine Only.drewN ?_ _ | with_reducible refine Only.drew ?_ | with_reducible refine Only.alloc ?_ _ | (exact rfl)))
  have hb2 : Blk w2 g2 4 #[.bool v] := by rw [← hw2]; exact ((B2.out.onlyNil HO1.out).set_ 0 (.bool v)).drew
  have hO2 : Only (One g2) w w2 := (HO1.out.any).then_ hS
  rw [hw2]
  clear hw2 hS k1 kd1 kp kdp kc kdc hz fz hzd fzd
  obtain ⟨k1, kp, fp, hR2⟩ := KQ.out w2 hO2
  have hfin : ∀ u, Only (One p) w2 u → Blk u p 96 #[.slice (some ⟨gb, off, none⟩) l.length c, .int .i64 ((pos + 1 : Nat) : Int), .bool false] → (RR u p (some ⟨gb, off, none⟩) c l (pos + 1) false ∧ Blk u g2 4 #[.bool v] ∧ Only (Two p g2) w u) := fun u hS hb =>
    ⟨hR2.move hS hb, hb2.only hS (fun hx => n2 hx), (hO2.more (fun x hx => .inr hx)).then_ (hS.more (fun x hx => .inl hx))⟩
  have HF := Lib.hid hfin
  have HB : Hid (Blk (w2.setCell ⟨p, 1, none⟩ (.int .i64 ((pos : Int) + 1))) p 96 #[.slice (some ⟨gb, off, none⟩) l.length c, .int .i64 ((pos + 1 : Nat) : Int), .bool false]) := Lib.hid (hR2.box.set_ 1 _)
  clear hfin hb2 hR2 hO2
  go_wp2_with fail
  go_ret
  refine ⟨rfl, HF.out _ ?_ HB.out⟩
  (repeat' (first | with_reducible exact Only.refl _ _ | with_reducible refine Only.setCell ?_ (Or.inl ?_) _ | with_reducible refine Only.drewN ?_ _ | with_reducible refine Only.drew ?_ | with_reducible refine Only.alloc ?_ _ | (exact rfl)))

set_option maxRecDepth 100000 in
set_option maxHeartbeats 1000000 in
theorem rBool_ok (v : Bool) (p : Nat) (A : Option Addr) (c : Nat) (l : List UInt8) (pos : Nat) (w : World) (h : RR w p A c l pos false) (hv : l[pos]? = some (if v then 1 else 0)) (hl : l.length ≤ 1099511627776) :
    Calls Try.prog 39 #[.pointer (some ⟨p, 0, none⟩)] w fun e w' => e = .returned (.bool v) ∧ RR w' p A c l (pos + 1) false ∧ Only (One p) w w' := by
  obtain ⟨w2, hw2⟩ : ∃ w2, w2 = (w.alloc (.cells #[.pointer (some ⟨p, 0, none⟩)] 53)).alloc (.cells #[.bool false] 4) := ⟨_, rfl⟩
  have hO2 : Only Nil w w2 := by rw [hw2]; exact ((Only.refl _ _).alloc _).alloc _
  have hb1 : Blk w2 w.heap.size 53 #[.pointer (some ⟨p, 0, none⟩)] := by rw [hw2]; exact (Blk.new _ _ _).alloc _
  have hb2 : Blk w2 (w.heap.size + 1) 4 #[.bool false] := by
    rw [hw2]
    have := Blk.new (w.alloc (.cells #[.pointer (some ⟨p, 0, none⟩)] 53)) 4 #[.bool false]
    rw [World.size_alloc] at this
    exact this
  have hpw := h.box.lt
  have hR2 := h.onlyNil hO2
  have ht := try_Bool _ _ (fun b w' => b = true ∧ RR w' p A c l (pos + 1) false ∧ Blk w' (w.heap.size + 1) 4 #[.bool v] ∧ Only (Two p (w.heap.size + 1)) w2 w') p A c l pos w2 hR2 ((clo_Bool v w.heap.size (w.heap.size + 1) p A c l pos w2 hR2 hv hl hb1 hb2).mono (fun e w' hh => ⟨true, hh.1, ⟨_, hh.2.1⟩, rfl, hh.2⟩))
  have HT := Lib.hid ht
  have HO2 := Lib.hid hO2
  clear ht hR2 hb1 hb2 hO2 h hv hl
  go_enter Try.func39, Try.ntmps39
  go_wp2_with fail
  rw [← hw2]
  clear hw2
  refine HT.out.mono ?_
  rintro e w1 ⟨⟨r, rfl⟩, ⟨_, hR, hb, hO⟩ | ⟨u, ⟨h1, _⟩, _⟩⟩
  rotate_left
  · cases h1
  have k2 : ∀ i, w1.cell? ⟨w.heap.size + 1, i, none⟩ = #[Value.bool v][i]? := fun i => hb.cell i
  have f2 : ∀ i, w1.frozen? ⟨w.heap.size + 1, i, none⟩ = false := fun i => hb.frozen i
  have hfin : ∀ u, Only (One (w.heap.size + 1)) w1 u → (RR u p A c l (pos + 1) false ∧ Only (One p) w u) := fun u hS =>
    ⟨hR.far hb (fun i y => by match i with | 0 => simp | n + 1 => simp) (by omega) hS, (HO2.out.any.trans hO (fun x hx => by rcases hx with hx | hx; exact .inl hx; exact .inr (by omega))).trans hS (fun x hx => .inr (by unfold One at hx; omega))⟩
  have HF := Lib.hid hfin
  clear hR hb hO hfin
  go_wp2_with fail
  refine bodyPost_ret (v := .bool v) (by simp [results, Try.results39, go_sem, k2]) rfl ?_
  refine ⟨rfl, HF.out _ ?_⟩
  (repeat' (first | with_reducible exact Only.refl _ _ | with_reducible refine Only.setCell ?_ (Or.inl ?_) _ | with_reducible refine Only.drewN ?_ _ | with_reducible refine Only.drew ?_ | with_reducible refine Only.alloc ?_ _ | (exact rfl)))

theorem izeros_new (n : Nat) : ints (List.replicate n 0) = madeCells (Value.cells (.int .i64 0)) n := by
  apply Array.ext_getElem?
  intro j
  unfold ints madeCells
  simp only [List.getElem?_toArray, List.getElem?_map, List.getElem?_replicate]
  rw [Array.getElem?_map, Array.getElem?_range]
  by_cases hj : j < n
  · rw [if_pos hj, if_pos hj]
    have : j % (Value.cells (.int .i64 0)).size = 0 := by simp [Value.cells, Nat.mod_one]
    simp [this]
    rfl
  · rw [if_neg hj, if_neg hj]
    rfl

set_option maxRecDepth 100000 in
set_option maxHeartbeats 2000000 in
theorem clo_Ints (most : Int) (zs : List Int) (n j : Nat) (g1 g3 g2 : Nat) (p : Nat) (A : Option Addr) (c : Nat) (l : List UInt8) (pos : Nat) (w : World) (h : RR w p A c l pos false) (hp : pos ≤ l.length) (hl : l.length ≤ 1099511627776)
    (hd : dec (l.drop pos) = some ((zs.length : Int), n)) (hN : (zs.length : Int) ≤ most) (hL : zs.length ≤ l.length - (pos + n)) (hz : decN zs.length (l.drop (pos + n)) = some (zs, j))
    (b1 : Blk w g1 53 #[.pointer (some ⟨p, 0, none⟩)]) (b3 : Blk w g3 3 #[.int .i64 most]) (b2 : Blk w g2 60 #[.slice none 0 0]) :
    Calls Try.prog 63 #[.pointer (some ⟨g1, 0, none⟩), .pointer (some ⟨g3, 0, none⟩), .pointer (some ⟨g2, 0, none⟩)] w fun e w' => e = .returned (.bool true) ∧ RR w' p A c l (pos + n + j) false ∧ Only (Two p g2) w w' ∧ ∃ g, w.heap.size ≤ g ∧ Blk w' g2 60 #[.slice (some ⟨g, 0, none⟩) zs.length zs.length] ∧ Blk w' g 3 (ints zs) := by
  obtain ⟨i0, hi0, hz0, hz1, hz2⟩ := info_parts int_info
  have n2 : g2 ≠ p := b2.ne_ h.box (by decide)
  have n1 : g1 ≠ p := b1.ne_ h.box (by decide)
  have n12 : g1 ≠ g2 := b1.ne_ b2 (by decide)
  have hpw := h.box.lt
  have hg2w := b2.lt
  have HBND := Lib.hid (bounded_any 0 most p A c l pos false w h hp hl)
  have hpn : pos + n ≤ l.length := by have := (dec_len hd).1; rw [List.length_drop] at this; omega
  have B1 := Lib.hid b1
  have B2 := Lib.hid b2
  have HL := Lib.hid hl
  have N1 := Lib.hid n1
  have N2 := Lib.hid n2
  have HPW := Lib.hid hpw
  have HG2 := Lib.hid hg2w
  have HD := Lib.hid hd
  have HZ := Lib.hid hz
  have HPN := Lib.hid hpn
  have HMOST := Lib.hid hN
  have k1 : w.cell? ⟨g1, 0, none⟩ = some (.pointer (some ⟨p, 0, none⟩)) := b1.cell 0
  have k3 : w.cell? ⟨g3, 0, none⟩ = some (.int .i64 most) := b3.cell 0
  obtain ⟨L, hLL⟩ : ∃ L, l.length = L := ⟨_, rfl⟩
  obtain ⟨N, hNN⟩ : ∃ N, zs.length = N := ⟨_, rfl⟩
  have HLL := Lib.hid hLL
  have HNN := Lib.hid hNN
  rw [hLL] at hl hpn hL
  rw [hNN] at hL ⊢
  have hmk : ∀ w : World, (Instr.makeSlice 60 (.int .i64 (N : Int)) (.int .i64 (N : Int))).run Try.prog w = .ok (.slice (some ⟨w.heap.size, 0, none⟩) N N) (w.alloc (.cells (ints (List.replicate N 0)) 3)) := by
    intro w
    rw [run_make_rowN _ 3 i0 _ Try.underlying60 hi0 hz0 _ _ N N (Nat.le_refl _) (by rw [hz2]; omega) (by omega) w, hz1, Nat.mul_one, izeros_new]
  clear h hp b1 b2 b3 n1 n2 hpw hg2w hd hz hN hLL hNN
  go_enter Try.func63, Try.ntmps63
  go_wp2_with fail
  refine HBND.out.mono ?_
  clear HBND k3
  rintro e w1 ⟨q0, hR, hq0, hO, hcase⟩
  have hcase : q0 = pos + n ∧ e = .returned (.tuple #[.int .i64 N, .bool true]) := by
    rcases hcase with ⟨z, n', hd, rfl, rfl⟩ | ⟨hd, _⟩
    · rw [HD.out] at hd
      injection hd with hd
      injection hd with e1 e2
      subst e1 e2
      rw [decide_eq_true (by have := HMOST.out; omega), HNN.out]
      exact ⟨rfl, rfl⟩
    · rw [HD.out] at hd
      cases hd
  obtain ⟨rfl, rfl⟩ := hcase
  have HB1 := Lib.hid (B1.out.only hO (fun hx => N1.out hx))
  have HB2 := Lib.hid (B2.out.only hO (fun hx => N2.out hx))
  have hbx := hR.box
  rw [HLL.out] at hbx
  have HR := Lib.hid hR
  have HO := Lib.hid hO
  obtain ⟨q, hq⟩ : ∃ q, pos + n = q := ⟨_, rfl⟩
  rw [hq] at hbx hpn hL HR HPN
  have HQQ := Lib.hid hq
  have k1 : w1.cell? ⟨g1, 0, none⟩ = some (.pointer (some ⟨p, 0, none⟩)) := HB1.out.cell 0
  have kd1 : w1.drew.cell? ⟨g1, 0, none⟩ = some (.pointer (some ⟨p, 0, none⟩)) := HB1.out.drew.cell 0
  have kp : ∀ i, w1.cell? ⟨p, i, none⟩ = #[Value.slice A L c, .int .i64 q, .bool false][i]? := fun i => hbx.cell i
  have kdp : ∀ i, w1.drew.cell? ⟨p, i, none⟩ = #[Value.slice A L c, .int .i64 q, .bool false][i]? := fun i => hbx.drew.cell i
  have hwrap : IntKind.i64.wrap ((L : Int) - (q : Int)) = (L : Int) - (q : Int) := IntWalk.i64_in _ (by omega)
  have hnlt : ¬ (L : Int) - (q : Int) < (N : Int) := by omega
  clear hR hO hq0 hbx hq
  go_wp2_with fail
  go_quiet (fail)
  go_upto_region 4 with fail
  obtain ⟨w2, hw2⟩ : ∃ u, w1.drewN nq = u := ⟨_, rfl⟩
  have hO2 : Only Nil w1 w2 := by rw [← hw2]; exact (Only.refl _ _).drewN _
  rw [hw2]
  clear hw2 k1 kd1 kp kdp
  obtain ⟨w3, hw3⟩ : ∃ u, w2.alloc (.cells (ints (List.replicate N 0)) 3) = u := ⟨_, rfl⟩
  obtain ⟨g, hg⟩ : ∃ g, w2.heap.size = g := ⟨_, rfl⟩
  have hO3 : Only Nil w1 w3 := by rw [← hw3]; exact hO2.alloc _
  have hb3 : Blk w3 g 3 (ints (List.replicate N 0)) := by rw [← hw3, ← hg]; exact Blk.new _ _ _
  have hpg : p < g := by have := HPW.out; have := HO.out.size; have := hO2.size; omega
  have hg2g : g2 < g := by have := HG2.out; have := HO.out.size; have := hO2.size; omega
  have hwg : w.heap.size ≤ g := by have := HO.out.size; have := hO2.size; omega
  have HNU := Lib.hid (numbers_any N g N 3 (List.replicate N 0) p A c l q false w3 (HR.out.onlyNil hO3) (by have := HPN.out; omega) HL.out hb3 (by simp) (by omega) (by omega))
  have HB13 := Lib.hid (HB1.out.onlyNil hO3)
  have HB23 := Lib.hid (HB2.out.onlyNil hO3)
  have HO3 := Lib.hid (HO.out.thenNil hO3)
  have HGG := Lib.hid (And.intro hpg (And.intro hg2g hwg))
  have k1 : w3.cell? ⟨g1, 0, none⟩ = some (.pointer (some ⟨p, 0, none⟩)) := HB13.out.cell 0
  clear hO2 hO3 hb3 hpg hg2g hwg
  go_upto_region 5 with fail
  try rw [hw3]
  try rw [hg]
  clear hw3 hg hmk
  go_wp2_with fail
  with_reducible refine HNU.out.mono ?_
  clear HNU k1
  rintro e w4 ⟨pos', ys, hR4, _, _, hb4, hO4, hcase⟩
  have hcase : e = .returned (.bool true) ∧ ys = zs ∧ pos' = q + j := by
    have hz := HZ.out
    rw [HQQ.out, HNN.out] at hz
    rcases hcase with ⟨k, h1, h2, h3⟩ | ⟨h1, _⟩
    · rw [hz] at h1
      injection h1 with h1
      injection h1 with e1 e2
      exact ⟨h3, e1.symm, by rw [h2, e2]⟩
    · rw [hz] at h1
      cases h1
  obtain ⟨rfl, rfl, rfl⟩ := hcase
  have hgg := HGG.out
  have hb24 := HB23.out.only hO4 (fun hx => by rcases hx with hx | hx; exact N2.out hx; omega)
  have k2 : ∀ i, w4.cell? ⟨g2, i, none⟩ = #[Value.slice none 0 0][i]? := fun i => hb24.cell i
  have f2 : ∀ i, w4.frozen? ⟨g2, i, none⟩ = false := fun i => hb24.frozen i
  have hO4w : Only (One p) w w4 := HO3.out.trans hO4 (fun x hx => by rcases hx with hx | hx; exact .inl hx; exact .inr (by omega))
  have hfin : ∀ u, Only (One g2) w4 u → Blk u g2 60 #[.slice (some ⟨g, 0, none⟩) N N] → (RR u p A c l (pos + n + j) false ∧ Only (Two p g2) w u ∧ ∃ g, w.heap.size ≤ g ∧ Blk u g2 60 #[.slice (some ⟨g, 0, none⟩) N N] ∧ Blk u g 3 (ints ys)) := fun u hS hb => by
    refine ⟨?_, (hO4w.more (fun x hx => .inl hx)).then_ (hS.more (fun x hx => .inr hx)), g, hgg.2.2, hb, hb4.only hS (fun hx => by unfold One at hx; omega)⟩
    rw [HQQ.out]
    exact hR4.far hb24 (sone_no _ _ _) (fun e => N2.out e.symm) hS
  have HF := Lib.hid hfin
  have HB24 := Lib.hid hb24
  clear hR4 hb4 hO4 hgg hb24 hO4w hfin
  go_wp2_with fail
  go_ret
  refine ⟨rfl, HF.out _ ?_ (HB24.out.set_ 0 _)⟩
  (repeat' (first | with_reducible exact Only.refl _ _ | with_reducible refine Only.setCell ?_ (Or.inl ?_) _ | with_reducible refine Only.drewN ?_ _ | with_reducible refine Only.drew ?_ | with_reducible refine Only.alloc ?_ _ | (exact rfl)))

set_option maxRecDepth 100000 in
set_option maxHeartbeats 1000000 in
theorem rInts_ok (most : Int) (zs : List Int) (n j : Nat) (p : Nat) (A : Option Addr) (c : Nat) (l : List UInt8) (pos : Nat) (w : World) (h : RR w p A c l pos false) (hp : pos ≤ l.length) (hl : l.length ≤ 1099511627776)
    (hd : dec (l.drop pos) = some ((zs.length : Int), n)) (hN : (zs.length : Int) ≤ most) (hL : zs.length ≤ l.length - (pos + n)) (hz : decN zs.length (l.drop (pos + n)) = some (zs, j)) :
    Calls Try.prog 35 #[.pointer (some ⟨p, 0, none⟩), .int .i64 most] w fun e w' => RR w' p A c l (pos + n + j) false ∧ Only (One p) w w' ∧ ∃ g, w.heap.size ≤ g ∧ e = .returned (.slice (some ⟨g, 0, none⟩) zs.length zs.length) ∧ Blk w' g 3 (ints zs) := by
  obtain ⟨w2, hw2⟩ : ∃ w2, w2 = ((w.alloc (.cells #[.pointer (some ⟨p, 0, none⟩)] 53)).alloc (.cells #[.int .i64 most] 3)).alloc (.cells #[.slice none 0 0] 60) := ⟨_, rfl⟩
  have hO2 : Only Nil w w2 := by rw [hw2]; exact (((Only.refl _ _).alloc _).alloc _).alloc _
  have hb1 : Blk w2 w.heap.size 53 #[.pointer (some ⟨p, 0, none⟩)] := by rw [hw2]; exact ((Blk.new _ _ _).alloc _).alloc _
  have hb3 : Blk w2 (w.heap.size + 1) 3 #[.int .i64 most] := by
    rw [hw2]
    have := Blk.new (w.alloc (.cells #[.pointer (some ⟨p, 0, none⟩)] 53)) 3 #[.int .i64 most]
    rw [World.size_alloc] at this
    exact this.alloc _
  have hb2 : Blk w2 (w.heap.size + 1 + 1) 60 #[.slice none 0 0] := by
    rw [hw2]
    have := Blk.new ((w.alloc (.cells #[.pointer (some ⟨p, 0, none⟩)] 53)).alloc (.cells #[.int .i64 most] 3)) 60 #[.slice none 0 0]
    rw [World.size_alloc, World.size_alloc] at this
    exact this
  have hpw := h.box.lt
  have hR2 := h.onlyNil hO2
  have hs2 : w2.heap.size = w.heap.size + 1 + 1 + 1 := by rw [hw2, World.size_alloc, World.size_alloc, World.size_alloc]
  have ht := try_Ints _ _ _ (fun b w' => b = true ∧ RR w' p A c l (pos + n + j) false ∧ Only (Two p (w.heap.size + 1 + 1)) w2 w' ∧ ∃ g, w2.heap.size ≤ g ∧ Blk w' (w.heap.size + 1 + 1) 60 #[.slice (some ⟨g, 0, none⟩) zs.length zs.length] ∧ Blk w' g 3 (ints zs)) p A c l pos w2 hR2 ((clo_Ints most zs n j w.heap.size (w.heap.size + 1) (w.heap.size + 1 + 1) p A c l pos w2 hR2 hp hl hd hN hL hz hb1 hb3 hb2).mono (fun e w' hh => ⟨true, hh.1, ⟨_, hh.2.1⟩, rfl, hh.2⟩))
  have HT := Lib.hid ht
  have HO2 := Lib.hid hO2
  clear ht hR2 hb1 hb2 hb3 hO2 h hd hl hN hL hz
  obtain ⟨N, hNN⟩ : ∃ N, zs.length = N := ⟨_, rfl⟩
  rw [hNN] at HT ⊢
  clear hNN
  go_enter Try.func35, Try.ntmps35
  go_wp2_with fail
  rw [← hw2]
  clear hw2
  refine HT.out.mono ?_
  rintro e w1 ⟨⟨r, rfl⟩, ⟨_, hR, hO, g, hg, hb, hb4⟩ | ⟨u, ⟨h1, _⟩, _⟩⟩
  rotate_left
  · cases h1
  have k2 : ∀ i, w1.cell? ⟨w.heap.size + 1 + 1, i, none⟩ = #[Value.slice (some ⟨g, 0, none⟩) N N][i]? := fun i => hb.cell i
  have f2 : ∀ i, w1.frozen? ⟨w.heap.size + 1 + 1, i, none⟩ = false := fun i => hb.frozen i
  have hfin : ∀ u, Only (One (w.heap.size + 1 + 1)) w1 u → (RR u p A c l (pos + n + j) false ∧ Only (One p) w u ∧ Blk u g 3 (ints zs)) := fun u hS =>
    ⟨hR.far hb (sone_no _ _ _) (by omega) hS, (HO2.out.any.trans hO (fun x hx => by rcases hx with hx | hx; exact .inl hx; exact .inr (by omega))).trans hS (fun x hx => .inr (by unfold One at hx; omega)), hb4.only hS (fun hx => by unfold One at hx; omega)⟩
  have HF := Lib.hid hfin
  have HGW : Hid (w.heap.size ≤ g) := Lib.hid (by omega)
  clear hR hb hO hb4 hfin hg hs2
  go_wp2_with fail
  refine bodyPost_ret (v := .slice (some ⟨g, 0, none⟩) N N) (by simp [results, Try.results35, go_sem, k2]) rfl ?_
  have hh := HF.out (w1.setCell ⟨w.heap.size + 1 + 1, 0, none⟩ (.slice (some ⟨g, 0, none⟩) N N)) (by (repeat' (first | with_reducible exact Only.refl _ _ | with_reducible refine Only.setCell ?_ (Or.inl ?_) _ | with_reducible refine Only.drewN ?_ _ | with_reducible refine Only.drew ?_ | with_reducible refine Only.alloc ?_ _ | (exact rfl))))
  exact ⟨hh.1, hh.2.1, g, HGW.out, rfl, hh.2.2⟩

end Go.Proofs.Ytbhgaaendekghaa
