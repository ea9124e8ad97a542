/-
  The law StreamParts: writing and reading in parts.
  No conditions.
-/
import Derived.Test.YtfichoekjjcjiaaStL1
import Derived.Test.YtfichoekjjcjiaaStQ3
import Derived.Test.YtfichoekjjcjiaaInv
import Derived.BigQuiet
import Derived.Deep.RegionHeld3
namespace Go.Proofs.Ytfichoekjjcjiaa
open Go.ChangeShapes Go.WideShapes Go.ChangeAt Go.RowKit

namespace streamParts
def fst1 : Value → Value
  | .tuple a => (a[0]?).getD undef
  | v => v
/-- What is known while 'one, f := Write(..)' runs, in whatever order: the pair, its copy, its end, the box, the store. -/
structure WI (o : E) (fr : Int) (wc : World) (p4 p5 p6 p8 p9 : Bool) (v4 v5 v6 v8 : Value) (u : World) : Prop where
  only : Only Nil wc u
  pair : p4 = true → ∃ l : Loc, v4 = Value.tuple #[.agg #[Value.slice l.Ao o.out.length l.co, .int .i64 o.base, .bool o.closed, .bool o.done, .slice l.Ai o.inn.length l.ci, .int .i64 o.next, .bool o.ended, .bool o.due], .int .i64 fr] ∧ (p9 = false → EB u u.heap.size l o)
  c5 : p5 = true → p4 = true ∧ v5 = v4
  c6 : p6 = true → p5 = true ∧ v6 = fst1 v4
  c8 : p8 = true → ∃ g, v8 = .pointer (some ⟨g, 0, none⟩) ∧ wc.heap.size ≤ g ∧ (p9 = false → Blk u g 29 #[Value.slice none 0 0, .int .i64 0, .bool false, .bool false, .slice none 0 0, .int .i64 0, .bool false, .bool false]) ∧ (p9 = true → EBox 29 u g o)
  c9 : p9 = true → p6 = true ∧ p8 = true
section
variable {o : E} {fr : Int} {wc u u' : World} {p4 p5 p6 p8 p9 : Bool} {v4 v5 v6 v8 : Value}
theorem WI.keep (h : WI o fr wc p4 p5 p6 p8 p9 v4 v5 v6 v8 u) (hO : Only Nil u u') : WI o fr wc p4 p5 p6 p8 p9 v4 v5 v6 v8 u' :=
  ⟨h.only.thenNil hO, fun h4 => by obtain ⟨l, h1, h2⟩ := h.pair h4; exact ⟨l, h1, fun h9 => (h2 h9).next hO⟩, h.c5, h.c6,
    fun h8 => by obtain ⟨g, h1, h2, h3, h4⟩ := h.c8 h8; exact ⟨g, h1, h2, fun h9 => (h3 h9).onlyNil hO, fun h9 => (h4 h9).onlyNil hO⟩, h.c9⟩
theorem WI.begin (hO : Only Nil wc u) : WI o fr wc false false false false false v4 v5 v6 v8 u :=
  ⟨hO, fun h => (by cases h), fun h => (by cases h), fun h => (by cases h), fun h => (by cases h), fun h => (by cases h)⟩
theorem WI.call {l : Loc} (h : WI o fr wc false p5 p6 p8 p9 v4 v5 v6 v8 u) (hO : Only Nil u u') (hE : EB u' u'.heap.size l o) : WI o fr wc true p5 p6 p8 p9 (Value.tuple #[.agg #[Value.slice l.Ao o.out.length l.co, .int .i64 o.base, .bool o.closed, .bool o.done, .slice l.Ai o.inn.length l.ci, .int .i64 o.next, .bool o.ended, .bool o.due], .int .i64 fr]) v5 v6 v8 u' := by
  have h' := h.keep hO
  have n5 : p5 = true → False := fun e => by have := (h.c5 e).1; cases this
  have n6 : p6 = true → False := fun e => n5 (h.c6 e).1
  exact ⟨h'.only, fun _ => ⟨l, rfl, fun _ => hE⟩, fun e => (n5 e).elim, fun e => (n6 e).elim, h'.c8, fun e => (n6 (h.c9 e).1).elim⟩
theorem WI.move (h : WI o fr wc true false p6 p8 p9 v4 v5 v6 v8 u) : WI o fr wc true true p6 p8 p9 v4 v4 v6 v8 u :=
  ⟨h.only, h.pair, fun _ => ⟨rfl, rfl⟩, fun e => (by have := (h.c6 e).1; cases this), h.c8, h.c9⟩
theorem WI.tup (h : WI o fr wc p4 true p6 p8 p9 v4 v5 v6 v8 u) : ∃ l : Loc, v5 = Value.tuple #[.agg #[Value.slice l.Ao o.out.length l.co, .int .i64 o.base, .bool o.closed, .bool o.done, .slice l.Ai o.inn.length l.ci, .int .i64 o.next, .bool o.ended, .bool o.due], .int .i64 fr] := by
  obtain ⟨e1, e2⟩ := h.c5 rfl
  obtain ⟨l, h1, _⟩ := h.pair e1
  exact ⟨l, e2.trans h1⟩
theorem WI.ext {l : Loc} (h : WI o fr wc p4 true false p8 p9 v4 v5 v6 v8 u) (e5 : v5 = Value.tuple #[.agg #[Value.slice l.Ao o.out.length l.co, .int .i64 o.base, .bool o.closed, .bool o.done, .slice l.Ai o.inn.length l.ci, .int .i64 o.next, .bool o.ended, .bool o.due], .int .i64 fr]) : WI o fr wc p4 true true p8 p9 v4 v5 (Value.agg #[Value.slice l.Ao o.out.length l.co, .int .i64 o.base, .bool o.closed, .bool o.done, .slice l.Ai o.inn.length l.ci, .int .i64 o.next, .bool o.ended, .bool o.due]) v8 u := by
  obtain ⟨e1, e2⟩ := h.c5 rfl
  exact ⟨h.only, h.pair, h.c5, fun _ => ⟨rfl, by rw [← e2, e5]; rfl⟩, h.c8, fun e => (by have := (h.c9 e).1; cases this)⟩
theorem WI.box (h : WI o fr wc p4 p5 p6 false p9 v4 v5 v6 v8 u) : WI o fr wc p4 p5 p6 true p9 v4 v5 v6 (.pointer (some ⟨u.heap.size, 0, none⟩)) (u.alloc (.cells #[Value.slice none 0 0, .int .i64 0, .bool false, .bool false, .slice none 0 0, .int .i64 0, .bool false, .bool false] 29)) := by
  have h' := h.keep ((Only.refl _ _).alloc (.cells #[Value.slice none 0 0, .int .i64 0, .bool false, .bool false, .slice none 0 0, .int .i64 0, .bool false, .bool false] 29))
  have n9 : p9 = true → False := fun e => by have := (h.c9 e).2; cases this
  exact ⟨h'.only, h'.pair, h.c5, h.c6, fun _ => ⟨_, rfl, h.only.size, fun _ => Blk.new _ _ _, fun e => (n9 e).elim⟩, fun e => (n9 e).elim⟩
theorem WI.pre (h : WI o fr wc p4 p5 true true false v4 v5 v6 v8 u) : ∃ (l : Loc) (g : Nat), v6 = Value.agg #[Value.slice l.Ao o.out.length l.co, .int .i64 o.base, .bool o.closed, .bool o.done, .slice l.Ai o.inn.length l.ci, .int .i64 o.next, .bool o.ended, .bool o.due] ∧ v8 = .pointer (some ⟨g, 0, none⟩) ∧ wc.heap.size ≤ g ∧ Blk u g 29 #[Value.slice none 0 0, .int .i64 0, .bool false, .bool false, .slice none 0 0, .int .i64 0, .bool false, .bool false] ∧ EB u u.heap.size l o := by
  obtain ⟨e5, e6⟩ := h.c6 rfl
  obtain ⟨e4, e7⟩ := h.c5 e5
  obtain ⟨l, h1, h2⟩ := h.pair e4
  obtain ⟨g, h3, h4, h5, _⟩ := h.c8 rfl
  exact ⟨l, g, by rw [e6, h1]; rfl, h3, h4, h5 rfl, h2 rfl⟩
theorem WI.store {l : Loc} {g : Nat} (h : WI o fr wc p4 p5 true true false v4 v5 v6 v8 u) (hg : v8 = .pointer (some ⟨g, 0, none⟩)) (hb : Blk u g 29 #[Value.slice none 0 0, .int .i64 0, .bool false, .bool false, .slice none 0 0, .int .i64 0, .bool false, .bool false]) (hge : wc.heap.size ≤ g) (hE : EB u u.heap.size l o) : WI o fr wc p4 p5 true true true v4 v5 v6 v8 (put8 u g l o) := by
  have hzb : EBox 29 u g zE := ⟨nowhere, hb, EB.zero _ _⟩
  exact ⟨h.only.trans (put8_only _ _ _ _) (fun x hx => .inr (by unfold One at hx; omega)), fun e => (by obtain ⟨l', h1, _⟩ := h.pair e; exact ⟨l', h1, fun h => (by cases h)⟩), h.c5, h.c6, fun _ => ⟨g, hg, hge, fun h => (by cases h), fun _ => hzb.put hE⟩, fun _ => ⟨rfl, rfl⟩⟩
theorem WI.fin (h : WI o fr wc p4 p5 p6 true true v4 v5 v6 v8 u) : ∃ g, v8 = .pointer (some ⟨g, 0, none⟩) ∧ wc.heap.size ≤ g ∧ EBox 29 u g o ∧ Only Nil wc u := by
  obtain ⟨g, h3, h4, _, h5⟩ := h.c8 rfl
  exact ⟨g, h3, h4, h5 rfl, h.only⟩
end
/-- The boxes of the arguments: an end and two numbers. -/
structure BoxesP (w w2 : World) (l : Loc) (e : E) (c0 c1 : Int) : Prop where
  only : Only Nil w w2
  b0 : Blk w2 w.heap.size 24 (earr l e)
  b1 : Blk w2 (w.heap.size + 1) 47 #[.int .u8 c0, .int .u8 c1]
theorem BoxesP.mk2 (w : World) (l : Loc) (e : E) (c0 c1 : Int) : BoxesP w ((w.alloc (.cells (ecells l e).toArray 24)).alloc (.cells #[.int .u8 c0, .int .u8 c1] 47)) l e c0 c1 :=
  ⟨((Only.refl _ _).alloc _).alloc _, (Blk.new w _ _).alloc _, by
    have := Blk.new (w.alloc (.cells (ecells l e).toArray 24)) 47 #[.int .u8 c0, .int .u8 c1]
    rw [World.size_alloc] at this
    exact this⟩

theorem keep_lt {b : Nat} {cs : Array Value} {w : World} (h8 : cs.size = 8) (h : ∀ i, w.cell? ⟨b, i, none⟩ = cs[i]?) : b < w.heap.size := by
  have h0 := h 0
  rw [Array.getElem?_eq_getElem (by omega)] at h0
  exact lt_of_cell h0
theorem keepN (b : Nat) (cs : Array Value) (h8 : cs.size = 8) (w w' : World) (hO : Only Nil w w') (h : ∀ i, w.cell? ⟨b, i, none⟩ = cs[i]?) : ∀ i, w'.cell? ⟨b, i, none⟩ = cs[i]? := fun i => (hO.cell (p := ⟨b, i, none⟩) (keep_lt h8 h) (fun hx => hx)).trans (h i)
theorem sizeNe {w : World} {b : Nat} {t : TypeId} {cs : Array Value} (h : Blk w b t cs) : w.heap.size ≠ b := by have := h.lt; omega
theorem keepA (b : Nat) (cs : Array Value) (h8 : cs.size = 8) (w : World) (o : Obj) (h : ∀ i, w.cell? ⟨b, i, none⟩ = cs[i]?) : ∀ i, (w.alloc o).cell? ⟨b, i, none⟩ = cs[i]? := fun i =>
  (((Only.refl Nil w).alloc o).cell (p := ⟨b, i, none⟩) (keep_lt h8 h) (fun hx => hx)).trans (h i)
theorem keepA2 (b : Nat) (cs : Array Value) (h8 : cs.size = 8) (w : World) (o o' : Obj) (hne : w.heap.size ≠ b) (h : ∀ i, (w.alloc o).cell? ⟨b, i, none⟩ = cs[i]?) : ∀ i, (w.alloc o').cell? ⟨b, i, none⟩ = cs[i]? := fun i => by
  have hlt := keep_lt h8 h
  rw [World.size_alloc] at hlt
  have hb : b < w.heap.size := by omega
  rw [← h i]
  exact (((Only.refl Nil w).alloc o').cell (p := ⟨b, i, none⟩) hb (fun hx => hx)).trans (((Only.refl Nil w).alloc o).cell (p := ⟨b, i, none⟩) hb (fun hx => hx)).symm
theorem keepS (b : Nat) (cs : Array Value) (w : World) (g : Nat) (v0 v1 v2 v3 v4 v5 v6 v7 : Value) (hg : g ≠ b) (h : ∀ i, w.cell? ⟨b, i, none⟩ = cs[i]?) :
    ∀ i, ((((((((w.setCell ⟨g, 0, none⟩ v0).setCell ⟨g, 1, none⟩ v1).setCell ⟨g, 2, none⟩ v2).setCell ⟨g, 3, none⟩ v3).setCell ⟨g, 4, none⟩ v4).setCell ⟨g, 5, none⟩ v5).setCell ⟨g, 6, none⟩ v6).setCell ⟨g, 7, none⟩ v7).cell? ⟨b, i, none⟩ = cs[i]? := fun i => by
  rw [← h i]
  exact World.cell?_of_block (by
    rw [Below.heap_setCell _ _ _ b (fun e => hg e.symm), Below.heap_setCell _ _ _ b (fun e => hg e.symm), Below.heap_setCell _ _ _ b (fun e => hg e.symm), Below.heap_setCell _ _ _ b (fun e => hg e.symm), Below.heap_setCell _ _ _ b (fun e => hg e.symm), Below.heap_setCell _ _ _ b (fun e => hg e.symm), Below.heap_setCell _ _ _ b (fun e => hg e.symm), Below.heap_setCell _ _ _ b (fun e => hg e.symm)])

/-- The box was made ahead of the call. -/
theorem PreBox.rel {wc w5 : World} {l5 : Loc} {o : E} {n : Int} {g : Nat} (hz : Blk (wc.alloc (.cells #[Value.slice none 0 0, .int .i64 0, .bool false, .bool false, .slice none 0 0, .int .i64 0, .bool false, .bool false] 29)) wc.heap.size 29 #[Value.slice none 0 0, .int .i64 0, .bool false, .bool false, .slice none 0 0, .int .i64 0, .bool false, .bool false]) (hO5 : Only Nil (wc.alloc (.cells #[Value.slice none 0 0, .int .i64 0, .bool false, .bool false, .slice none 0 0, .int .i64 0, .bool false, .bool false] 29)).drew w5) (hE5 : EB w5 w5.heap.size l5 o) {R : Nat → Nat → Prop} (hg : R g wc.heap.size) :
    ∃ g10, Value.pointer (some ⟨wc.heap.size, 0, none⟩) = .pointer (some ⟨g10, 0, none⟩) ∧ Value.int .i64 n = .int .i64 n ∧ EBox 29 (put8 w5 wc.heap.size l5 o) g10 o ∧ R g g10 ∧ Only Nil wc (put8 w5 wc.heap.size l5 o) :=
  ⟨wc.heap.size, rfl, rfl, EBox.put (e0 := zE) ⟨nowhere, (hz.drew).onlyNil hO5, EB.zero _ _⟩ hE5, hg, ((((Only.refl _ _).alloc _).drew).thenNil hO5).trans (put8_only _ _ _ _) (fun x hx => .inr (Nat.le_of_eq hx.symm))⟩

set_option maxRecDepth 100000 in
set_option maxHeartbeats 20000000 in
theorem walk (l : Loc) (e : E) (B : Option Addr) (cb : Nat) (b : List UInt8) (c0 c1 : Int) (w : World) (h : EB w w.heap.size l e) (hb : Bs w w.heap.size B b) (hbl : b.length ≤ cb) (hcb : cb ≤ maxLen) (h0 : 0 ≤ c0 ∧ c0 ≤ 255) (h1 : 0 ≤ c1 ∧ c1 ≤ 255) :
    Calls Try.prog 5 #[.agg (ecells l e).toArray, .slice B b.length cb, .agg #[.int .u8 c0, .int .u8 c1]] w (LawPost w) := by
  obtain ⟨w2, hw2⟩ : ∃ w2, w2 = (w.alloc (.cells (ecells l e).toArray 24)).alloc (.cells #[.int .u8 c0, .int .u8 c1] 47) := ⟨_, rfl⟩
  have hbx := BoxesP.mk2 w l e c0 c1
  rw [← hw2] at hbx
  have HX := Lib.hid hbx
  have HB := Lib.hid h
  have HD := Lib.hid hb
  clear hbx h hb
  have hF := few_any l e
  obtain ⟨out, base, closed, done, inn, next, ended, due⟩ := e
  unfold ecells at hw2 ⊢
  unfold ecells at hF
  dsimp only at hw2 hF ⊢
  obtain ⟨fw, hfw⟩ : ∃ r, few ⟨out, base, closed, done, inn, next, ended, due⟩ = r := ⟨_, rfl⟩
  rw [hfw] at hF
  have HF := Lib.hid hF
  have HFW := Lib.hid hfw
  clear hF hfw
  unfold maxLen at hcb
  go_enter Try.func5, Try.ntmps5
  go_wp2_with fail
  refine (awake_any _).mono ?_
  rintro x w3 ⟨rfl, hO3⟩
  have HO3 : Hid (Only Nil w2 w3) := Lib.hid (by rw [hw2]; exact hO3)
  have k0 : ∀ i, w3.cell? ⟨w.heap.size, i, none⟩ = #[Value.slice l.Ao out.length l.co, .int .i64 base, .bool closed, .bool done, .slice l.Ai inn.length l.ci, .int .i64 next, .bool ended, .bool due][i]? := fun i => (HX.out.b0.onlyNil HO3.out).cell i
  clear hO3
  have HW2 := Lib.hid hw2
  clear hw2
  go_wp2_with fail
  refine (HF.out _).mono ?_
  rintro x w4 ⟨rfl, hO4⟩
  have HO4 := Lib.hid (HO3.out.thenNil hO4)
  have k04 : ∀ i, w4.cell? ⟨w.heap.size, i, none⟩ = #[Value.slice l.Ao out.length l.co, .int .i64 base, .bool closed, .bool done, .slice l.Ai inn.length l.ci, .int .i64 next, .bool ended, .bool due][i]? := fun i => (HX.out.b0.onlyNil HO4.out).cell i
  have k14 : ∀ i, w4.cell? ⟨w.heap.size + 1, i, none⟩ = #[Value.int .u8 c0, .int .u8 c1][i]? := fun i => (HX.out.b1.onlyNil HO4.out).cell i
  clear hO4 k0
  cases fw
  · go_wp2_with fail
    go_ret
    exact ⟨rfl, HX.out.only.thenNil HO4.out⟩
  by_cases hbb : (300 : Int) < b.length
  · go_wp2_with fail
    go_ret
    exact ⟨rfl, HX.out.only.thenNil HO4.out⟩
  have hb3 : b.length ≤ 300 := by omega
  have hinn : inn.length ≤ 300 := by
    have := HFW.out
    unfold few at this
    simp only [Bool.and_eq_true, decide_eq_true_eq] at this
    exact this.2
  obtain ⟨k, hk⟩ : ∃ k : Nat, c0 % ((b.length : Int) + 1) = k := Int.eq_ofNat_of_zero_le (Int.emod_nonneg _ (by omega))
  have hkl : k ≤ b.length := by have := Int.emod_lt_of_pos c0 (show 0 < (b.length : Int) + 1 by omega); omega
  have hwc : wrap64 c0 = c0 := wrap64_fit _ (by omega)
  have hwc1 : wrap64 c1 = c1 := wrap64_fit _ (by omega)
  have htm : c0.tmod ((b.length : Int) + 1) = k := by rw [Int.tmod_eq_emod_of_nonneg h0.1, hk]
  obtain ⟨n, hn⟩ : ∃ n : Nat, 1 + c0 % 64 = n := Int.eq_ofNat_of_zero_le (by omega)
  obtain ⟨m, hm⟩ : ∃ m : Nat, 1 + c1 % 64 = m := Int.eq_ofNat_of_zero_le (by omega)
  have hn1 : 1 ≤ n ∧ n ≤ 64 := by omega
  have hm1 : 1 ≤ m ∧ m ≤ 64 := by omega
  obtain ⟨wh, er, hwe⟩ : ∃ a n, writeE ⟨out, base, closed, done, inn, next, ended, due⟩ b = (a, n) := ⟨_, _, rfl⟩
  obtain ⟨o, fr, hof⟩ : ∃ a n, writeE ⟨out, base, closed, done, inn, next, ended, due⟩ (b.take k) = (a, n) := ⟨_, _, rfl⟩
  obtain ⟨tw, gr, htg⟩ : ∃ a n, writeE o (b.drop k) = (a, n) := ⟨_, _, rfl⟩
  have HWP := Lib.hid (write_parts hkl hwe hof htg)
  have hltk : (b.take k).length = k := by rw [List.length_take]; omega
  have hw0 : ∀ w', Only Nil w2 w' → Calls Try.prog 20 #[.agg #[Value.slice l.Ao out.length l.co, .int .i64 base, .bool closed, .bool done, .slice l.Ai inn.length l.ci, .int .i64 next, .bool ended, .bool due], .slice B b.length cb] w' (EPost (wh, er) w') := fun w' hO => by
    rw [← hwe]
    exact write_any l ⟨out, base, closed, done, inn, next, ended, due⟩ B cb b w' (HB.out.next (HX.out.only.thenNil hO)) ((HD.out.onlyNil (HX.out.only.thenNil hO) (Nat.le_refl _)).up (HX.out.only.thenNil hO).size) (by omega)
  have hw1 : ∀ w', Only Nil w2 w' → Calls Try.prog 20 #[.agg #[Value.slice l.Ao out.length l.co, .int .i64 base, .bool closed, .bool done, .slice l.Ai inn.length l.ci, .int .i64 next, .bool ended, .bool due], .slice B k cb] w' (EPost (o, fr) w') := fun w' hO => by
    have := write_any l ⟨out, base, closed, done, inn, next, ended, due⟩ B cb (b.take k) w' (HB.out.next (HX.out.only.thenNil hO)) (((HD.out.onlyNil (HX.out.only.thenNil hO) (Nat.le_refl _)).up (HX.out.only.thenNil hO).size).take k hkl) (by omega)
    rw [hltk, hof] at this
    exact this
  obtain ⟨Lx, hLx⟩ : ∃ Lx, b.length - k = Lx := ⟨_, rfl⟩
  obtain ⟨C, hC⟩ : ∃ C, cb - k = C := ⟨_, rfl⟩
  obtain ⟨Bx, hBx⟩ : ∃ Bx, (if cb = k then B else Option.map (fun x => x.add k) B) = Bx := ⟨_, rfl⟩
  have hldk : (b.drop k).length = Lx := by rw [List.length_drop, hLx]
  have hwt : ∀ w' lo, Only Nil w2 w' → EB w' w'.heap.size lo o → Calls Try.prog 20 #[.agg #[Value.slice lo.Ao o.out.length lo.co, .int .i64 o.base, .bool o.closed, .bool o.done, .slice lo.Ai o.inn.length lo.ci, .int .i64 o.next, .bool o.ended, .bool o.due], .slice Bx Lx C] w' (EPost (tw, gr) w') := fun w' lo hO hE => by
    have h2 := ((HD.out.onlyNil (HX.out.only.thenNil hO) (Nat.le_refl _)).up (HX.out.only.thenNil hO).size).cut (k := k) (cap := cb) hkl hbl
    rw [hBx] at h2
    have := write_any lo o Bx C (b.drop k) w' hE h2 (by omega)
    rw [hldk, htg] at this
    exact this
  have HW0 := Lib.hid hw0
  have HW1 := Lib.hid hw1
  have HWT := Lib.hid hwt
  have hki : (k : Int) ≤ b.length := by omega
  have hkc : (k : Int) ≤ cb := by omega
  have hbc : (b.length : Int) ≤ cb := by omega
  have hwr1 : IntKind.i64.wrap ((b.length : Int) + 1) = (b.length : Int) + 1 := IntWalk.i64_in _ (by omega)
  have hwr2 : IntKind.i64.wrap (k : Int) = k := IntWalk.i64_in _ (by omega)
  have HH0 := Lib.hid h0
  have HH1 := Lib.hid h1
  have HN := Lib.hid hn
  have HM := Lib.hid hm
  have HB3 := Lib.hid hb3
  have HINN := Lib.hid hinn
  clear hw0 hw1 hwt hldk hltk hwe hof htg h0 h1 hk hn hm hb3 hinn hbl hcb
  go_upto_region 6 with fail
  go_cut [8, 9] (fun pw v wd => ∃ g8, pw = .pointer (some ⟨g8, 0, none⟩) ∧ v = .int .i64 er ∧ EBox 29 wd g8 wh ∧ Only Nil w2 wd)
  case first =>
    go_wp2_with fail
    refine (HW0.out _ HO4.out).mono ?_
    rintro x w5 ⟨l5, rfl, hE5, hO5⟩
    go_wp2_with fail
    go_meet
    case rel => exact ⟨w5.heap.size, rfl, rfl, EBox.new _ hE5, (HO4.out.thenNil hO5).alloc _⟩
  case rest =>
    obtain ⟨g8, rfl, rfl, hE8, hO8⟩ := hcut
    have HE8 := Lib.hid hE8
    have HO8 := Lib.hid hO8
    have k08 : ∀ i, wc.cell? ⟨w.heap.size, i, none⟩ = #[Value.slice l.Ao out.length l.co, .int .i64 base, .bool closed, .bool done, .slice l.Ai inn.length l.ci, .int .i64 next, .bool ended, .bool due][i]? := fun i => (HX.out.b0.onlyNil hO8).cell i
    have k18 : ∀ i, wc.cell? ⟨w.heap.size + 1, i, none⟩ = #[Value.int .u8 c0, .int .u8 c1][i]? := fun i => (HX.out.b1.onlyNil hO8).cell i
    have k08A : ∀ o' i, (wc.alloc o').cell? ⟨w.heap.size, i, none⟩ = #[Value.slice l.Ao out.length l.co, .int .i64 base, .bool closed, .bool done, .slice l.Ai inn.length l.ci, .int .i64 next, .bool ended, .bool due][i]? := fun o' i => ((HX.out.b0.onlyNil hO8).alloc o').cell i
    clear hE8 hO8 k04 k14
    go_upto_region 7 with fail
    go_cut [10, 11] (fun pw v wd => ∃ g10, pw = .pointer (some ⟨g10, 0, none⟩) ∧ v = .int .i64 fr ∧ EBox 29 wd g10 o ∧ w2.heap.size ≤ g10 ∧ Only Nil wc wd)
    case first =>
      have HIN : Hid (∀ (L : Nat → Bool) (vs : Nat → Value) (u u' : World), Only Nil u u' → (fun L vs u => WI o fr wc (L 4) (L 5) (L 6) (L 8) (L 9) (vs 4) (vs 5) (vs 6) (vs 8) u) L vs u → (fun L vs u => WI o fr wc (L 4) (L 5) (L 6) (L 8) (L 9) (vs 4) (vs 5) (vs 6) (vs 8) u) L vs u') := Lib.hid (fun L vs u u' hO hI => by
        exact hI.keep hO)
      refine wp_region_inv (X := [(0, some 44, []), (1, some 45, []), (2, some 46, []), (3, some 47, [1, 2]), (4, some 48, [0, 3]), (5, some 43, [4]), (6, some 49, [5]), (7, some 50, [5]), (8, some 10, []), (9, none, [6, 8])]) (n := 10) (g := 1) (T := fun x => wc.heap.size ≤ x) (Ps := [Cst (.agg #[Value.slice l.Ao out.length l.co, .int .i64 base, .bool closed, .bool done, .slice l.Ai inn.length l.ci, .int .i64 next, .bool ended, .bool due]), Cst (.slice B b.length cb), Cst (.int .i64 k), Cst (.slice B k cb), Any, Any, Any, Cst (.int .i64 fr), Any, Any])
        (I := fun L vs u => WI o fr wc (L 4) (L 5) (L 6) (L 8) (L 9) (vs 4) (vs 5) (vs 6) (vs 8) u)
        (by kernel_rfl) (by kernel_rfl) (by kernel_rfl) (by kernel_rfl) rfl ?st_1 ?i0_1 ?step_1 ?fin_1
      case st_1 =>
        intro p hp
        simp only [List.mem_cons, List.not_mem_nil, or_false] at hp
        rcases hp with rfl | rfl | rfl | rfl | rfl | rfl | rfl | rfl | rfl | rfl <;> first | exact Stays.cst _ | exact Stays.any
      case i0_1 =>
        intro vs
        exact WI.begin (Only.refl _ _).drew
      case step_1 =>
        intro x hx L vs u hI hA h0 hd
        simp only [List.mem_cons, List.not_mem_nil, or_false] at hx
        rcases hx with rfl | rfl | rfl | rfl | rfl | rfl | rfl | rfl | rfl | rfl
        · refine inv_step _ (by rfl) (by rfl) (fun K' hK => ?_)
          simp only [putAll, Act.put, List.setIfInBounds_toArray, List.set_cons_succ, List.set_cons_zero] at hK ⊢
          have ks : ∀ i, u.cell? ⟨w.heap.size, i, none⟩ = #[Value.slice l.Ao out.length l.co, .int .i64 base, .bool closed, .bool done, .slice l.Ai inn.length l.ci, .int .i64 next, .bool ended, .bool due][i]? := fun i => (HX.out.b0.onlyNil (HO8.out.thenNil (show Only Nil wc u from (show WI o fr wc (L 4) (L 5) (L 6) (L 8) (L 9) (vs 4) (vs 5) (vs 6) (vs 8) u from hI).only))).cell i
          go_simp
          exact hK _ _ ⟨Only.refl _ _, hI, rfl⟩
        · refine inv_step _ (by rfl) (by rfl) (fun K' hK => ?_)
          simp only [putAll, Act.put, List.setIfInBounds_toArray, List.set_cons_succ, List.set_cons_zero] at hK ⊢
          go_simp
          exact hK _ _ ⟨Only.refl _ _, hI, rfl⟩
        · refine inv_step _ (by rfl) (by rfl) (fun K' hK => ?_)
          simp only [putAll, Act.put, List.setIfInBounds_toArray, List.set_cons_succ, List.set_cons_zero] at hK ⊢
          go_simp
          exact hK _ _ ⟨Only.refl _ _, hI, rfl⟩
        · refine inv_step _ (by rfl) (by rfl) (fun K' hK => ?_)
          simp only [putAll, Act.put, List.setIfInBounds_toArray, List.set_cons_succ, List.set_cons_zero] at hK ⊢
          have e1 := hA 1 (hd 1 (by simp))
          change vs 1 = (.slice B b.length cb) at e1
          have e2 := hA 2 (hd 2 (by simp))
          change vs 2 = (.int .i64 k) at e2
          simp only [e1, e2] at hK
          go_simp
          exact hK _ _ ⟨Only.refl _ _, hI, rfl⟩
        · refine inv_step _ (by rfl) (by rfl) (fun K' hK => ?_)
          simp only [putAll, Act.put, List.setIfInBounds_toArray, List.set_cons_succ, List.set_cons_zero] at hK ⊢
          have e0 := hA 0 (hd 0 (by simp))
          change vs 0 = (.agg #[Value.slice l.Ao out.length l.co, .int .i64 base, .bool closed, .bool done, .slice l.Ai inn.length l.ci, .int .i64 next, .bool ended, .bool due]) at e0
          have e3 := hA 3 (hd 3 (by simp))
          change vs 3 = (.slice B k cb) at e3
          simp only [e0, e3] at hK
          go_simp
          go_at_call 20
          refine (HW1.out _ (HO8.out.thenNil (show Only Nil wc u from (show WI o fr wc (L 4) (L 5) (L 6) (L 8) (L 9) (vs 4) (vs 5) (vs 6) (vs 8) u from hI).only))).mono ?_
          rintro x u2 ⟨l5, rfl, hE5, hO5⟩
          go_simp
          have hI3 : WI o fr wc (L 4) (L 5) (L 6) (L 8) (L 9) (vs 4) (vs 5) (vs 6) (vs 8) u := hI
          rw [show L 4 = false from h0] at hI3
          exact hK _ _ ⟨hO5.any, hI3.call hO5 hE5, trivial⟩
        · refine inv_step _ (by rfl) (by rfl) (fun K' hK => ?_)
          simp only [putAll, Act.put, List.setIfInBounds_toArray, List.set_cons_succ, List.set_cons_zero] at hK ⊢
          go_simp
          have hI3 : WI o fr wc (L 4) (L 5) (L 6) (L 8) (L 9) (vs 4) (vs 5) (vs 6) (vs 8) u := hI
          rw [show L 4 = true from hd 4 (by simp), show L 5 = false from h0] at hI3
          refine hK _ _ ⟨Only.refl _ _, ?_, trivial⟩
          have hI4 := hI3.move
          rw [← show L 4 = true from hd 4 (by simp)] at hI4
          rw [show L 4 = true from hd 4 (by simp)] at hI4
          have e4 := hd 4 (by simp)
          show WI o fr wc (L 4) true (L 6) (L 8) (L 9) (vs 4) (vs 4) (vs 6) (vs 8) u
          rw [e4]
          exact hI4
        · refine inv_step _ (by rfl) (by rfl) (fun K' hK => ?_)
          simp only [putAll, Act.put, List.setIfInBounds_toArray, List.set_cons_succ, List.set_cons_zero] at hK ⊢
          have hI3 : WI o fr wc (L 4) (L 5) (L 6) (L 8) (L 9) (vs 4) (vs 5) (vs 6) (vs 8) u := hI
          rw [show L 5 = true from hd 5 (by simp), show L 6 = false from h0] at hI3
          obtain ⟨l5, e5⟩ := hI3.tup
          simp only [e5] at hK
          go_simp
          refine hK _ _ ⟨Only.refl _ _, ?_, trivial⟩
          have h5 : L 5 = true := hd 5 (by simp)
          show WI o fr wc (L 4) (L 5) true (L 8) (L 9) (vs 4) (vs 5) _ (vs 8) u
          rw [h5]
          exact hI3.ext e5
        · refine inv_step _ (by rfl) (by rfl) (fun K' hK => ?_)
          simp only [putAll, Act.put, List.setIfInBounds_toArray, List.set_cons_succ, List.set_cons_zero] at hK ⊢
          have hI3 : WI o fr wc (L 4) (L 5) (L 6) (L 8) (L 9) (vs 4) (vs 5) (vs 6) (vs 8) u := hI
          rw [show L 5 = true from hd 5 (by simp)] at hI3
          obtain ⟨l5, e5⟩ := hI3.tup
          simp only [e5] at hK
          go_simp
          exact hK _ _ ⟨Only.refl _ _, hI, rfl⟩
        · refine inv_step _ (by rfl) (by rfl) (fun K' hK => ?_)
          simp only [putAll, Act.put, List.setIfInBounds_toArray, List.set_cons_succ, List.set_cons_zero] at hK ⊢
          go_simp
          have hI3 : WI o fr wc (L 4) (L 5) (L 6) (L 8) (L 9) (vs 4) (vs 5) (vs 6) (vs 8) u := hI
          rw [show L 8 = false from h0] at hI3
          exact hK _ _ ⟨(Only.refl _ _).alloc _, hI3.box, trivial⟩
        · refine inv_step _ (by rfl) (by rfl) (fun K' hK => ?_)
          simp only [putAll, Act.put, List.setIfInBounds_toArray, List.set_cons_succ, List.set_cons_zero] at hK ⊢
          have hI3 : WI o fr wc (L 4) (L 5) (L 6) (L 8) (L 9) (vs 4) (vs 5) (vs 6) (vs 8) u := hI
          rw [show L 6 = true from hd 6 (by simp), show L 8 = true from hd 8 (by simp), show L 9 = false from h0] at hI3
          obtain ⟨l5, g, e6, e8, hg, hz, hE5⟩ := hI3.pre
          simp only [e6, e8] at hK
          have kz : ∀ i, u.cell? ⟨g, i, none⟩ = #[Value.slice none 0 0, .int .i64 0, .bool false, .bool false, .slice none 0 0, .int .i64 0, .bool false, .bool false][i]? := fun i => hz.cell i
          have fz : ∀ i, u.frozen? ⟨g, i, none⟩ = false := fun i => hz.frozen i
          go_simp
          refine hK undef (put8 u g l5 o) ⟨(put8_only _ _ _ _).more (fun x hx => by unfold One at hx; omega), ?_, trivial⟩
          have h6 : L 6 = true := hd 6 (by simp)
          have h8 : L 8 = true := hd 8 (by simp)
          show WI o fr wc (L 4) (L 5) (L 6) (L 8) true (vs 4) (vs 5) (vs 6) (vs 8) _
          rw [h6, h8]
          exact hI3.store e8 hz hg hE5
      case fin_1 =>
        intro L vs u hI hL hA
        simp only [putAll, Act.put, List.setIfInBounds_toArray, List.set_cons_succ, List.set_cons_zero, List.drop_succ_cons, List.drop_zero]
        have hI3 : WI o fr wc (L 4) (L 5) (L 6) (L 8) (L 9) (vs 4) (vs 5) (vs 6) (vs 8) u := hI
        rw [hL 8 (by omega), hL 9 (by omega)] at hI3
        obtain ⟨g, e8, hg, hE, hO⟩ := hI3.fin
        have e7 := hA 7 (by omega)
        change vs 7 = .int .i64 fr at e7
        simp only [e7, e8]
        have HE5 := Lib.hid hE
        have HI5 := Lib.hid hO
        clear hA hL hI hI3 hE hO e7 e8
        go_wp2_with fail
        go_meet
        case rel => exact ⟨g, rfl, rfl, HE5.out, Nat.le_trans HO8.out.size hg, HI5.out⟩
    case rest =>
      obtain ⟨g10, rfl, rfl, hE10, hg10, hO10⟩ := hcut
      obtain ⟨l10, hb10, hl10⟩ := hE10
      have HE10 := Lib.hid (show EBox 29 wc g10 o from ⟨l10, hb10, hl10⟩)
      have HL10 := Lib.hid hl10
      have HB10 : Hid (Blk wc g10 29 #[Value.slice l10.Ao o.out.length l10.co, .int .i64 o.base, .bool o.closed, .bool o.done, .slice l10.Ai o.inn.length l10.ci, .int .i64 o.next, .bool o.ended, .bool o.due]) := Lib.hid hb10
      have HE8b := Lib.hid (HE8.out.onlyNil hO10)
      have HO10 := Lib.hid (HO8.out.thenNil hO10)
      have k10 : ∀ i, wc.cell? ⟨g10, i, none⟩ = #[Value.slice l10.Ao o.out.length l10.co, .int .i64 o.base, .bool o.closed, .bool o.done, .slice l10.Ai o.inn.length l10.ci, .int .i64 o.next, .bool o.ended, .bool o.due][i]? := fun i => hb10.cell i
      have k010 : ∀ i, wc.cell? ⟨w.heap.size, i, none⟩ = #[Value.slice l.Ao out.length l.co, .int .i64 base, .bool closed, .bool done, .slice l.Ai inn.length l.ci, .int .i64 next, .bool ended, .bool due][i]? := fun i => (HX.out.b0.onlyNil HO10.out).cell i
      have k110 : ∀ i, wc.cell? ⟨w.heap.size + 1, i, none⟩ = #[Value.int .u8 c0, .int .u8 c1][i]? := fun i => (HX.out.b1.onlyNil HO10.out).cell i
      clear hb10 hl10 hO10 k08 k18 k08A
      go_upto_region 8 with fail
      go_cut [12, 13] (fun pw v wd => ∃ g12, pw = .pointer (some ⟨g12, 0, none⟩) ∧ v = .int .i64 gr ∧ EBox 29 wd g12 tw ∧ g10 < g12 ∧ Only Nil wc wd)
      case first =>
        have HIN : Hid (∀ (L : Nat → Bool) (vs : Nat → Value) (u u' : World), Only Nil u u' → (fun L vs u => WI tw gr wc (L 4) (L 5) (L 6) (L 8) (L 9) (vs 4) (vs 5) (vs 6) (vs 8) u) L vs u → (fun L vs u => WI tw gr wc (L 4) (L 5) (L 6) (L 8) (L 9) (vs 4) (vs 5) (vs 6) (vs 8) u) L vs u') := Lib.hid (fun L vs u u' hO hI => by
          exact hI.keep hO)
        refine wp_region_inv (X := [(0, some 52, []), (1, some 53, []), (2, some 54, []), (3, some 55, [1, 2]), (4, some 56, [0, 3]), (5, some 51, [4]), (6, some 57, [5]), (7, some 58, [5]), (8, some 12, []), (9, none, [6, 8])]) (n := 10) (g := 1) (T := fun x => wc.heap.size ≤ x) (Ps := [Cst (.agg #[Value.slice l10.Ao o.out.length l10.co, .int .i64 o.base, .bool o.closed, .bool o.done, .slice l10.Ai o.inn.length l10.ci, .int .i64 o.next, .bool o.ended, .bool o.due]), Cst (.slice B b.length cb), Cst (.int .i64 k), Cst (.slice Bx Lx C), Any, Any, Any, Cst (.int .i64 gr), Any, Any])
          (I := fun L vs u => WI tw gr wc (L 4) (L 5) (L 6) (L 8) (L 9) (vs 4) (vs 5) (vs 6) (vs 8) u)
          (by kernel_rfl) (by kernel_rfl) (by kernel_rfl) (by kernel_rfl) rfl ?st_2 ?i0_2 ?step_2 ?fin_2
        case st_2 =>
          intro p hp
          simp only [List.mem_cons, List.not_mem_nil, or_false] at hp
          rcases hp with rfl | rfl | rfl | rfl | rfl | rfl | rfl | rfl | rfl | rfl <;> first | exact Stays.cst _ | exact Stays.any
        case i0_2 =>
          intro vs
          exact WI.begin (Only.refl _ _).drew
        case step_2 =>
          intro x hx L vs u hI hA h0 hd
          simp only [List.mem_cons, List.not_mem_nil, or_false] at hx
          rcases hx with rfl | rfl | rfl | rfl | rfl | rfl | rfl | rfl | rfl | rfl
          · refine inv_step _ (by rfl) (by rfl) (fun K' hK => ?_)
            simp only [putAll, Act.put, List.setIfInBounds_toArray, List.set_cons_succ, List.set_cons_zero] at hK ⊢
            have ks : ∀ i, u.cell? ⟨g10, i, none⟩ = #[Value.slice l10.Ao o.out.length l10.co, .int .i64 o.base, .bool o.closed, .bool o.done, .slice l10.Ai o.inn.length l10.ci, .int .i64 o.next, .bool o.ended, .bool o.due][i]? := fun i => (HB10.out.onlyNil (show Only Nil wc u from (show WI tw gr wc (L 4) (L 5) (L 6) (L 8) (L 9) (vs 4) (vs 5) (vs 6) (vs 8) u from hI).only)).cell i
            go_simp
            exact hK _ _ ⟨Only.refl _ _, hI, rfl⟩
          · refine inv_step _ (by rfl) (by rfl) (fun K' hK => ?_)
            simp only [putAll, Act.put, List.setIfInBounds_toArray, List.set_cons_succ, List.set_cons_zero] at hK ⊢
            go_simp
            exact hK _ _ ⟨Only.refl _ _, hI, rfl⟩
          · refine inv_step _ (by rfl) (by rfl) (fun K' hK => ?_)
            simp only [putAll, Act.put, List.setIfInBounds_toArray, List.set_cons_succ, List.set_cons_zero] at hK ⊢
            go_simp
            exact hK _ _ ⟨Only.refl _ _, hI, rfl⟩
          · refine inv_step _ (by rfl) (by rfl) (fun K' hK => ?_)
            simp only [putAll, Act.put, List.setIfInBounds_toArray, List.set_cons_succ, List.set_cons_zero] at hK ⊢
            have e1 := hA 1 (hd 1 (by simp))
            change vs 1 = (.slice B b.length cb) at e1
            have e2 := hA 2 (hd 2 (by simp))
            change vs 2 = (.int .i64 k) at e2
            simp only [e1, e2] at hK
            go_simp
            exact hK _ _ ⟨Only.refl _ _, hI, rfl⟩
          · refine inv_step _ (by rfl) (by rfl) (fun K' hK => ?_)
            simp only [putAll, Act.put, List.setIfInBounds_toArray, List.set_cons_succ, List.set_cons_zero] at hK ⊢
            have e0 := hA 0 (hd 0 (by simp))
            change vs 0 = (.agg #[Value.slice l10.Ao o.out.length l10.co, .int .i64 o.base, .bool o.closed, .bool o.done, .slice l10.Ai o.inn.length l10.ci, .int .i64 o.next, .bool o.ended, .bool o.due]) at e0
            have e3 := hA 3 (hd 3 (by simp))
            change vs 3 = (.slice Bx Lx C) at e3
            simp only [e0, e3] at hK
            go_simp
            go_at_call 20
            refine (HWT.out _ l10 (HO10.out.thenNil (show Only Nil wc u from (show WI tw gr wc (L 4) (L 5) (L 6) (L 8) (L 9) (vs 4) (vs 5) (vs 6) (vs 8) u from hI).only)) (HL10.out.next (show Only Nil wc u from (show WI tw gr wc (L 4) (L 5) (L 6) (L 8) (L 9) (vs 4) (vs 5) (vs 6) (vs 8) u from hI).only))).mono ?_
            rintro x u2 ⟨l5, rfl, hE5, hO5⟩
            go_simp
            have hI3 : WI tw gr wc (L 4) (L 5) (L 6) (L 8) (L 9) (vs 4) (vs 5) (vs 6) (vs 8) u := hI
            rw [show L 4 = false from h0] at hI3
            exact hK _ _ ⟨hO5.any, hI3.call hO5 hE5, trivial⟩
          · refine inv_step _ (by rfl) (by rfl) (fun K' hK => ?_)
            simp only [putAll, Act.put, List.setIfInBounds_toArray, List.set_cons_succ, List.set_cons_zero] at hK ⊢
            go_simp
            have hI3 : WI tw gr wc (L 4) (L 5) (L 6) (L 8) (L 9) (vs 4) (vs 5) (vs 6) (vs 8) u := hI
            rw [show L 4 = true from hd 4 (by simp), show L 5 = false from h0] at hI3
            refine hK _ _ ⟨Only.refl _ _, ?_, trivial⟩
            have hI4 := hI3.move
            rw [← show L 4 = true from hd 4 (by simp)] at hI4
            rw [show L 4 = true from hd 4 (by simp)] at hI4
            have e4 := hd 4 (by simp)
            show WI tw gr wc (L 4) true (L 6) (L 8) (L 9) (vs 4) (vs 4) (vs 6) (vs 8) u
            rw [e4]
            exact hI4
          · refine inv_step _ (by rfl) (by rfl) (fun K' hK => ?_)
            simp only [putAll, Act.put, List.setIfInBounds_toArray, List.set_cons_succ, List.set_cons_zero] at hK ⊢
            have hI3 : WI tw gr wc (L 4) (L 5) (L 6) (L 8) (L 9) (vs 4) (vs 5) (vs 6) (vs 8) u := hI
            rw [show L 5 = true from hd 5 (by simp), show L 6 = false from h0] at hI3
            obtain ⟨l5, e5⟩ := hI3.tup
            simp only [e5] at hK
            go_simp
            refine hK _ _ ⟨Only.refl _ _, ?_, trivial⟩
            have h5 : L 5 = true := hd 5 (by simp)
            show WI tw gr wc (L 4) (L 5) true (L 8) (L 9) (vs 4) (vs 5) _ (vs 8) u
            rw [h5]
            exact hI3.ext e5
          · refine inv_step _ (by rfl) (by rfl) (fun K' hK => ?_)
            simp only [putAll, Act.put, List.setIfInBounds_toArray, List.set_cons_succ, List.set_cons_zero] at hK ⊢
            have hI3 : WI tw gr wc (L 4) (L 5) (L 6) (L 8) (L 9) (vs 4) (vs 5) (vs 6) (vs 8) u := hI
            rw [show L 5 = true from hd 5 (by simp)] at hI3
            obtain ⟨l5, e5⟩ := hI3.tup
            simp only [e5] at hK
            go_simp
            exact hK _ _ ⟨Only.refl _ _, hI, rfl⟩
          · refine inv_step _ (by rfl) (by rfl) (fun K' hK => ?_)
            simp only [putAll, Act.put, List.setIfInBounds_toArray, List.set_cons_succ, List.set_cons_zero] at hK ⊢
            go_simp
            have hI3 : WI tw gr wc (L 4) (L 5) (L 6) (L 8) (L 9) (vs 4) (vs 5) (vs 6) (vs 8) u := hI
            rw [show L 8 = false from h0] at hI3
            exact hK _ _ ⟨(Only.refl _ _).alloc _, hI3.box, trivial⟩
          · refine inv_step _ (by rfl) (by rfl) (fun K' hK => ?_)
            simp only [putAll, Act.put, List.setIfInBounds_toArray, List.set_cons_succ, List.set_cons_zero] at hK ⊢
            have hI3 : WI tw gr wc (L 4) (L 5) (L 6) (L 8) (L 9) (vs 4) (vs 5) (vs 6) (vs 8) u := hI
            rw [show L 6 = true from hd 6 (by simp), show L 8 = true from hd 8 (by simp), show L 9 = false from h0] at hI3
            obtain ⟨l5, g, e6, e8, hg, hz, hE5⟩ := hI3.pre
            simp only [e6, e8] at hK
            have kz : ∀ i, u.cell? ⟨g, i, none⟩ = #[Value.slice none 0 0, .int .i64 0, .bool false, .bool false, .slice none 0 0, .int .i64 0, .bool false, .bool false][i]? := fun i => hz.cell i
            have fz : ∀ i, u.frozen? ⟨g, i, none⟩ = false := fun i => hz.frozen i
            go_simp
            refine hK undef (put8 u g l5 tw) ⟨(put8_only _ _ _ _).more (fun x hx => by unfold One at hx; omega), ?_, trivial⟩
            have h6 : L 6 = true := hd 6 (by simp)
            have h8 : L 8 = true := hd 8 (by simp)
            show WI tw gr wc (L 4) (L 5) (L 6) (L 8) true (vs 4) (vs 5) (vs 6) (vs 8) _
            rw [h6, h8]
            exact hI3.store e8 hz hg hE5
        case fin_2 =>
          intro L vs u hI hL hA
          simp only [putAll, Act.put, List.setIfInBounds_toArray, List.set_cons_succ, List.set_cons_zero, List.drop_succ_cons, List.drop_zero]
          have hI3 : WI tw gr wc (L 4) (L 5) (L 6) (L 8) (L 9) (vs 4) (vs 5) (vs 6) (vs 8) u := hI
          rw [hL 8 (by omega), hL 9 (by omega)] at hI3
          obtain ⟨g, e8, hg, hE, hO⟩ := hI3.fin
          have e7 := hA 7 (by omega)
          change vs 7 = .int .i64 gr at e7
          simp only [e7, e8]
          have HE5 := Lib.hid hE
          have HI5 := Lib.hid hO
          clear hA hL hI hI3 hE hO e7 e8
          go_wp2_with fail
          go_meet
          case rel => exact ⟨g, rfl, rfl, HE5.out, Nat.lt_of_lt_of_le HE10.out.lt hg, HI5.out⟩
      case rest =>
        obtain ⟨g12, rfl, rfl, hE12, hg12, hO12⟩ := hcut
        obtain ⟨l12, hb12, hl12⟩ := hE12
        obtain ⟨l8, hb8, hl8⟩ := HE8b.out.onlyNil hO12
        have HE12 := Lib.hid (show EBox 29 wc g12 tw from ⟨l12, hb12, hl12⟩)
        have HE10b := Lib.hid (HE10.out.onlyNil hO12)
        have HO12 := Lib.hid (HO10.out.thenNil hO12)
        have HL12 := Lib.hid hl12
        have HL8 := Lib.hid hl8
        have k12 : ∀ i, wc.cell? ⟨g12, i, none⟩ = #[Value.slice l12.Ao tw.out.length l12.co, .int .i64 tw.base, .bool tw.closed, .bool tw.done, .slice l12.Ai tw.inn.length l12.ci, .int .i64 tw.next, .bool tw.ended, .bool tw.due][i]? := fun i => hb12.cell i
        have k8 : ∀ i, wc.cell? ⟨g8, i, none⟩ = #[Value.slice l8.Ao wh.out.length l8.co, .int .i64 wh.base, .bool wh.closed, .bool wh.done, .slice l8.Ai wh.inn.length l8.ci, .int .i64 wh.next, .bool wh.ended, .bool wh.due][i]? := fun i => hb8.cell i
        clear hb12 hl12 hb8 hl8 hO12 k10 k010 k110 hwc htm hLx hC hBx hki hkc hbc hwr1 hwr2 hkl
        go_upto_region 9 with fail
        go_cut [86] (fun v wd => v = .bool false ∧ Only Nil wc wd)
        case first =>
          rcases HWP.out with ⟨rfl, rfl, rfl, hwt⟩ | ⟨hne, hor⟩
          · have HWT := Lib.hid hwt
            clear hwt
            go_wp2_with fail
            refine (equal_any l8 l12 wh tw _ HL8.out HL12.out).mono ?_
            rintro x w9 ⟨r, rfl, hr, hO9⟩
            obtain rfl : r = true := hr.2 HWT.out
            clear hr
            go_wp2_with fail
            go_meet
            case rel => exact ⟨rfl, hO9⟩
          · have heb : (er == 0) = false := beq_false_of_ne hne
            by_cases hf0 : fr = 0
            · subst hf0
              have hgb : (gr == 0) = false := beq_false_of_ne (by rcases hor with h | h; exact absurd rfl h; exact h)
              have hgn : gr ≠ 0 := by rcases hor with h | h; exact absurd rfl h; exact h
              have hen : (er != 0) = true := by rw [bne, heb]; rfl
              have hgm : (gr != 0) = true := by rw [bne, hgb]; rfl
              clear hor
              go_wp2_with fail
              go_meet
              case rel => exact ⟨rfl, Only.refl _ _⟩
            · have hfb : (fr == 0) = false := beq_false_of_ne hf0
              have hen : (er != 0) = true := by rw [bne, heb]; rfl
              have hfm : (fr != 0) = true := by rw [bne, hfb]; rfl
              clear hor
              go_wp2_with fail
              go_meet
              case rel => exact ⟨rfl, Only.refl _ _⟩
        case rest =>
          obtain ⟨rfl, hO13⟩ := hcut
          have HO13 := Lib.hid (HO12.out.thenNil hO13)
          have HE10c := Lib.hid (HE10b.out.onlyNil hO13)
          have HE12c := Lib.hid (HE12.out.onlyNil hO13)
          have k013 : ∀ i, wc.cell? ⟨w.heap.size, i, none⟩ = #[Value.slice l.Ao out.length l.co, .int .i64 base, .bool closed, .bool done, .slice l.Ai inn.length l.ci, .int .i64 next, .bool ended, .bool due][i]? := fun i => (HX.out.b0.onlyNil HO13.out).cell i
          have k113 : ∀ i, wc.cell? ⟨w.heap.size + 1, i, none⟩ = #[Value.int .u8 c0, .int .u8 c1][i]? := fun i => (HX.out.b1.onlyNil HO13.out).cell i
          clear hO13 k12 k8
          go_upto_region 11 with fail
          go_cut [14, 15] (fun v u wd => v = .int .i64 n ∧ u = .int .i64 m ∧ Only Nil wc wd)
          case first =>
            have e1 : c0.tmod 64 = (n : Int) - 1 := by rw [Int.tmod_eq_emod_of_nonneg HH0.out.1]; have := HN.out; omega
            have e2 : c1.tmod 64 = (m : Int) - 1 := by rw [Int.tmod_eq_emod_of_nonneg HH1.out.1]; have := HM.out; omega
            have e3 : wrap64 ((n : Int) - 1) = (n : Int) - 1 := wrap64_fit _ (by omega)
            have e4 : wrap64 ((m : Int) - 1) = (m : Int) - 1 := wrap64_fit _ (by omega)
            have e5 : IntKind.i64.wrap (1 + ((n : Int) - 1)) = n := by rw [IntWalk.i64_in _ (by omega)]; omega
            have e6 : IntKind.i64.wrap (1 + ((m : Int) - 1)) = m := by rw [IntWalk.i64_in _ (by omega)]; omega
            have e7 : IntKind.u8.wrap ((n : Int) - 1) = (n : Int) - 1 := IntWalk.u8_in _ (by omega)
            have e8 : IntKind.u8.wrap ((m : Int) - 1) = (m : Int) - 1 := IntWalk.u8_in _ (by omega)
            go_big_quiet (fail)
            go_wp2_with fail
            go_meet
            case rel => exact ⟨rfl, rfl, by (repeat' (first | with_reducible exact Only.refl _ _ | with_reducible refine Only.setCell ?_ (Or.inl ?_) _ | with_reducible refine Only.drewN ?_ _ | with_reducible refine Only.drew ?_ | with_reducible refine Only.alloc ?_ _ | (fail)))⟩
          case rest =>
            obtain ⟨rfl, rfl, hO14⟩ := hcut
            have HO14 := Lib.hid (HO13.out.thenNil hO14)
            have HE10d := Lib.hid (HE10c.out.onlyNil hO14)
            have HE12d := Lib.hid (HE12c.out.onlyNil hO14)
            have k014 : ∀ i, wc.cell? ⟨w.heap.size, i, none⟩ = #[Value.slice l.Ao out.length l.co, .int .i64 base, .bool closed, .bool done, .slice l.Ai inn.length l.ci, .int .i64 next, .bool ended, .bool due][i]? := fun i => (HX.out.b0.onlyNil HO14.out).cell i
            clear hO14 k013 k113
            have hnm : IntKind.i64.wrap ((n : Int) + m) = ((n + m : Nat) : Int) := by rw [IntWalk.i64_in _ (by omega)]; omega
            by_cases hin : ((inn.length : Nat) : Int) < ((n + m : Nat) : Int)
            · go_wp2_with fail
              go_ret
              exact ⟨rfl, HX.out.only.thenNil HO14.out⟩
            obtain ⟨al, s, er2, har⟩ : ∃ a d k, readE ⟨out, base, closed, done, inn, next, ended, due⟩ ((n + m : Nat) : Int) = (a, d, k) := ⟨_, _, _, rfl⟩
            obtain ⟨o2, t, fr2, hor2⟩ : ∃ a d k, readE ⟨out, base, closed, done, inn, next, ended, due⟩ (n : Int) = (a, d, k) := ⟨_, _, _, rfl⟩
            have HRP := Lib.hid (read_parts (x := ⟨out, base, closed, done, inn, next, ended, due⟩) hn1.1 hm1.1 (by dsimp only; omega) har hor2)
            have hr0 : ∀ w', Only Nil w2 w' → Calls Try.prog 21 #[.agg #[Value.slice l.Ao out.length l.co, .int .i64 base, .bool closed, .bool done, .slice l.Ai inn.length l.ci, .int .i64 next, .bool ended, .bool due], .int .i64 ((n + m : Nat) : Int)] w' (RPost (al, s, er2) w') := fun w' hO => by
              rw [← har]
              exact read_any l ⟨out, base, closed, done, inn, next, ended, due⟩ _ w' (HB.out.next (HX.out.only.thenNil hO)) (by omega)
            have hr1 : ∀ w', Only Nil w2 w' → Calls Try.prog 21 #[.agg #[Value.slice l.Ao out.length l.co, .int .i64 base, .bool closed, .bool done, .slice l.Ai inn.length l.ci, .int .i64 next, .bool ended, .bool due], .int .i64 (n : Int)] w' (RPost (o2, t, fr2) w') := fun w' hO => by
              rw [← hor2]
              exact read_any l ⟨out, base, closed, done, inn, next, ended, due⟩ _ w' (HB.out.next (HX.out.only.thenNil hO)) (by omega)
            have HR0 := Lib.hid hr0
            have HR1 := Lib.hid hr1
            clear hr0 hr1 har hor2
            go_upto_region 14 with fail
            go_cut [16, 17, 9] (fun pw q v wd => ∃ g16 As cs, pw = .pointer (some ⟨g16, 0, none⟩) ∧ q = .slice As s.length cs ∧ v = .int .i64 er2 ∧ EBox 29 wd g16 al ∧ Bs wd wd.heap.size As s ∧ w2.heap.size ≤ g16 ∧ g12 < g16 ∧ Only Nil wc wd)
            case first =>
              go_wp2_with fail
              refine (HR0.out _ HO14.out).mono ?_
              rintro x w5 ⟨l5, A5, c5, rfl, hE5, hB5, hc5, hO5⟩
              go_wp2_with fail
              go_meet
              case rel => exact ⟨w5.heap.size, A5, c5, rfl, rfl, rfl, EBox.new _ hE5, (hB5.onlyNil ((Only.refl _ _).alloc _) (Nat.le_refl _)).up ((Only.refl Nil _).alloc _).size, (HO14.out.thenNil hO5).size, Nat.lt_of_lt_of_le HE12d.out.lt hO5.size, hO5.alloc _⟩
            case rest =>
              obtain ⟨g16, As, cs, rfl, rfl, rfl, hE16, hBs, hg16, hg16', hO16⟩ := hcut
              have HO16 := Lib.hid (HO14.out.thenNil hO16)
              have HE10e := Lib.hid (HE10d.out.onlyNil hO16)
              have HE12e := Lib.hid (HE12d.out.onlyNil hO16)
              have HE16 := Lib.hid hE16
              have HBS := Lib.hid hBs
              have k016 : ∀ i, wc.cell? ⟨w.heap.size, i, none⟩ = #[Value.slice l.Ao out.length l.co, .int .i64 base, .bool closed, .bool done, .slice l.Ai inn.length l.ci, .int .i64 next, .bool ended, .bool due][i]? := fun i => (HX.out.b0.onlyNil HO16.out).cell i
              clear hE16 hBs hO16 k014
              go_upto_region 15 with fail
              go_cut [18, 11] (fun q v wd => ∃ At ct, q = .slice At t.length ct ∧ v = .int .i64 fr2 ∧ EBox 29 wd g10 o2 ∧ EBox 29 wd g12 tw ∧ EBox 29 wd g16 al ∧ Bs wd wd.heap.size As s ∧ Bs wd wd.heap.size At t ∧ Only Nil w2 wd)
              case first =>
                go_wp2_with fail
                refine (HR1.out _ HO16.out).mono ?_
                rintro x w5 ⟨l5, A5, c5, rfl, hE5, hB5, hc5, hO5⟩
                obtain ⟨lz, hbz, hlz⟩ := HE10e.out.onlyNil hO5
                have kz : ∀ i, w5.cell? ⟨g10, i, none⟩ = #[Value.slice lz.Ao o.out.length lz.co, .int .i64 o.base, .bool o.closed, .bool o.done, .slice lz.Ai o.inn.length lz.ci, .int .i64 o.next, .bool o.ended, .bool o.due][i]? := fun i => hbz.cell i
                have fz : ∀ i, w5.frozen? ⟨g10, i, none⟩ = false := fun i => hbz.frozen i
                have HBZ : Hid (EBox 29 w5 g10 o) := Lib.hid ⟨lz, hbz, hlz⟩
                have HBZ' := Lib.hid hbz
                have HE5 := Lib.hid hE5
                have HB5 := Lib.hid hB5
                have HO5 := Lib.hid hO5
                clear hbz hlz hE5 hB5 hO5
                go_wp2_with fail
                go_meet
                case rel =>
                  have hR : EBox 29 (put8 w5 g10 l5 o2) g10 o2 ∧ EBox 29 (put8 w5 g10 l5 o2) g12 tw ∧ EBox 29 (put8 w5 g10 l5 o2) g16 al ∧ Bs (put8 w5 g10 l5 o2) (put8 w5 g10 l5 o2).heap.size As s ∧ Bs (put8 w5 g10 l5 o2) (put8 w5 g10 l5 o2).heap.size A5 t ∧ Only Nil w2 (put8 w5 g10 l5 o2) :=
                    ⟨HBZ.out.put HE5.out, EBox.put_far HBZ.out (HE12e.out.onlyNil HO5.out) (by omega), EBox.put_far HBZ.out (HE16.out.onlyNil HO5.out) (by omega), (((HBS.out.onlyNil HO5.out (Nat.le_refl _)).up HO5.out.size).box HBZ'.out (earr_no lz o) (put8_only _ _ _ _) (Nat.le_refl _)).up (put8_only w5 g10 l5 o2).size,
                      (HB5.out.box HBZ'.out (earr_no lz o) (put8_only _ _ _ _) (Nat.le_refl _)).up (put8_only w5 g10 l5 o2).size, (HO16.out.thenNil HO5.out).trans (put8_only _ _ _ _) (fun x hx => .inr (by unfold One at hx; omega))⟩
                  exact ⟨A5, c5, rfl, rfl, hR⟩
              case rest =>
                obtain ⟨At, ct, rfl, rfl, hE10, hE12, hE16, hBs, hBt, hO18⟩ := hcut
                obtain ⟨l10', hb10, hl10⟩ := hE10
                have k10' : ∀ i, wc.cell? ⟨g10, i, none⟩ = #[Value.slice l10'.Ao o2.out.length l10'.co, .int .i64 o2.base, .bool o2.closed, .bool o2.done, .slice l10'.Ai o2.inn.length l10'.ci, .int .i64 o2.next, .bool o2.ended, .bool o2.due][i]? := fun i => hb10.cell i
                have HE12f := Lib.hid hE12
                have HE16f := Lib.hid hE16
                have HBS2 := Lib.hid hBs
                have HBT2 := Lib.hid hBt
                have HO18 := Lib.hid hO18
                have HL10' := Lib.hid hl10
                clear hb10 hl10 hE12 hE16 hBs hBt hO18 k016
                obtain ⟨rfl, hrp⟩ := HRP.out
                by_cases h00 : er2 = 0
                rotate_left
                · have heb : (er2 == 0) = false := beq_false_of_ne h00
                  clear hrp
                  go_wp2_with fail
                  go_ret
                  exact ⟨by first | rfl | simp, HX.out.only.thenNil HO18.out⟩
                subst h00
                obtain ⟨tw2, u, hru, hstu, hsl, hal⟩ := hrp rfl
                have hr2 : ∀ w', EB w' w'.heap.size l10' o2 → Calls Try.prog 21 #[.agg #[Value.slice l10'.Ao o2.out.length l10'.co, .int .i64 o2.base, .bool o2.closed, .bool o2.done, .slice l10'.Ai o2.inn.length l10'.ci, .int .i64 o2.next, .bool o2.ended, .bool o2.due], .int .i64 (m : Int)] w' (RPost (tw2, u, 0) w') := fun w' hO => by
                  rw [← hru]
                  exact read_any l10' o2 _ w' hO (by omega)
                have HR2 := Lib.hid hr2
                have HSTU := Lib.hid hstu
                have HSL := Lib.hid hsl
                have HAL := Lib.hid hal
                clear hr2 hru hstu hsl hal hrp
                go_upto_region 18 with fail
                go_cut [19, 13] (fun q v wd => ∃ Au cu, q = .slice Au u.length cu ∧ v = .int .i64 0 ∧ EBox 29 wd g12 tw2 ∧ EBox 29 wd g16 al ∧ Bs wd wd.heap.size As s ∧ Bs wd wd.heap.size At t ∧ Bs wd wd.heap.size Au u ∧ Only Nil w2 wd)
                case first =>
                  go_wp2_with fail
                  refine (HR2.out _ HL10'.out).mono ?_
                  rintro x w5 ⟨l5, A5, c5, rfl, hE5, hB5, hc5, hO5⟩
                  obtain ⟨lz, hbz, hlz⟩ := HE12f.out.onlyNil hO5
                  have kz : ∀ i, w5.cell? ⟨g12, i, none⟩ = #[Value.slice lz.Ao tw.out.length lz.co, .int .i64 tw.base, .bool tw.closed, .bool tw.done, .slice lz.Ai tw.inn.length lz.ci, .int .i64 tw.next, .bool tw.ended, .bool tw.due][i]? := fun i => hbz.cell i
                  have fz : ∀ i, w5.frozen? ⟨g12, i, none⟩ = false := fun i => hbz.frozen i
                  have HBZ : Hid (EBox 29 w5 g12 tw) := Lib.hid ⟨lz, hbz, hlz⟩
                  have HBZ' := Lib.hid hbz
                  have HE5 := Lib.hid hE5
                  have HB5 := Lib.hid hB5
                  have HO5 := Lib.hid hO5
                  clear hbz hlz hE5 hB5 hO5
                  go_wp2_with fail
                  go_meet
                  case rel =>
                    have hb : ∀ {A0 : Option Addr} {l0 : List UInt8}, Bs wc wc.heap.size A0 l0 → Bs (put8 w5 g12 l5 tw2) (put8 w5 g12 l5 tw2).heap.size A0 l0 := fun h => (((h.onlyNil HO5.out (Nat.le_refl _)).up HO5.out.size).box HBZ'.out (earr_no lz tw) (put8_only _ _ _ _) (Nat.le_refl _)).up (put8_only w5 g12 l5 tw2).size
                    have hR : EBox 29 (put8 w5 g12 l5 tw2) g12 tw2 ∧ EBox 29 (put8 w5 g12 l5 tw2) g16 al ∧ Bs (put8 w5 g12 l5 tw2) (put8 w5 g12 l5 tw2).heap.size As s ∧ Bs (put8 w5 g12 l5 tw2) (put8 w5 g12 l5 tw2).heap.size At t ∧ Bs (put8 w5 g12 l5 tw2) (put8 w5 g12 l5 tw2).heap.size A5 u ∧ Only Nil w2 (put8 w5 g12 l5 tw2) :=
                      ⟨HBZ.out.put HE5.out, EBox.put_far HBZ.out (HE16f.out.onlyNil HO5.out) (by omega), hb HBS2.out, hb HBT2.out, (HB5.out.box HBZ'.out (earr_no lz tw) (put8_only _ _ _ _) (Nat.le_refl _)).up (put8_only w5 g12 l5 tw2).size, (HO18.out.thenNil HO5.out).trans (put8_only _ _ _ _) (fun x hx => .inr (by unfold One at hx; omega))⟩
                    exact ⟨A5, c5, rfl, rfl, hR⟩
                case rest =>
                  obtain ⟨Au, cu, rfl, rfl, hE12, hE16, hBs, hBt, hBu, hO20⟩ := hcut
                  obtain ⟨lt, hbt, hlt⟩ := hE12
                  obtain ⟨la, hba, hla⟩ := hE16
                  have kt : ∀ i, wc.cell? ⟨g12, i, none⟩ = #[Value.slice lt.Ao tw2.out.length lt.co, .int .i64 tw2.base, .bool tw2.closed, .bool tw2.done, .slice lt.Ai tw2.inn.length lt.ci, .int .i64 tw2.next, .bool tw2.ended, .bool tw2.due][i]? := fun i => hbt.cell i
                  have ka : ∀ i, wc.cell? ⟨g16, i, none⟩ = #[Value.slice la.Ao al.out.length la.co, .int .i64 al.base, .bool al.closed, .bool al.done, .slice la.Ai al.inn.length la.ci, .int .i64 al.next, .bool al.ended, .bool al.due][i]? := fun i => hba.cell i
                  have hB3 := hBs
                  rw [HSTU.out] at hB3
                  have s1 : (convert 22 9 (.slice As s.length cs)).run Try.prog wc = .ok (.string ⟨s.toArray⟩) wc := run_str (P := Try.prog) wc 22 9 5 Try.underlying22 Try.underlying5 Try.underlying9 (c := cs) hBs rfl
                  have s2 : (convert 22 9 (.slice At t.length ct)).run Try.prog wc = .ok (.string ⟨t.toArray⟩) wc := run_str (P := Try.prog) wc 22 9 5 Try.underlying22 Try.underlying5 Try.underlying9 (c := ct) hBt rfl
                  have s3 : (convert 22 9 (.slice Au u.length cu)).run Try.prog wc = .ok (.string ⟨u.toArray⟩) wc := run_str (P := Try.prog) wc 22 9 5 Try.underlying22 Try.underlying5 Try.underlying9 (c := cu) hBu rfl
                  have HLT := Lib.hid hlt
                  have HLA := Lib.hid hla
                  have HO20 := Lib.hid hO20
                  have hst : (ByteArray.mk t.toArray) ++ (ByteArray.mk u.toArray) = ByteArray.mk s.toArray := by
                    apply ByteArray.ext
                    rw [ByteArray.data_append, HSTU.out]
                    simp
                  have hadd : (Op.stringOp .add ⟨t.toArray⟩ ⟨u.toArray⟩).run Try.prog wc = .ok (.string ⟨s.toArray⟩) wc := by
                    rw [← hst]
                    refine run_string_add_sum wc _ _ ?_
                    have h1 := HSL.out
                    have h2 := congrArg List.length HSTU.out
                    rw [List.length_append] at h2
                    show t.toArray.size + u.toArray.size ≤ 9223372036854775807
                    rw [List.size_toArray, List.size_toArray]
                    omega
                  have hsl : s.length = n + m := HSL.out
                  have hsl1 : ((s.length : Int) == ((n + m : Nat) : Int)) = true := by rw [beq_iff_eq]; omega
                  have hsl2 : ((s.length : Int) == (n : Int) + (m : Int)) = true := by rw [beq_iff_eq]; omega
                  have HSL3 := Lib.hid hsl
                  clear hbt hlt hba hla hBs hBt hBu hO20 k10' hB3 hst hsl
                  go_wp2_with fail
                  refine (equal_any la lt al tw2 _ HLA.out HLT.out).mono ?_
                  rintro x w9 ⟨r, rfl, hr, hO9⟩
                  obtain rfl : r = true := hr.2 HAL.out
                  clear hr
                  go_wp2_with fail
                  go_ret
                  exact ⟨rfl, HX.out.only.thenNil (HO20.out.thenNil hO9)⟩

theorem wf_u8 {z : Int} (h : (Lit.int .u8 z).wf = true) : 0 ≤ z ∧ z ≤ 255 := by
  simp [Lit.wf, IntKind.min, IntKind.max, IntKind.signed, IntKind.bits] at h
  omega
theorem open_n {H : Type} {enc : TypeId × Value → H} {W : World} {v : Value} {d : DataW H} {p : List MemPlace} {base : Nat}
    (hv : Value.okWide Try.prog W .any base 47 v) (h : DataW.Trod enc Try.prog W 0 (fun _ => true) true 47 v d p) :
    ∃ n0 n1 : Int, v = .agg #[.int .u8 n0, .int .u8 n1] ∧ (0 ≤ n0 ∧ n0 ≤ 255) ∧ (0 ≤ n1 ∧ n1 ≤ 255) := by
  obtain ⟨cs, rfl, hcs⟩ := okWide_array Try.underlying47 hv
  obtain ⟨fuel, hf⟩ := h
  have hf' : DataW.trod enc Try.prog W 0 (fun _ => true) true fuel 47 cs.toList = some (d, p) := hf
  obtain ⟨zs, hzl, hzs, hzw⟩ := ints_of_array (n := 2) Try.underlying47 Try.underlying5 (by kernel_rfl) (by kernel_rfl) hf'
  match zs, hzl with
  | [z0, z1], _ =>
    refine ⟨z0, z1, ?_, wf_u8 (hzw z0 (by simp)), wf_u8 (hzw z1 (by simp))⟩
    have : cs = #[.int .u8 z0, .int .u8 z1] := by
      apply Array.toList_inj.1
      rw [hzs]
      rfl
    rw [this]

set_option maxRecDepth 100000 in
theorem from_args {H : Type} {enc : TypeId × Value → H} (W : World) (base : Nat) (args : Array Value) (ds : List (DataW H)) (ps : List MemPlace)
    (hval0 : ∀ (j : Nat) t v, Try.f5.params[j]? = some t → args[j]? = some v → Value.okWide Try.prog W .any base t v)
    (hA : DataW.TrodAll enc Try.prog W 0 (fun _ => true) true Try.f5.params.toList args.toList ds ps) (_hlt : ∀ x ∈ ps, x.block < W.heap.size)
    (hsz : (DataW.weightsEach Try.prog Try.f5.params.toList ds).all (· ≤ reachBytes) = true) : Calls Try.prog 5 args W (LawPost W) := by
  have hval := hval0
  rw [Try.params5] at hA hval hsz
  obtain ⟨v0, vs0, d0, ds0, p0, q0, hargs, rfl, rfl, h0, r0⟩ := trodAll_cons hA
  obtain ⟨v1, vs1, d1, ds1, p1, q1, rfl, rfl, rfl, h1, r1⟩ := trodAll_cons r0
  obtain ⟨v2, vs2, d2, ds2, p2, q2, rfl, rfl, rfl, h2, r2⟩ := trodAll_cons r1
  obtain ⟨rfl, rfl, rfl⟩ := trodAll_nil r2
  obtain rfl : args = #[v0, v1, v2] := by cases args; simp_all
  obtain ⟨l, e, rfl, hE⟩ := open_end (hval 0 _ v0 rfl rfl) h0
  obtain ⟨B, b, cb, rfl, hb1, hb2, hB⟩ := open_barg (hval 1 _ v1 rfl rfl) h1
  obtain ⟨n0, n1, rfl, g0, g1⟩ := open_n (hval 2 _ v2 rfl rfl) h2
  exact walk l e B cb b n0 n1 W hE hB hb1 hb2 g0 g1

set_option maxRecDepth 100000 in
theorem over : Rows.streamPartsRow.holds Try.pinned (OpenSpec.ofChange Rows.streamPartsSpec) :=
  OpenClaim.holds_of_wide 5 Try.f5 rfl rfl rfl rfl rfl rfl rfl ⟨rfl, rfl, rfl, rfl, rfl⟩ rfl rfl rfl rfl rfl (by kernel_rfl) Try.func5 (by kernel_rfl)
    (of_decide_eq_true (by kernel_rfl)) (by unfold Func.isWrapper; first | (rw [if_pos (by decide +kernel)]; kernel_rfl) | (rw [if_neg (by decide +kernel)]; exact ⟨rfl, rfl⟩))
    (fun os started H enc _ => law_lifted (f := 5) (F := Try.f5) (s := Rows.streamPartsSpec) os started H enc (by kernel_rfl) Try.func5 rfl rfl (by kernel_rfl) (by kernel_rfl)
      (fun ds hd => by match ds, hd with | [_, _, _], _ => rfl)
      (ChangeSpec.witness6 (enc := enc) (C := Try.checked) false ⟨#[], #[.agg #[.slice none 0 0, .int .i64 0, .bool false, .bool false, .slice none 0 0, .int .i64 0, .bool false, .bool false], .slice none 0 0, .agg #[.int .u8 0, .int .u8 0]], []⟩ 8 (by kernel_rfl) (by kernel_rfl) (by kernel_rfl) (by kernel_rfl))
      (fun W base args ds ps hv hA hlt hsz => from_args W base args ds ps hv hA hlt hsz))

/-- The statement. -/
theorem proved : Rows.StreamPartsSaid := over

end streamParts
end Go.Proofs.Ytfichoekjjcjiaa
