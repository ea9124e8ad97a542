/-
  What is known while a call that answers an end and an error runs, in whatever order its operations come up.
-/
import Derived.Test.YtfichoekjjcjiaaStA
namespace Go.Proofs.Ytfichoekjjcjiaa
open Go.RowKit

def fstR : Value → Value
  | .tuple a => (a[0]?).getD undef
  | v => v
/-- What is known while 'a, f := Receive(..)' runs, in whatever order: the pair, its copy, its end, the box, the store. -/
structure RI (o : E) (fr : Int) (wc : World) (p4 p5 p6 p8 p9 : Bool) (v4 v5 v6 v8 : Value) (u : World) : Prop where
  only : Only Nil wc u
  pair : p4 = true → ∃ l : Loc, v4 = Value.tuple #[.agg #[Value.slice l.Ao o.out.length l.co, .int .i64 o.base, .bool o.closed, .bool o.done, .slice l.Ai o.inn.length l.ci, .int .i64 o.next, .bool o.ended, .bool o.due], .int .i64 fr] ∧ (p9 = false → EB u u.heap.size l o)
  c5 : p5 = true → p4 = true ∧ v5 = v4
  c6 : p6 = true → p5 = true ∧ v6 = fstR v4
  c8 : p8 = true → ∃ g, v8 = .pointer (some ⟨g, 0, none⟩) ∧ wc.heap.size ≤ g ∧ (p9 = false → Blk u g 29 #[Value.slice none 0 0, .int .i64 0, .bool false, .bool false, .slice none 0 0, .int .i64 0, .bool false, .bool false]) ∧ (p9 = true → EBox 29 u g o)
  c9 : p9 = true → p6 = true ∧ p8 = true
section
variable {o : E} {fr : Int} {wc u u' : World} {p4 p5 p6 p8 p9 : Bool} {v4 v5 v6 v8 : Value}
theorem RI.keep (h : RI o fr wc p4 p5 p6 p8 p9 v4 v5 v6 v8 u) (hO : Only Nil u u') : RI o fr wc p4 p5 p6 p8 p9 v4 v5 v6 v8 u' :=
  ⟨h.only.thenNil hO, fun h4 => by obtain ⟨l, h1, h2⟩ := h.pair h4; exact ⟨l, h1, fun h9 => (h2 h9).next hO⟩, h.c5, h.c6,
    fun h8 => by obtain ⟨g, h1, h2, h3, h4⟩ := h.c8 h8; exact ⟨g, h1, h2, fun h9 => (h3 h9).onlyNil hO, fun h9 => (h4 h9).onlyNil hO⟩, h.c9⟩
theorem RI.begin (hO : Only Nil wc u) : RI o fr wc false false false false false v4 v5 v6 v8 u :=
  ⟨hO, fun h => (by cases h), fun h => (by cases h), fun h => (by cases h), fun h => (by cases h), fun h => (by cases h)⟩
theorem RI.call {l : Loc} (h : RI o fr wc false p5 p6 p8 p9 v4 v5 v6 v8 u) (hO : Only Nil u u') (hE : EB u' u'.heap.size l o) : RI o fr wc true p5 p6 p8 p9 (Value.tuple #[.agg #[Value.slice l.Ao o.out.length l.co, .int .i64 o.base, .bool o.closed, .bool o.done, .slice l.Ai o.inn.length l.ci, .int .i64 o.next, .bool o.ended, .bool o.due], .int .i64 fr]) v5 v6 v8 u' := by
  have h' := h.keep hO
  have n5 : p5 = true → False := fun e => by have := (h.c5 e).1; cases this
  have n6 : p6 = true → False := fun e => n5 (h.c6 e).1
  exact ⟨h'.only, fun _ => ⟨l, rfl, fun _ => hE⟩, fun e => (n5 e).elim, fun e => (n6 e).elim, h'.c8, fun e => (n6 (h.c9 e).1).elim⟩
theorem RI.move (h : RI o fr wc true false p6 p8 p9 v4 v5 v6 v8 u) : RI o fr wc true true p6 p8 p9 v4 v4 v6 v8 u :=
  ⟨h.only, h.pair, fun _ => ⟨rfl, rfl⟩, fun e => (by have := (h.c6 e).1; cases this), h.c8, h.c9⟩
theorem RI.tup (h : RI o fr wc p4 true p6 p8 p9 v4 v5 v6 v8 u) : ∃ l : Loc, v5 = Value.tuple #[.agg #[Value.slice l.Ao o.out.length l.co, .int .i64 o.base, .bool o.closed, .bool o.done, .slice l.Ai o.inn.length l.ci, .int .i64 o.next, .bool o.ended, .bool o.due], .int .i64 fr] := by
  obtain ⟨e1, e2⟩ := h.c5 rfl
  obtain ⟨l, h1, _⟩ := h.pair e1
  exact ⟨l, e2.trans h1⟩
theorem RI.ext {l : Loc} (h : RI o fr wc p4 true false p8 p9 v4 v5 v6 v8 u) (e5 : v5 = Value.tuple #[.agg #[Value.slice l.Ao o.out.length l.co, .int .i64 o.base, .bool o.closed, .bool o.done, .slice l.Ai o.inn.length l.ci, .int .i64 o.next, .bool o.ended, .bool o.due], .int .i64 fr]) : RI o fr wc p4 true true p8 p9 v4 v5 (Value.agg #[Value.slice l.Ao o.out.length l.co, .int .i64 o.base, .bool o.closed, .bool o.done, .slice l.Ai o.inn.length l.ci, .int .i64 o.next, .bool o.ended, .bool o.due]) v8 u := by
  obtain ⟨e1, e2⟩ := h.c5 rfl
  exact ⟨h.only, h.pair, h.c5, fun _ => ⟨rfl, by rw [← e2, e5]; rfl⟩, h.c8, fun e => (by have := (h.c9 e).1; cases this)⟩
theorem RI.box (h : RI o fr wc p4 p5 p6 false p9 v4 v5 v6 v8 u) : RI o fr wc p4 p5 p6 true p9 v4 v5 v6 (.pointer (some ⟨u.heap.size, 0, none⟩)) (u.alloc (.cells #[Value.slice none 0 0, .int .i64 0, .bool false, .bool false, .slice none 0 0, .int .i64 0, .bool false, .bool false] 29)) := by
  have h' := h.keep ((Only.refl _ _).alloc (.cells #[Value.slice none 0 0, .int .i64 0, .bool false, .bool false, .slice none 0 0, .int .i64 0, .bool false, .bool false] 29))
  have n9 : p9 = true → False := fun e => by have := (h.c9 e).2; cases this
  exact ⟨h'.only, h'.pair, h.c5, h.c6, fun _ => ⟨_, rfl, h.only.size, fun _ => Blk.new _ _ _, fun e => (n9 e).elim⟩, fun e => (n9 e).elim⟩
theorem RI.pre (h : RI o fr wc p4 p5 true true false v4 v5 v6 v8 u) : ∃ (l : Loc) (g : Nat), v6 = Value.agg #[Value.slice l.Ao o.out.length l.co, .int .i64 o.base, .bool o.closed, .bool o.done, .slice l.Ai o.inn.length l.ci, .int .i64 o.next, .bool o.ended, .bool o.due] ∧ v8 = .pointer (some ⟨g, 0, none⟩) ∧ wc.heap.size ≤ g ∧ Blk u g 29 #[Value.slice none 0 0, .int .i64 0, .bool false, .bool false, .slice none 0 0, .int .i64 0, .bool false, .bool false] ∧ EB u u.heap.size l o := by
  obtain ⟨e5, e6⟩ := h.c6 rfl
  obtain ⟨e4, e7⟩ := h.c5 e5
  obtain ⟨l, h1, h2⟩ := h.pair e4
  obtain ⟨g, h3, h4, h5, _⟩ := h.c8 rfl
  exact ⟨l, g, by rw [e6, h1]; rfl, h3, h4, h5 rfl, h2 rfl⟩
theorem RI.store {l : Loc} {g : Nat} (h : RI o fr wc p4 p5 true true false v4 v5 v6 v8 u) (hg : v8 = .pointer (some ⟨g, 0, none⟩)) (hb : Blk u g 29 #[Value.slice none 0 0, .int .i64 0, .bool false, .bool false, .slice none 0 0, .int .i64 0, .bool false, .bool false]) (hge : wc.heap.size ≤ g) (hE : EB u u.heap.size l o) : RI o fr wc p4 p5 true true true v4 v5 v6 v8 (put8 u g l o) := by
  have hzb : EBox 29 u g zE := ⟨nowhere, hb, EB.zero _ _⟩
  exact ⟨h.only.trans (put8_only _ _ _ _) (fun x hx => .inr (by unfold One at hx; omega)), fun e => (by obtain ⟨l', h1, _⟩ := h.pair e; exact ⟨l', h1, fun h => (by cases h)⟩), h.c5, h.c6, fun _ => ⟨g, hg, hge, fun h => (by cases h), fun _ => hzb.put hE⟩, fun _ => ⟨rfl, rfl⟩⟩
theorem RI.fin (h : RI o fr wc p4 p5 p6 true true v4 v5 v6 v8 u) : ∃ g, v8 = .pointer (some ⟨g, 0, none⟩) ∧ wc.heap.size ≤ g ∧ EBox 29 u g o ∧ Only Nil wc u := by
  obtain ⟨g, h3, h4, _, h5⟩ := h.c8 rfl
  exact ⟨g, h3, h4, h5 rfl, h.only⟩
end

end Go.Proofs.Ytfichoekjjcjiaa
