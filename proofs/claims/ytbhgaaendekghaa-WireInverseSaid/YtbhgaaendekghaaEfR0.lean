/-
  The walk of wire's effect: an effect is read from a reader.
  Conditions: the reader stands within its bytes; they are at most 2 to the power 40.
-/
import Derived.Test.YtbhgaaendekghaaEfP
import Derived.Test.YtbhgaaendekghaaMqR
namespace Go.Proofs.Ytbhgaaendekghaa
open Go.RowKit

theorem fr_no (r : FR) : NoU8 r.cells.toArray := by
  intro i z
  unfold FR.cells mcells
  match i with
  | 0 => simp
  | 1 => simp
  | 2 => simp
  | 3 => simp
  | 4 => simp
  | 5 => simp
  | 6 => simp
  | 7 => simp
  | 8 => simp
  | 9 => simp
  | 10 => simp
  | 11 => simp
  | 12 => simp
  | 13 => simp
  | 14 => simp
  | n + 15 => simp
theorem msg_zero (w : World) : (zeroValue 26).run Try.prog w = .ok (.agg #[.int .i64 0, .int .i64 0, .int .i64 0, .int .i64 0, .int .i64 0, .int .i64 0, .int .i64 0, .int .i64 0, .slice none 0 0]) w := by kernel_rfl
/-- An effect stored cell by cell; a message stored behind the first five cells. -/
def setF (w : World) (g : Nat) (r : FR) : World := (((((((((((((((w.setCell ⟨g, 0, none⟩ (.int .i64 r.x.kind)).setCell ⟨g, 1, none⟩ (.int .i64 r.x.a0)).setCell ⟨g, 2, none⟩ (.int .i64 r.x.a1)).setCell ⟨g, 3, none⟩ (.int .i64 r.x.a2)).setCell ⟨g, 4, none⟩ (.int .i64 r.x.a3)).setCell ⟨g, 5, none⟩ (.int .i64 r.x.msg.src)).setCell ⟨g, 6, none⟩ (.int .i64 r.x.msg.dst)).setCell ⟨g, 7, none⟩ (.int .i64 r.x.msg.kind)).setCell ⟨g, 8, none⟩ (.int .i64 r.x.msg.seq)).setCell ⟨g, 9, none⟩ (.int .i64 r.x.msg.a0)).setCell ⟨g, 10, none⟩ (.int .i64 r.x.msg.a1)).setCell ⟨g, 11, none⟩ (.int .i64 r.x.msg.a2)).setCell ⟨g, 12, none⟩ (.int .i64 r.x.msg.a3)).setCell ⟨g, 13, none⟩ (.slice r.Am r.x.msg.data.length r.cm)).setCell ⟨g, 14, none⟩ (.slice r.Ad r.x.data.length r.cd))
theorem setF_only (w : World) (g : Nat) (r : FR) : Only (One g) w (setF w g r) := by
  unfold setF
  (repeat' (first | with_reducible exact Only.refl _ _ | with_reducible refine Only.setCell ?_ (Or.inl ?_) _ | with_reducible refine Only.drewN ?_ _ | with_reducible refine Only.drew ?_ | with_reducible refine Only.alloc ?_ _ | (exact rfl)))
theorem setF_blk {w : World} {g : Nat} {t : TypeId} {cs : Array Value} (h : Blk w g t cs) (hs : cs.size = 15) (r : FR) : Blk (setF w g r) g t r.cells.toArray := by
  obtain ⟨l⟩ := cs
  match l, hs with
  | [c0, c1, c2, c3, c4, c5, c6, c7, c8, c9, c10, c11, c12, c13, c14], _ =>
    have := (((((((((((((((h.set_ 0 (.int .i64 r.x.kind)).set_ 1 (.int .i64 r.x.a0)).set_ 2 (.int .i64 r.x.a1)).set_ 3 (.int .i64 r.x.a2)).set_ 4 (.int .i64 r.x.a3)).set_ 5 (.int .i64 r.x.msg.src)).set_ 6 (.int .i64 r.x.msg.dst)).set_ 7 (.int .i64 r.x.msg.kind)).set_ 8 (.int .i64 r.x.msg.seq)).set_ 9 (.int .i64 r.x.msg.a0)).set_ 10 (.int .i64 r.x.msg.a1)).set_ 11 (.int .i64 r.x.msg.a2)).set_ 12 (.int .i64 r.x.msg.a3)).set_ 13 (.slice r.Am r.x.msg.data.length r.cm)).set_ 14 (.slice r.Ad r.x.data.length r.cd))
    simpa [setF, FR.cells, mcells] using this
def setFM (w : World) (g : Nat) (A : Option Addr) (c : Nat) (m : M) : World := (((((((((w.setCell ⟨g, 5, none⟩ (.int .i64 m.src)).setCell ⟨g, 6, none⟩ (.int .i64 m.dst)).setCell ⟨g, 7, none⟩ (.int .i64 m.kind)).setCell ⟨g, 8, none⟩ (.int .i64 m.seq)).setCell ⟨g, 9, none⟩ (.int .i64 m.a0)).setCell ⟨g, 10, none⟩ (.int .i64 m.a1)).setCell ⟨g, 11, none⟩ (.int .i64 m.a2)).setCell ⟨g, 12, none⟩ (.int .i64 m.a3)).setCell ⟨g, 13, none⟩ (.slice A m.data.length c))
theorem setFM_only (w : World) (g : Nat) (A : Option Addr) (c : Nat) (m : M) : Only (One g) w (setFM w g A c m) := by
  unfold setFM
  (repeat' (first | with_reducible exact Only.refl _ _ | with_reducible refine Only.setCell ?_ (Or.inl ?_) _ | with_reducible refine Only.drewN ?_ _ | with_reducible refine Only.drew ?_ | with_reducible refine Only.alloc ?_ _ | (exact rfl)))
theorem setFM_blk {w : World} {g : Nat} {t : TypeId} {r : FR} (h : Blk w g t r.cells.toArray) (A : Option Addr) (c : Nat) (m : M) : Blk (setFM w g A c m) g t (FR.cells ⟨A, c, r.Ad, r.cd, { r.x with msg := m }⟩).toArray := by
  have := (((((((((h.set_ 5 (.int .i64 m.src)).set_ 6 (.int .i64 m.dst)).set_ 7 (.int .i64 m.kind)).set_ 8 (.int .i64 m.seq)).set_ 9 (.int .i64 m.a0)).set_ 10 (.int .i64 m.a1)).set_ 11 (.int .i64 m.a2)).set_ 12 (.int .i64 m.a3)).set_ 13 (.slice A m.data.length c))
  simpa [setFM, FR.cells, mcells] using this
def zFR : FR := ⟨none, 0, none, 0, zF⟩

/-- What effect answers. -/
def EffPost (p : Nat) (A : Option Addr) (c : Nat) (l : List UInt8) (pos : Nat) (f : Bool) (w : World) (e : Ending) (w' : World) : Prop :=
  ∃ pos' : Nat, RR w' p A c l pos' f ∧ pos' ≤ l.length ∧ Only (One p) w w' ∧
    ((∃ (r : FR) (n : Nat), decF (l.drop pos) = some (r.x, n) ∧ pos' = pos + n ∧ e = .returned (.tuple #[.agg r.cells.toArray, .bool true]) ∧ r.x.msg.data.length ≤ r.cm ∧ w'.ownsRow w.heap.size 5 1 (.slice r.Am r.x.msg.data.length r.cm) r.x.msg.data.length (bcells r.x.msg.data) ∧
        r.x.data.length ≤ r.cd ∧ w'.ownsRow w.heap.size 5 1 (.slice r.Ad r.x.data.length r.cd) r.x.data.length (bcells r.x.data)) ∨
      (decF (l.drop pos) = none ∧ ∃ r : FR, e = .returned (.tuple #[.agg r.cells.toArray, .bool false])))

end Go.Proofs.Ytbhgaaendekghaa
