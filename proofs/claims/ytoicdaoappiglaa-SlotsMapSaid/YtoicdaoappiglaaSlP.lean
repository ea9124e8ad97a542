/-
  Tables of slots in plain Lean: what Put, Set, Drop, Get and Handles reckon, and the invariant of generations.
  No conditions: no program in sight.
-/
import Derived.WalkKit
namespace Go.Proofs.Ytoicdaoappiglaa
open Go.RowKit

structure Slot where
  gen : Int
  val : Int
  used : Bool

abbrev Tbl := List Slot
def zSlot : Slot := ⟨0, 0, false⟩
def Slot.cells (s : Slot) : List Value := [.int .i64 s.gen, .int .i64 s.val, .bool s.used]
def cellsT (l : Tbl) : List Value := l.flatMap Slot.cells
def at_ (l : Tbl) (i : Nat) : Slot := l.getD i zSlot

/-- Every generation is from 0 to 1000, and below 1000 where a value is held. -/
def Fine (l : Tbl) : Prop := 0 < l.length ∧ l.length ≤ 200 ∧ ∀ s ∈ l, 0 ≤ s.gen ∧ s.gen ≤ 1000 ∧ (s.used = true → s.gen < 1000)

theorem Fine.at_ {l : Tbl} (h : Fine l) (i : Nat) : 0 ≤ (at_ l i).gen ∧ (at_ l i).gen ≤ 1000 ∧ ((at_ l i).used = true → (at_ l i).gen < 1000) := by
  unfold Proofs.Ytoicdaoappiglaa.at_
  by_cases hi : i < l.length
  · rw [List.getD_eq_getElem?_getD, List.getElem?_eq_getElem hi]; exact h.2.2 _ (List.getElem_mem _)
  · rw [List.getD_eq_getElem?_getD, List.getElem?_eq_none (by omega)]; simp [zSlot]

theorem cellsT_length (l : Tbl) : (cellsT l).length = l.length * 3 := by
  induction l with
  | nil => rfl
  | cons s l ih => simp only [cellsT, List.flatMap_cons, List.length_append, List.length_cons] at ih ⊢; rw [ih]; simp [Slot.cells]; omega

theorem cellsT_at (l : Tbl) (i j : Nat) (hi : i < l.length) (hj : j < 3) : (cellsT l)[i * 3 + j]? = (at_ l i).cells[j]? := by
  induction l generalizing i with
  | nil => simp at hi
  | cons s l ih =>
    rcases i with _ | i
    · have : (cellsT (s :: l))[0 * 3 + j]? = (s.cells ++ cellsT l)[j]? := by simp [cellsT]
      rw [this, List.getElem?_append_left (by simpa [Slot.cells] using hj)]; rfl
    · have : (cellsT (s :: l))[(i + 1) * 3 + j]? = (s.cells ++ cellsT l)[(i + 1) * 3 + j]? := by simp [cellsT]
      rw [this, List.getElem?_append_right (by simp [Slot.cells]; omega)]
      have e : (i + 1) * 3 + j - s.cells.length = i * 3 + j := by simp [Slot.cells]; omega
      rw [e, ih i (by simpa using hi)]; rfl

theorem cellsT_set (l : Tbl) (i : Nat) (s : Slot) (hi : i < l.length) :
    ((((cellsT l).set (i * 3) (.int .i64 s.gen)).set (i * 3 + 1) (.int .i64 s.val)).set (i * 3 + 2) (.bool s.used)) = cellsT (l.set i s) := by
  induction l generalizing i with
  | nil => simp at hi
  | cons x l ih =>
    rcases i with _ | i
    · simp [cellsT, Slot.cells]
    · have e : cellsT (x :: l) = x.cells ++ cellsT l := by simp [cellsT]
      have e' : cellsT ((x :: l).set (i + 1) s) = x.cells ++ cellsT (l.set i s) := by simp [cellsT]
      rw [e, e', ← ih i (by simpa using hi)]
      have h3 : x.cells.length = 3 := rfl
      rw [List.set_append_right _ _ (by omega), List.set_append_right _ _ (by omega), List.set_append_right _ _ (by omega)]
      rw [show (i + 1) * 3 - x.cells.length = i * 3 by omega, show (i + 1) * 3 + 1 - x.cells.length = i * 3 + 1 by omega, show (i + 1) * 3 + 2 - x.cells.length = i * 3 + 2 by omega]

theorem cellsT_cons (x : Slot) (l : Tbl) : cellsT (x :: l) = .int .i64 x.gen :: .int .i64 x.val :: .bool x.used :: cellsT l := by simp [cellsT, Slot.cells]
theorem at_cons (x : Slot) (l : Tbl) (i : Nat) : at_ (x :: l) (i + 1) = at_ l i := rfl

theorem cellsT_set21 (l : Tbl) (i : Nat) (v : Int) (u : Bool) (hi : i < l.length) :
    ((cellsT l).set (i * 3 + 2) (.bool u)).set (i * 3 + 1) (.int .i64 v) = cellsT (l.set i ⟨(at_ l i).gen, v, u⟩) := by
  induction l generalizing i with
  | nil => simp at hi
  | cons x l ih =>
    rcases i with _ | i
    · simp [cellsT_cons, at_]
    · have := ih i (by simpa using hi)
      rw [at_cons, List.set_cons_succ, cellsT_cons, cellsT_cons, ← this]
      rw [show (i + 1) * 3 + 2 = i * 3 + 2 + 1 + 1 + 1 by omega, show (i + 1) * 3 + 1 = i * 3 + 1 + 1 + 1 + 1 by omega]
      rfl
theorem cellsT_set1 (l : Tbl) (i : Nat) (v : Int) (hi : i < l.length) :
    (cellsT l).set (i * 3 + 1) (.int .i64 v) = cellsT (l.set i ⟨(at_ l i).gen, v, (at_ l i).used⟩) := by
  induction l generalizing i with
  | nil => simp at hi
  | cons x l ih =>
    rcases i with _ | i
    · simp [cellsT_cons, at_]
    · have := ih i (by simpa using hi)
      rw [at_cons, List.set_cons_succ, cellsT_cons, cellsT_cons, ← this]
      rw [show (i + 1) * 3 + 1 = i * 3 + 1 + 1 + 1 + 1 by omega]
      rfl

/-- The best empty slot among the first k: -1 if there is none. -/
def bestTo (l : Tbl) : Nat → Int
  | 0 => -1
  | k + 1 => if (at_ l k).used = false ∧ (at_ l k).gen < 1000 ∧ (bestTo l k < 0 ∨ (at_ l k).gen < (at_ l (bestTo l k).toNat).gen) then k else bestTo l k

theorem bestTo_bd (l : Tbl) (k : Nat) : -1 ≤ bestTo l k ∧ (bestTo l k < k ∨ bestTo l k = -1) ∧ (0 ≤ bestTo l k → (at_ l (bestTo l k).toNat).used = false ∧ (at_ l (bestTo l k).toNat).gen < 1000) := by
  induction k with
  | zero => simp [bestTo]
  | succ k ih =>
    unfold bestTo
    split
    · rename_i h; refine ⟨by omega, by omega, fun _ => ?_⟩; simpa using ⟨h.1, h.2.1⟩
    · exact ⟨ih.1, by omega, ih.2.2⟩

def best (l : Tbl) : Int := bestTo l l.length
def hdl (l : Tbl) (i : Nat) : Int := (at_ l i).gen * l.length + i

def putT (l : Tbl) (v : Int) : Tbl := if best l < 0 then l else l.set (best l).toNat ⟨(at_ l (best l).toNat).gen, v, true⟩
def putH (l : Tbl) : Int := if best l < 0 then 0 else hdl l (best l).toNat
def putE (l : Tbl) : Int := if best l < 0 then 13 else 0

/-- The slot of a handle. -/
def findT (l : Tbl) (h : Int) : Option Nat :=
  if 0 ≤ h ∧ (at_ l (h % l.length).toNat).used = true ∧ hdl l (h % l.length).toNat = h then some (h % l.length).toNat else none
def setT (l : Tbl) (h v : Int) : Tbl := match findT l h with | some i => l.set i ⟨(at_ l i).gen, v, (at_ l i).used⟩ | none => l
def dropT (l : Tbl) (h : Int) : Tbl := match findT l h with | some i => l.set i ⟨(at_ l i).gen + 1, 0, false⟩ | none => l
def isE (l : Tbl) (h : Int) : Int := if (findT l h).isSome then 0 else 8
def getV (l : Tbl) (h : Int) : Int := match findT l h with | some i => (at_ l i).val | none => 0
def getO (l : Tbl) (h : Int) : Bool := (findT l h).isSome

theorem findT_lt {l : Tbl} {h : Int} {i : Nat} (h0 : 0 < l.length) (e : findT l h = some i) : i < l.length ∧ 0 ≤ h ∧ (h % l.length).toNat = i ∧ (at_ l i).used = true ∧ hdl l i = h := by
  unfold findT at e
  split at e
  · rename_i hh
    injection e with e
    subst e
    have := Int.emod_lt_of_pos h (show (0 : Int) < l.length by omega)
    have := Int.emod_nonneg h (show (l.length : Int) ≠ 0 by omega)
    exact ⟨by omega, hh.1, rfl, hh.2.1, hh.2.2⟩
  · cases e

/-- The handles of the first k slots that hold a value. -/
def hdlsTo (l : Tbl) : Nat → List Int
  | 0 => []
  | k + 1 => if (at_ l k).used = true then hdlsTo l k ++ [hdl l k] else hdlsTo l k
def hdls (l : Tbl) : List Int := hdlsTo l l.length
theorem hdlsTo_length (l : Tbl) (k : Nat) : (hdlsTo l k).length ≤ k := by
  induction k with
  | zero => simp [hdlsTo]
  | succ k ih => unfold hdlsTo; split
                 · simp only [List.length_append, List.length_cons, List.length_nil]; omega
                 · omega

theorem hdl_bd {l : Tbl} (h : Fine l) (i : Nat) (hi : i < l.length) : 0 ≤ hdl l i ∧ hdl l i ≤ 200200 ∧ 0 ≤ (at_ l i).gen * l.length ∧ (at_ l i).gen * l.length ≤ 200000 := by
  have hg := h.at_ i
  have hl := h.2.1
  have h1 : (at_ l i).gen * (l.length : Int) ≤ 1000 * 200 := Int.mul_le_mul (by omega) (by omega) (by omega) (by omega)
  have h2 : 0 ≤ (at_ l i).gen * (l.length : Int) := Int.mul_nonneg (by omega) (by omega)
  unfold hdl
  omega

theorem Fine.set {l : Tbl} (h : Fine l) (i : Nat) (s : Slot) (hs : 0 ≤ s.gen ∧ s.gen ≤ 1000 ∧ (s.used = true → s.gen < 1000)) : Fine (l.set i s) := by
  refine ⟨by simpa using h.1, by simpa using h.2.1, fun x hx => ?_⟩
  rcases List.mem_or_eq_of_mem_set hx with h1 | h1
  · exact h.2.2 x h1
  · subst h1; exact hs

theorem at_set (l : Tbl) (i j : Nat) (s : Slot) (hi : i < l.length) : at_ (l.set i s) j = if j = i then s else at_ l j := by
  unfold at_
  rw [List.getD_eq_getElem?_getD, List.getD_eq_getElem?_getD, List.getElem?_set]
  by_cases h : i = j
  · subst h; simp [hi]
  · rw [if_neg h, if_neg (fun e => h e.symm)]

theorem Fine.put {l : Tbl} (h : Fine l) (v : Int) : Fine (putT l v) := by
  unfold putT
  have hb := bestTo_bd l l.length
  split
  · exact h
  · rename_i hn
    have hb' := hb.2.2 (by unfold best at hn; omega)
    have hg := h.at_ (best l).toNat
    exact h.set _ _ ⟨hg.1, hg.2.1, fun _ => hb'.2⟩
theorem Fine.setT {l : Tbl} (h : Fine l) (a v : Int) : Fine (setT l a v) := by
  unfold Proofs.Ytoicdaoappiglaa.setT
  split
  · rename_i i _; exact h.set _ _ (h.at_ i)
  · exact h
theorem Fine.dropT {l : Tbl} (h : Fine l) (a : Int) : Fine (dropT l a) := by
  unfold Proofs.Ytoicdaoappiglaa.dropT
  split
  · rename_i i e
    have hf := findT_lt h.1 e
    have hg := h.at_ i
    have := hg.2.2 hf.2.2.2.1
    refine h.set _ _ ⟨?_, ?_, by simp⟩ <;> simp <;> omega
  · exact h
theorem putT_length (l : Tbl) (v : Int) : (putT l v).length = l.length := by unfold putT; split <;> simp
theorem setT_length (l : Tbl) (a v : Int) : (setT l a v).length = l.length := by unfold setT; split <;> simp
theorem dropT_length (l : Tbl) (a : Int) : (dropT l a).length = l.length := by unfold dropT; split <;> simp
theorem Fine.new (n : Nat) (h0 : 0 < n) (h1 : n ≤ 200) : Fine (List.replicate n zSlot) :=
  ⟨by simpa using h0, by simpa using h1, fun s hs => by rw [List.eq_of_mem_replicate hs]; simp [zSlot]⟩

end Go.Proofs.Ytoicdaoappiglaa
