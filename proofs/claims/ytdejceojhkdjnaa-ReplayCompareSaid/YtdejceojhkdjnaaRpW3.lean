/-
  Walks of replay: the states of the tasks: begin, in, entry.
  Conditions: the states lie in a block that is known whole; the task's number is less than 32.
-/
import Derived.Test.YtdejceojhkdjnaaRpW2
import Derived.Deep.QuietTactic
import Derived.RegionTactic
namespace Go.Proofs.Ytdejceojhkdjnaa
open Go.RowKit

structure PS where
  there : Bool
  calling : Bool
  closed : Bool
  call : Int
def PS.cells (s : PS) : List Value := [.bool s.there, .bool s.calling, .bool s.closed, .int .i64 s.call]
theorem PS.cells_len (s : PS) : s.cells.length = 4 := rfl
def zPS : PS := ⟨false, false, false, 0⟩
/-- The states lie at block g. -/
structure SB (w : World) (g : Nat) (s : List PS) : Prop where
  len : s.length = 32
  blk : Blk w g 75 (s.flatMap PS.cells).toArray
theorem SB.onlyNil {w w' : World} {g : Nat} {s : List PS} (h : SB w g s) (hO : Only Nil w w') : SB w' g s := ⟨h.len, h.blk.onlyNil hO⟩
theorem SB.cell {w : World} {g : Nat} {s : List PS} (h : SB w g s) {k : Nat} {t : PS} (hk : s[k]? = some t) :
    w.cell? ⟨g, k * 4, none⟩ = some (.bool t.there) ∧ w.cell? ⟨g, k * 4 + 1, none⟩ = some (.bool t.calling) ∧ w.cell? ⟨g, k * 4 + 2, none⟩ = some (.bool t.closed) ∧ w.cell? ⟨g, k * 4 + 3, none⟩ = some (.int .i64 t.call) := by
  have key : ∀ j, j < 4 → w.cell? ⟨g, k * 4 + j, none⟩ = t.cells[j]? := fun j hj => by
    rw [h.blk.cell, List.getElem?_toArray, flat_get PS.cells_len s k j hj, hk]
    rfl
  exact ⟨key 0 (by omega), key 1 (by omega), key 2 (by omega), key 3 (by omega)⟩
theorem SB.frozen {w : World} {g : Nat} {s : List PS} (h : SB w g s) (i : Nat) : w.frozen? ⟨g, i, none⟩ = false := h.blk.frozen i
theorem SB.set_ {w : World} {g : Nat} {s : List PS} (h : SB w g s) {k : Nat} {t : PS} (hk : s[k]? = some t) (j : Nat) (hj : j < 4) (u : Value) (t' : PS) (ht : t.cells.set j u = t'.cells) : SB (w.setCell ⟨g, k * 4 + j, none⟩ u) g (s.set k t') := by
  refine ⟨by rw [List.length_set]; exact h.len, ?_⟩
  have := h.blk.set_ (k * 4 + j) u
  rw [List.setIfInBounds_toArray, flat_set PS.cells_len s k j u t t' hk hj ht] at this
  exact this

def inS (s : List PS) (k : Nat) (c : Int) : Bool := (s.getD k zPS).there && (!(s.getD k zPS).closed && ((s.getD k zPS).calling && (s.getD k zPS).call == c))
/-- The states behind a valid entry, and whether it is proper. -/
def stepS (s : List PS) (x : En) : List PS × Bool :=
  let k := x.task.toNat
  let t := s.getD k zPS
  if x.kind = 1 then (s.set k { t with calling := true, call := x.call }, t.there && (!t.calling && !t.closed))
  else if x.kind = 2 then (s.set k { t with calling := false }, inS s k x.call && x.call != 0)
  else if x.kind = 3 then (s.set k ⟨true, false, false, 0⟩, !t.there && inS s x.result.toNat 1)
  else if x.kind = 5 then (s, inS s k 2)
  else if x.kind = 4 then (s.set k { t with closed := true }, t.there && !t.closed)
  else if x.kind = 6 then (s.set k zPS, t.there && t.closed)
  else (s, true)
def entE (s : List PS) (x : En) : Int := if vE x then (if (stepS s x).2 then 0 else 7) else 1
def entS (s : List PS) (x : En) : List PS := if vE x then (stepS s x).1 else s
def EntPost (g : Nat) (s : List PS) (x : En) (w : World) (e : Ending) (w' : World) : Prop := e = .returned (.int .i64 (entE s x)) ∧ SB w' g (entS s x) ∧ Only (One g) w w'

theorem SB.start {w : World} {g k : Nat} {s : List PS} {t : PS} (h : SB w g s) (hk : s[k]? = some t) : SB w g (s.set k t) := by
  have : s.set k t = s := by
    apply List.ext_getElem?
    intro i
    rw [List.getElem?_set]
    split
    · rename_i e; subst e
      split
      · exact hk.symm
      · rename_i hn; rw [List.getElem?_eq_none (by omega)]
    · rfl
  rw [this]
  exact h
theorem SB.step {w : World} {g k : Nat} {s : List PS} {t : PS} (h : SB w g (s.set k t)) (hk : k < s.length) (j : Nat) (hj : j < 4) (u : Value) (t' : PS) (ht : t.cells.set j u = t'.cells) : SB (w.setCell ⟨g, k * 4 + j, none⟩ u) g (s.set k t') := by
  have := h.set_ (k := k) (t := t) (by simp [hk]) j hj u t' ht
  rwa [List.set_set] at this
theorem SB.drewN_ {w : World} {g : Nat} {s : List PS} (h : SB w g s) (n : Nat) : SB (w.drewN n) g s := h.onlyNil ((Only.refl _ _).drewN n)
theorem getD_of {s : List PS} {k : Nat} {t : PS} (h : s[k]? = some t) : s.getD k zPS = t := by rw [List.getD_eq_getElem?_getD, h]; rfl

set_option maxRecDepth 100000 in
theorem in_any {g : Nat} {s : List PS} (k : Nat) (c : Int) (w : World) (h : SB w g s) (hk : k < 32) : Calls Try.prog 41 #[.pointer (some ⟨g, 0, none⟩), .int .i64 k, .int .i64 c] w fun e w' => e = .returned (.bool (inS s k c)) ∧ Only Nil w w' := by
  obtain ⟨t, ht⟩ : ∃ t, s[k]? = some t := ⟨_, List.getElem?_eq_getElem (by rw [h.len]; exact hk)⟩
  unfold inS
  rw [getD_of ht]
  obtain ⟨c0, c1, c2, c3⟩ := h.cell ht
  have hk' : (k : Int) < 32 := by omega
  obtain ⟨th, ca, cl, n⟩ := t
  dsimp only at c0 c1 c2 c3 ⊢
  have hO := fun (w' : World) (hO : Only (fun x => w.heap.size ≤ x) w w') => (Only.refl Nil w).trans hO (fun x hx => .inr hx)
  have HO := Lib.hid hO
  have HT := Lib.hid ht
  clear h ht hk hO
  obtain ⟨q, hq⟩ : ∃ q, (n == c) = q := ⟨_, rfl⟩
  rw [hq]
  cases th <;> cases cl <;> cases ca
  all_goals
    go_enter Try.func41, Try.ntmps41
    go_wp2_with fail
    go_ret
    exact ⟨by simp, HO.out _ (by (repeat' (first | with_reducible exact Only.refl _ _ | with_reducible refine Only.setCell ?_ (Or.inl ?_) _ | with_reducible refine Only.drewN ?_ _ | with_reducible refine Only.drew ?_ | with_reducible refine Only.alloc ?_ _ | (exact Nat.le_refl _))))⟩

theorem in_range {n a b : Int} (h : inR n a b = true) : a ≤ n ∧ n ≤ b := by
  unfold inR at h
  simpa using h
theorem vE_kind3 {x : En} (h : vE x = true) (hk : x.kind = 3) : 1 ≤ x.result ∧ x.result ≤ 31 := by
  unfold vE vK at h
  rw [hk] at h
  simp only [Bool.and_eq_true] at h
  have := h.2.2
  simp at this
  exact in_range this.2
theorem vE_task {x : En} (h : vE x = true) : 0 ≤ x.task ∧ x.task ≤ 31 := by
  unfold vE at h
  simp only [Bool.and_eq_true] at h
  have h1 := h.1
  split at h1
  · have : x.task = 0 := by simpa using h1
    omega
  · have := in_range h1
    omega


end Go.Proofs.Ytdejceojhkdjnaa
