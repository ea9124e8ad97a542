/-
  Walks of ratoonref54: first, next.
  Conditions: the states lie in a block that is known; the entry can be read.
-/
import Derived.Test.YtdejceojhkdjnaaRpW5
import Derived.Test.YtdejceojhkdjnaaRpR1
import Derived.Deep.Cut
import Derived.Deep.DeepCutAuto
namespace Go.Proofs.Ytdejceojhkdjnaa
open Go.RowKit

/-- The state of a task as the reference has it. -/
def PS.rcall (t : PS) : Int := if t.calling = true then t.call else -1
def PS.rc (t : PS) : List Value := [.bool t.there, .bool t.closed, .int .i64 t.rcall]
theorem PS.rc_len (t : PS) : t.rc.length = 3 := rfl
theorem PS.rc_one (r : PS) : ∀ u ∈ r.rc, u.oneCell' = true := by
  intro u hu
  simp only [PS.rc, List.mem_cons, List.not_mem_nil, or_false] at hu
  rcases hu with rfl | rfl | rfl <;> rfl
theorem rstate_info : (Try.prog.info? 60).map (fun i => (i.zero, i.size, i.bytes)) = some (some (.agg #[.bool false, .bool false, .int .i64 0]), 3, 16) := by kernel_rfl
theorem rstate_zero (w : World) : (zeroValue 60).run Try.prog w = .ok (.agg #[.bool false, .bool false, .int .i64 0]) w := by kernel_rfl

/-- The states of the reference at block g. -/
structure SR (w : World) (g : Nat) (s : List PS) : Prop where
  len : s.length = 32
  blk : ∃ cur : Array Value, Blk w g 60 cur ∧ cur.toList.take 96 = s.flatMap PS.rc
theorem SR.flat {s : List PS} (h : s.length = 32) : (s.flatMap PS.rc).length = 96 := by rw [flat_length PS.rc_len, h]
theorem SR.onlyNil {w w' : World} {g : Nat} {s : List PS} (h : SR w g s) (hO : Only Nil w w') : SR w' g s := by
  obtain ⟨cur, hb, ht⟩ := h.blk
  exact ⟨h.len, cur, hb.onlyNil hO, ht⟩
theorem SR.lt {w : World} {g : Nat} {s : List PS} (h : SR w g s) : g < w.heap.size := by
  obtain ⟨cur, hb, ht⟩ := h.blk
  exact hb.lt
theorem SR.frozen {w : World} {g : Nat} {s : List PS} (h : SR w g s) (i : Nat) : w.frozen? ⟨g, i, none⟩ = false := by
  obtain ⟨cur, hb, ht⟩ := h.blk
  exact hb.frozen i
theorem SR.get {w : World} {g : Nat} {s : List PS} (h : SR w g s) (j : Nat) (hj : j < 96) : w.cell? ⟨g, j, none⟩ = (s.flatMap PS.rc)[j]? := by
  obtain ⟨cur, hb, ht⟩ := h.blk
  rw [hb.cell, ← ht, List.getElem?_take_of_lt hj, Array.getElem?_toList]
theorem SR.cell {w : World} {g : Nat} {s : List PS} (h : SR w g s) {k : Nat} {t : PS} (hk : s[k]? = some t) :
    w.cell? ⟨g, k * 3, none⟩ = some (.bool t.there) ∧ w.cell? ⟨g, k * 3 + 1, none⟩ = some (.bool t.closed) ∧ w.cell? ⟨g, k * 3 + 2, none⟩ = some (.int .i64 t.rcall) := by
  have hlt : k < 32 := by rw [← h.len]; exact (List.getElem?_eq_some_iff.1 hk).1
  have key : ∀ j, j < 3 → w.cell? ⟨g, k * 3 + j, none⟩ = t.rc[j]? := fun j hj => by
    rw [h.get _ (by omega), flat_get PS.rc_len s k j hj, hk]
    rfl
  exact ⟨key 0 (by omega), key 1 (by omega), key 2 (by omega)⟩
theorem SR.rd {w : World} {g : Nat} {s : List PS} (h : SR w g s) : Rd w w.heap.size 3 (some ⟨g, 0, none⟩) 32 (s.flatMap PS.rc) :=
  ⟨by rw [flat_length PS.rc_len, h.len], fun _ => ⟨g, 0, rfl, h.lt, fun j u hu => by
    rw [Nat.zero_add, h.get j (by have := (List.getElem?_eq_some_iff.1 hu).1; rw [SR.flat h.len] at this; exact this)]
    exact hu⟩⟩
theorem SR.of_own {w : World} {base : Nat} {A : Option Addr} {c : Nat} {s : List PS} (h : w.ownsRow base 60 3 (.slice A 32 c) 32 (s.flatMap PS.rc)) (hl : s.length = 32) :
    ∃ g, A = some ⟨g, 0, none⟩ ∧ base ≤ g ∧ SR w g s := by
  rcases h.2 with ⟨_, h0⟩ | ⟨g, cap, cur, hv, hb, hh, _, _, _, ht⟩
  · cases h0
  · injection hv with e1 e2 e3
    exact ⟨g, e1, hb, hl, cur, hh, ht⟩
theorem SR.set_ {w : World} {g : Nat} {s : List PS} (h : SR w g s) {k : Nat} {t : PS} (hk : s[k]? = some t) (j : Nat) (hj : j < 3) (u : Value) (t' : PS) (ht : t.rc.set j u = t'.rc) : SR (w.setCell ⟨g, k * 3 + j, none⟩ u) g (s.set k t') := by
  obtain ⟨cur, hb, hc⟩ := h.blk
  refine ⟨by rw [List.length_set]; exact h.len, _, hb.set_ (k * 3 + j) u, ?_⟩
  rw [Array.toList_setIfInBounds, List.take_set, hc, ← flat_set PS.rc_len s k j u t t' hk hj ht]
theorem SR.start {w : World} {g k : Nat} {s : List PS} {t : PS} (h : SR w g s) (hk : s[k]? = some t) : SR w g (s.set k t) := by
  have : s.set k t = s := by
    apply List.ext_getElem?
    intro i
    rw [List.getElem?_set]
    split
    · rename_i e; subst e
      split
      · exact hk.symm
      · rename_i hn; rw [List.getElem?_eq_none (by omega)]
    · rfl
  rw [this]
  exact h
theorem SR.step {w : World} {g k : Nat} {s : List PS} {t : PS} (h : SR w g (s.set k t)) (hk : k < s.length) (j : Nat) (hj : j < 3) (u : Value) (t' : PS) (ht : t.rc.set j u = t'.rc) : SR (w.setCell ⟨g, k * 3 + j, none⟩ u) g (s.set k t') := by
  have := h.set_ (k := k) (t := t) (by simp [hk]) j hj u t' ht
  rwa [List.set_set] at this
theorem SR.drewN_ {w : World} {g : Nat} {s : List PS} (h : SR w g s) (n : Nat) : SR (w.drewN n) g s := h.onlyNil ((Only.refl _ _).drewN n)

/-- What a task is in is a system call. -/
def CallsOk (s : List PS) : Prop := ∀ t ∈ s, t.calling = true → 0 ≤ t.call
theorem CallsOk.init : CallsOk initS := by
  intro t ht
  have : ∀ t ∈ initS, t.calling = false := by decide
  intro hc
  rw [this t ht] at hc
  cases hc
theorem vE_call {x : En} (h : vE x = true) (hk : x.kind = 1 ∨ x.kind = 2) : 0 ≤ x.call := by
  unfold vE vK at h
  simp only [Bool.and_eq_true] at h
  have h2 := h.2.2
  rcases hk with hk | hk <;> rw [hk] at h2 <;> simp at h2 <;> exact (in_range h2.1).1
theorem CallsOk.step {s : List PS} (h : CallsOk s) (x : En) : CallsOk (entS s x) := by
  unfold entS
  split
  · rename_i hv
    have hm : ∀ {k : Nat} {u : PS}, (u.calling = true → 0 ≤ u.call) → CallsOk (s.set k u) := fun hu t ht hc => by
      rcases List.mem_or_eq_of_mem_set ht with h1 | h1
      · exact h t h1 hc
      · rw [h1] at hc ⊢; exact hu hc
    have hg : ∀ k, (s.getD k zPS).calling = true → 0 ≤ (s.getD k zPS).call := fun k hc => by
      cases hk : s[k]? with
      | none =>
        have e : s.getD k zPS = zPS := by rw [List.getD_eq_getElem?_getD, hk]; rfl
        rw [e] at hc; cases hc
      | some t =>
        rw [getD_of hk] at hc ⊢
        exact h t (List.mem_of_getElem? hk) hc
    unfold stepS
    dsimp only
    split
    · rename_i hk; exact hm (fun _ => vE_call hv (.inl hk))
    · split
      · exact hm (fun hc => by cases hc)
      · split
        · exact hm (fun hc => by cases hc)
        · split
          · exact h
          · split
            · exact hm (fun hc => hg _ hc)
            · split
              · exact hm (fun hc => by cases hc)
              · exact h
  · exact h

/-- The states while 'first' sets them. -/
def fL (k : Nat) : List PS := (List.range 32).map fun i => if i < k then zPS else ⟨false, true, false, 0⟩
theorem fL_get {k : Nat} (hk : k < 32) : (fL k)[k]? = some ⟨false, true, false, 0⟩ := by
  unfold fL
  rw [List.getElem?_map, List.getElem?_range hk]
  simp
theorem fL_succ {k : Nat} (hk : k < 32) : (fL k).set k zPS = fL (k + 1) := by
  apply List.ext_getElem?
  intro i
  unfold fL
  rw [List.getElem?_set, List.getElem?_map, List.getElem?_map]
  by_cases hi : i < 32
  · rw [List.getElem?_range hi]
    by_cases h : k = i
    · subst h
      simp [hi]
    · rw [if_neg h]
      have : (i < k) ↔ (i < k + 1) := by omega
      simp [this]
  · rw [List.getElem?_eq_none (by simp; omega)]
    simp
    omega

set_option maxRecDepth 100000 in
set_option maxHeartbeats 2000000 in
theorem Ref.first_any (w : World) : Calls Try.prog 25 #[] w fun e w' => ∃ g, e = .returned (.slice (some ⟨g, 0, none⟩) 32 32) ∧ w.heap.size ≤ g ∧ SR w' g initS ∧ Only Nil w w' := by
  obtain ⟨i0, hi, hz0, hz1, hz2⟩ := info_parts rstate_info
  obtain ⟨Z, hZ⟩ : ∃ Z : Array Value, Z = ((fL 0).flatMap PS.rc).toArray := ⟨_, rfl⟩
  have hmk : ∀ w : World, (Instr.makeSlice 53 (.int .i64 32) (.int .i64 32)).run Try.prog w = .ok (.slice (some ⟨w.heap.size, 0, none⟩) 32 32) (w.alloc (.cells Z 60)) := by
    intro w
    have := run_make_rowN (P := Try.prog) 53 60 i0 _ Try.underlying53 hi hz0 .i64 .i64 32 32 (Nat.le_refl _) (by rw [hz2]; omega) (by omega) w
    rw [hz1] at this
    rw [hZ, show ((fL 0).flatMap PS.rc).toArray = madeCells (Value.cells (.agg #[.bool false, .bool false, .int .i64 0])) (32 * 3) by kernel_rfl]
    exact this
  have h0 : SR (w.alloc (.cells Z 60)) w.heap.size (fL 0) := ⟨rfl, Z, Blk.new _ _ _, by rw [hZ, List.toList_toArray, List.take_of_length_le (by rw [SR.flat rfl]; exact Nat.le_refl _)]⟩
  have H0 := Lib.hid h0
  clear h0 hZ hi hz0 hz1 hz2
  obtain ⟨g, hg⟩ : ∃ g, w.heap.size = g := ⟨_, rfl⟩
  rw [hg] at H0
  have HG := Lib.hid hg
  go_enter Try.func25, Try.ntmps25
  go_wp2_with fail
  go_loopw [2] (fun i wr => ∃ k : Nat, k ≤ 32 ∧ i = .int .i64 k ∧ SR wr g (fL k) ∧ Only Nil w wr) (fun i _ => 32 - (intOf i).toNat)
  case atStart => exact ⟨0, by omega, rfl, H0.out, (Only.refl _ _).alloc _⟩
  case round =>
    obtain ⟨k, hk, rfl, hS, hO⟩ := hrel
    have HS := Lib.hid hS
    have HO := Lib.hid hO
    clear hS hO
    have fg : ∀ i, wr.frozen? ⟨g, i, none⟩ = false := fun i => HS.out.frozen i
    by_cases hlt : k < 32
    · obtain ⟨_, _, c2⟩ := HS.out.cell (fL_get hlt)
      have hki : (k : Int) < 32 := by omega
      go_wp2_with fail
      go_roundw
      case rel =>
        refine ⟨k + 1, by omega, by go_num, ?_, HO.out.trans (S' := fun x => w.heap.size ≤ x) (by (repeat' (first | with_reducible exact Only.refl _ _ | with_reducible refine Only.setCell ?_ (Or.inl ?_) _ | with_reducible refine Only.drewN ?_ _ | with_reducible refine Only.drew ?_ | with_reducible refine Only.alloc ?_ _ | (exact (Nat.le_of_eq HG.out))))) (fun x hx => .inr hx)⟩
        have := HS.out.set_ (fL_get hlt) 2 (by omega) (.int .i64 (-1)) zPS rfl
        rw [fL_succ hlt] at this
        exact this
      case measure => simp [intOf]; omega
    · have hk32 : k = 32 := by omega
      subst hk32
      have c0 : wr.cell? ⟨g, 48, none⟩ = some (.bool false) := (HS.out.cell (k := 16) (t := zPS) rfl).1
      go_wp2_with fail
      go_ret
      exact ⟨g, rfl, Nat.le_of_eq HG.out, HS.out.set_ (k := 16) (t := zPS) rfl 0 (by omega) (.bool true) ⟨true, false, false, 0⟩ rfl, HO.out.trans (S' := fun x => w.heap.size ≤ x) (by (repeat' (first | with_reducible exact Only.refl _ _ | with_reducible refine Only.setCell ?_ (Or.inl ?_) _ | with_reducible refine Only.drewN ?_ _ | with_reducible refine Only.drew ?_ | with_reducible refine Only.alloc ?_ _ | (exact (Nat.le_of_eq HG.out))))) (fun x hx => .inr hx)⟩

/-- What next answers. -/
def NextP (E : Int) (S : List PS) (w : World) (e : Ending) (w' : World) : Prop :=
  ∃ v, e = .returned (.tuple #[v, .int .i64 E]) ∧ (E = 0 → ∃ g' c', v = .slice (some ⟨g', 0, none⟩) 32 c' ∧ w.heap.size ≤ g' ∧ SR w' g' S) ∧ Only Nil w w'
def NextPost (s : List PS) (x : En) : World → Ending → World → Prop := NextP (entE s x) (entS s x)

end Go.Proofs.Ytdejceojhkdjnaa
