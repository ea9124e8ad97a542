/-
  Walks of the methods of slots.Table (handle, find, New): what each call returns and does to memory, at any table that is known whole.
  Conditions: the table is fine (sizes from 1 to 200, generations in their limits).
-/
import Derived.Test.YtoicdaoappiglaaRows
import Derived.Test.YtoicdaoappiglaaMem
import Derived.Test.YtoicdaoappiglaaSlP
import Derived.Deep.QuietTactic
import Derived.BigQuiet
import Derived.Lib.Hide
import Derived.Deep.DeepMust
namespace Go.Proofs.Ytoicdaoappiglaa
open Go.RowKit

/-- The table at block p, its slots in block g. -/
structure Tab (w : World) (p g : Nat) (l : Tbl) : Prop where
  tb : Blk w p 49 #[.slice (some ⟨g, 0, none⟩) l.length l.length]
  sb : Blk w g 51 (cellsT l).toArray
  fine : Fine l

theorem Tab.hdr {w : World} {p g : Nat} {l : Tbl} (h : Tab w p g l) : w.cell? ⟨p, 0, none⟩ = some (.slice (some ⟨g, 0, none⟩) l.length l.length) := by
  rw [h.tb.cell]; rfl
theorem Tab.cells {w : World} {p g : Nat} {l : Tbl} (h : Tab w p g l) {i : Nat} (hi : i < l.length) :
    w.cell? ⟨g, i * 3, none⟩ = some (.int .i64 (at_ l i).gen) ∧ w.cell? ⟨g, i * 3 + 1, none⟩ = some (.int .i64 (at_ l i).val) ∧ w.cell? ⟨g, i * 3 + 2, none⟩ = some (.bool (at_ l i).used) := by
  have h0 := cellsT_at l i 0 hi (by omega)
  have h1 := cellsT_at l i 1 hi (by omega)
  have h2 := cellsT_at l i 2 hi (by omega)
  simp only [h.sb.cell, List.getElem?_toArray]
  exact ⟨h0, h1, h2⟩
theorem Tab.ne {w : World} {p g : Nat} {l : Tbl} (h : Tab w p g l) : p ≠ g := h.tb.ne_ h.sb (by decide)
theorem Tab.only {S : Nat → Prop} {w w' : World} {p g : Nat} {l : Tbl} (h : Tab w p g l) (hb : Only S w w') (hp : ¬ S p) (hg : ¬ S g) : Tab w' p g l := ⟨h.tb.only hb hp, h.sb.only hb hg, h.fine⟩
theorem Tab.onlyNil {w w' : World} {p g : Nat} {l : Tbl} (h : Tab w p g l) (hb : Only Nil w w') : Tab w' p g l := h.only hb (fun x => x) (fun x => x)

set_option maxHeartbeats 400000 in
theorem handle_any {p g : Nat} {l : Tbl} (i : Nat) (w : World) (h : Tab w p g l) (hi : i < l.length) :
    Calls Try.prog 15 #[.pointer (some ⟨p, 0, none⟩), .int .i64 i] w fun e w' => e = .returned (.int .i64 (hdl l i)) ∧ ∃ m, w' = w.drewN m := by
  have hp := h.hdr
  obtain ⟨hc, _, _⟩ := h.cells hi
  have hl := h.fine.2.1
  have hb := hdl_bd h.fine i hi
  have hf : wrap64 (wrap64 ((at_ l i).gen * l.length) + i) = hdl l i := by
    rw [wrap64_fit ((at_ l i).gen * l.length) (by omega), wrap64_fit _ (by omega)]; rfl
  have HF := Lib.hid hf
  clear hf hb h
  go_enter Try.func15, Try.ntmps15
  go_wp2
  go_quiet (fail)
  go_wp2
  go_ret
  exact ⟨by rw [HF.out]; rfl, _, rfl⟩

set_option maxHeartbeats 400000 in
theorem find_nil (h : Int) (w : World) :
    Calls Try.prog 16 #[.pointer none, .int .i64 h] w fun e w' => e = .returned (.pointer none) ∧ w' = w := by
  go_enter Try.func16, Try.ntmps16
  go_wp2
  go_ret
  exact ⟨rfl, rfl⟩

def findP (g : Nat) (l : Tbl) (h : Int) : Option Addr := match findT l h with | some i => some ⟨g, i * 3, none⟩ | none => none

set_option maxHeartbeats 400000 in
theorem find_any {p g : Nat} {l : Tbl} (h : Int) (w : World) (ht : Tab w p g l) :
    Calls Try.prog 16 #[.pointer (some ⟨p, 0, none⟩), .int .i64 h] w fun e w' => e = .returned (.pointer (findP g l h)) ∧ ∃ m, w' = w.drewN m := by
  by_cases h0 : h < 0
  · go_enter Try.func16, Try.ntmps16
    go_wp2
    go_ret
    exact ⟨by unfold findP findT; rw [if_neg (by omega)]; rfl, 0, rfl⟩
  · have hl0 := ht.fine.1
    have hl := ht.fine.2.1
    obtain ⟨i, hi⟩ : ∃ i : Nat, h % l.length = i := ⟨(h % l.length).toNat, by have := Int.emod_nonneg h (show (l.length : Int) ≠ 0 by omega); omega⟩
    have hil : i < l.length := by have := Int.emod_lt_of_pos h (show (0 : Int) < l.length by omega); omega
    have hp := ht.hdr
    have HT := Lib.hid ht
    obtain ⟨_, _, hc⟩ := ht.cells hil
    have hF : findP g l h = if (at_ l i).used = true ∧ hdl l i = h then some ⟨g, i * 3, none⟩ else none := by
      unfold findP findT
      rw [hi, Int.toNat_natCast]
      by_cases hx : (at_ l i).used = true ∧ hdl l i = h
      · rw [if_pos ⟨by omega, hx⟩, if_pos hx]
      · rw [if_neg (fun e => hx e.2), if_neg hx]
    have HF := Lib.hid hF
    clear hF ht
    by_cases hu : (at_ l i).used = true
    · by_cases he : hdl l i = h
      · have he' : (hdl l i == h) = true := by simp [he]
        have HE := Lib.hid he
        clear he
        go_enter Try.func16, Try.ntmps16
        go_wp2_with fail
        refine (handle_any i _ HT.out hil).mono ?_
        rintro e w' ⟨rfl, m, rfl⟩
        go_wp2
        go_ret
        exact ⟨by rw [HF.out, if_pos ⟨hu, HE.out⟩]; rfl, m, rfl⟩
      · have he' : (hdl l i == h) = false := by simp [he]
        have HE := Lib.hid he
        clear he
        go_enter Try.func16, Try.ntmps16
        go_wp2_with fail
        refine (handle_any i _ HT.out hil).mono ?_
        rintro e w' ⟨rfl, m, rfl⟩
        go_wp2
        go_ret
        exact ⟨by rw [HF.out, if_neg (fun x => HE.out x.2)]; rfl, m, rfl⟩
    · have hu' : (at_ l i).used = false := by simpa using hu
      clear hu
      go_enter Try.func16, Try.ntmps16
      go_wp2_with fail
      go_ret
      exact ⟨by rw [HF.out, if_neg (by simp [hu'])]; rfl, 0, rfl⟩

theorem slot_info : (Try.prog.info? 51).map (fun i => (i.zero, i.size, i.bytes)) = some (some (.agg #[.int .i64 0, .int .i64 0, .bool false]), 3, 24) := by kernel_rfl

theorem new_no (n : Int) (w : World) (h : n < 1 ∨ 200 < n) :
    Calls Try.prog 8 #[.int .i64 n] w fun e w' => e = .returned (.tuple #[.pointer none, .int .i64 2]) ∧ w' = w := by
  rcases h with h | h
  · go_enter Try.func8, Try.ntmps8
    go_wp2
    go_ret2
    exact ⟨rfl, rfl⟩
  · have h' : ¬ n < 1 := by omega
    go_enter Try.func8, Try.ntmps8
    go_wp2
    go_ret2
    exact ⟨rfl, rfl⟩

theorem cells_new (n : Nat) : (cellsT (List.replicate n zSlot)).toArray = madeCells (Value.cells (.agg #[.int .i64 0, .int .i64 0, .bool false])) (n * 3) := by
  apply Array.ext_getElem?
  intro j
  simp only [List.getElem?_toArray]
  by_cases hj : j < n * 3
  · have hz : at_ (List.replicate n zSlot) (j / 3) = zSlot := by
      unfold at_
      rw [List.getD_eq_getElem?_getD, List.getElem?_replicate]
      split <;> rfl
    have h1 := cellsT_at (List.replicate n zSlot) (j / 3) (j % 3) (by simp; omega) (by omega)
    rw [show j / 3 * 3 + j % 3 = j by omega, hz] at h1
    rw [h1]
    have h2 : (madeCells (Value.cells (.agg #[.int .i64 0, .int .i64 0, .bool false])) (n * 3))[j]? = some ((Value.cells (.agg #[.int .i64 0, .int .i64 0, .bool false]))[j % 3]!) := by
      unfold madeCells
      rw [Array.getElem?_map, Array.getElem?_range, if_pos hj]; rfl
    rw [h2]
    have h3 : j % 3 = 0 ∨ j % 3 = 1 ∨ j % 3 = 2 := by omega
    rcases h3 with h3 | h3 | h3 <;> rw [h3] <;> rfl
  · rw [List.getElem?_eq_none (by rw [cellsT_length]; simp; omega)]
    unfold madeCells
    rw [Array.getElem?_eq_none (by simp; omega)]

set_option maxHeartbeats 400000 in
theorem new_any (n : Nat) (w : World) (h0 : 0 < n) (h1 : n ≤ 200) :
    Calls Try.prog 8 #[.int .i64 n] w fun e w' => e = .returned (.tuple #[.pointer (some ⟨w.heap.size + 1, 0, none⟩), .int .i64 0]) ∧ Tab w' (w.heap.size + 1) w.heap.size (List.replicate n zSlot) ∧ Only Nil w w' := by
  have hmk : ∀ w : World, (Instr.makeSlice 47 (.int .i64 (n : Int)) (.int .i64 (n : Int))).run Try.prog w = .ok (.slice (some ⟨w.heap.size, 0, none⟩) n n) (w.alloc (.cells (cellsT (List.replicate n zSlot)).toArray 51)) := by
    intro w
    obtain ⟨i0, hi, hz0, hz1, hz2⟩ := info_parts slot_info
    rw [run_make_rowN _ 51 i0 _ Try.underlying47 hi hz0 _ _ n n (Nat.le_refl _) (by rw [hz2]; omega) (by omega) w, hz1, cells_new]
  go_enter Try.func8, Try.ntmps8
  go_wp2
  go_ret2
  have hT : Tab ((w.alloc (.cells (cellsT (List.replicate n zSlot)).toArray 51)).alloc (.cells #[.slice (some ⟨w.heap.size, 0, none⟩) n n] 49)) (w.heap.size + 1) w.heap.size (List.replicate n zSlot) := by
    refine ⟨?_, (Blk.new w _ _).alloc _, Fine.new n h0 h1⟩
    have := Blk.new (w.alloc (.cells (cellsT (List.replicate n zSlot)).toArray 51)) 49 #[.slice (some ⟨w.heap.size, 0, none⟩) n n]
    simpa using this
  exact ⟨rfl, hT, ((Only.refl _ _).alloc _).alloc _⟩

end Go.Proofs.Ytoicdaoappiglaa
