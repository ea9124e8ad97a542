/-
  Walks of the byte queue (ring.Bytes): NewBytes, Len, Free, Put, Peek, Take: the queue's content is a list of bytes.
  Conditions: the queue is known whole; what is put lies in other memory than the queue's.
-/
import Derived.Test.YtljfblnpgeconaaRows
import Derived.Test.YtljfblnpgeconaaClone
import Derived.Deep.QuietTactic
import Derived.BigQuiet
import Derived.Lib.Hide
import Derived.Deep.DeepMust
import Derived.Deep.RegionHeld3
import Derived.IntWalk
namespace Go.Proofs.Ytljfblnpgeconaa
open Go.RowKit

/-- The byte queue at block p with its ring in block g: of this size, with this content, from this place on. -/
structure RBf (w : World) (p g size first : Nat) (ring c : List UInt8) : Prop where
  tb : Blk w p 84 #[.slice (some ⟨g, 0, none⟩) size size, .int .i64 first, .int .i64 c.length]
  sb : Blk w g 5 (bcells ring).toArray
  len : ring.length = size
  pos : 1 ≤ size
  most : size ≤ 4096
  fst : first < size
  room : c.length ≤ size
  cont : ∀ i, i < c.length → ring[(first + i) % size]? = c[i]?
def RB (w : World) (p g size : Nat) (c : List UInt8) : Prop := ∃ first ring, RBf w p g size first ring c

def TwoB (p g : Nat) : Nat → Prop := fun x => x = p ∨ x = g

section
variable {w w' : World} {p g size first : Nat} {ring c : List UInt8}
theorem RBf.ne (h : RBf w p g size first ring c) : p ≠ g := h.tb.ne_ h.sb (by decide)
theorem RBf.only {S : Nat → Prop} (h : RBf w p g size first ring c) (hO : Only S w w') (hp : ¬ S p) (hg : ¬ S g) : RBf w' p g size first ring c :=
  ⟨h.tb.only hO hp, h.sb.only hO hg, h.len, h.pos, h.most, h.fst, h.room, h.cont⟩
theorem RB.only {S : Nat → Prop} (h : RB w p g size c) (hO : Only S w w') (hp : ¬ S p) (hg : ¬ S g) : RB w' p g size c := by
  obtain ⟨f, r, h⟩ := h; exact ⟨f, r, h.only hO hp hg⟩
theorem RB.onlyNil (h : RB w p g size c) (hO : Only Nil w w') : RB w' p g size c := h.only hO (fun x => x) (fun x => x)
theorem RB.drewN (h : RB w p g size c) (n : Nat) : RB (w.drewN n) p g size c := by
  obtain ⟨f, r, h⟩ := h; exact ⟨f, r, ⟨h.tb, h.sb, h.len, h.pos, h.most, h.fst, h.room, h.cont⟩⟩
theorem RB.room (h : RB w p g size c) : c.length ≤ size ∧ 1 ≤ size ∧ size ≤ 4096 := by obtain ⟨_, _, h⟩ := h; exact ⟨h.room, h.pos, h.most⟩
theorem RB.lt (h : RB w p g size c) : p < w.heap.size ∧ g < w.heap.size := by obtain ⟨_, _, h⟩ := h; exact ⟨h.tb.lt, h.sb.lt⟩
theorem RBf.cells (h : RBf w p g size first ring c) : w.cell? ⟨p, 0, none⟩ = some (.slice (some ⟨g, 0, none⟩) size size) ∧ w.cell? ⟨p, 1, none⟩ = some (.int .i64 first) ∧ w.cell? ⟨p, 2, none⟩ = some (.int .i64 c.length) := by
  rw [h.tb.cell, h.tb.cell, h.tb.cell]; exact ⟨rfl, rfl, rfl⟩
theorem RBf.at_ (h : RBf w p g size first ring c) {i : Nat} (hi : i < size) : ∃ b, ring[i]? = some b ∧ w.cell? ⟨g, i, none⟩ = some (.int .u8 (b.toNat : Int)) := by
  have hl : i < ring.length := by rw [h.len]; exact hi
  refine ⟨ring[i], List.getElem?_eq_getElem hl, ?_⟩
  rw [h.sb.cell, List.getElem?_toArray, bcells_get, List.getElem?_eq_getElem hl]; rfl
end

theorem mod_wrap {x s : Nat} (h : x < 2 * s) : x % s = if x < s then x else x - s := by
  split
  · rename_i h1; exact Nat.mod_eq_of_lt h1
  · rename_i h1; rw [Nat.mod_eq_sub_mod (by omega), Nat.mod_eq_of_lt (by omega)]

/-- One byte more. -/
theorem RBf.push {w : World} {p g size first : Nat} {ring c : List UInt8} (h : RBf w p g size first ring c) (b : UInt8) (hc : c.length < size) {q : Nat} (hq : (first + c.length) % size = q) :
    RBf ((w.setCell ⟨g, q, none⟩ (.int .u8 (b.toNat : Int))).setCell ⟨p, 2, none⟩ (.int .i64 ((c.length : Int) + 1))) p g size first (ring.set q b) (c ++ [b]) := by
  have hf := h.fst
  have hr := h.room
  have hqs : q < size := by rw [← hq]; exact Nat.mod_lt _ h.pos
  refine ⟨?_, ?_, by rw [List.length_set]; exact h.len, h.pos, h.most, h.fst, by simp; omega, fun i hi => ?_⟩
  · have := (h.tb.far (p := ⟨g, q, none⟩) h.ne (.int .u8 (b.toNat : Int))).set_ 2 (.int .i64 ((c.length : Int) + 1))
    simpa using this
  · have := (h.sb.set_ q (.int .u8 (b.toNat : Int))).far (p := ⟨p, 2, none⟩) (Ne.symm h.ne) (.int .i64 ((c.length : Int) + 1))
    have e : (bcells ring).toArray.setIfInBounds q (.int .u8 (b.toNat : Int)) = (bcells (ring.set q b)).toArray := by simp [bcells, List.map_set]
    rwa [e] at this
  · rw [List.length_append, List.length_singleton] at hi
    rw [List.getElem?_set]
    rw [mod_wrap (by omega)] at hq
    rw [mod_wrap (by omega)]
    by_cases e : i = c.length
    · subst e
      rw [if_pos (by rw [hq]), if_pos (by rw [h.len]; exact hqs), List.getElem?_append_right (Nat.le_refl _)]
      simp
    · rw [if_neg (by split at hq <;> split <;> omega), List.getElem?_append_left (by omega), ← h.cont i (by omega), mod_wrap (by omega)]

theorem newBytes_no (n : Int) (w : World) (h : n < 1 ∨ 4096 < n) :
    Calls Try.prog 11 #[.int .i64 n] w fun e w' => e = .returned (.tuple #[.pointer none, .int .i64 2]) ∧ w' = w := by
  rcases h with h | h
  · go_enter Try.func11, Try.ntmps11
    go_wp2
    go_ret2
    exact ⟨rfl, rfl⟩
  · have h' : ¬ n < 1 := by omega
    go_enter Try.func11, Try.ntmps11
    go_wp2
    go_ret2
    exact ⟨rfl, rfl⟩

theorem zeros_new (n : Nat) : (bcells (List.replicate n 0)).toArray = madeCells (Value.cells (.int .u8 0)) n := by
  apply Array.ext_getElem?
  intro j
  simp only [List.getElem?_toArray, bcells_get, List.getElem?_replicate]
  unfold madeCells
  rw [Array.getElem?_map, Array.getElem?_range]
  by_cases hj : j < n
  · rw [if_pos hj, if_pos hj]
    have : j % (Value.cells (.int .u8 0)).size = 0 := by simp [Value.cells, Nat.mod_one]
    simp [this]
    rfl
  · rw [if_neg hj, if_neg hj]; rfl

set_option maxHeartbeats 400000 in
theorem newBytes_any (n : Nat) (w : World) (h0 : 1 ≤ n) (h1 : n ≤ 4096) :
    Calls Try.prog 11 #[.int .i64 n] w fun e w' => e = .returned (.tuple #[.pointer (some ⟨w.heap.size + 1, 0, none⟩), .int .i64 0]) ∧ RB w' (w.heap.size + 1) w.heap.size n [] ∧ Only Nil w w' := by
  have hmk : ∀ w : World, (Instr.makeSlice 29 (.int .i64 (n : Int)) (.int .i64 (n : Int))).run Try.prog w = .ok (.slice (some ⟨w.heap.size, 0, none⟩) n n) (w.alloc (.cells (bcells (List.replicate n 0)).toArray 5)) := by
    intro w
    obtain ⟨i0, hi, hz0, hz1, hz2⟩ := info_parts byte_info
    rw [run_make_rowN _ 5 i0 _ Try.underlying29 hi hz0 _ _ n n (Nat.le_refl _) (by rw [hz2]; omega) (by omega) w, hz1, Nat.mul_one, zeros_new]
  go_enter Try.func11, Try.ntmps11
  go_wp2
  go_ret2
  have hT : RBf ((w.alloc (.cells (bcells (List.replicate n 0)).toArray 5)).alloc (.cells #[.slice (some ⟨w.heap.size, 0, none⟩) n n, .int .i64 0, .int .i64 0] 84)) (w.heap.size + 1) w.heap.size n 0 (List.replicate n 0) [] := by
    refine ⟨?_, (Blk.new w _ _).alloc _, by simp, h0, h1, by omega, by simp, fun i hi => absurd hi (by simp)⟩
    have := Blk.new (w.alloc (.cells (bcells (List.replicate n 0)).toArray 5)) 84 #[.slice (some ⟨w.heap.size, 0, none⟩) n n, .int .i64 0, .int .i64 0]
    simpa using this
  exact ⟨rfl, ⟨_, _, hT⟩, ((Only.refl _ _).alloc _).alloc _⟩

theorem len_nil (w : World) : Calls Try.prog 18 #[.pointer none] w fun e w' => e = .returned (.int .i64 0) ∧ w' = w := by
  go_enter Try.func18, Try.ntmps18
  go_wp2
  go_ret
  exact ⟨rfl, rfl⟩
theorem len_any {p g size : Nat} {c : List UInt8} (w : World) (h : RB w p g size c) : Calls Try.prog 18 #[.pointer (some ⟨p, 0, none⟩)] w fun e w' => e = .returned (.int .i64 c.length) ∧ w' = w := by
  obtain ⟨first, ring, h⟩ := h
  obtain ⟨c0, c1, c2⟩ := h.cells
  clear h
  go_enter Try.func18, Try.ntmps18
  go_wp2
  go_ret
  exact ⟨rfl, rfl⟩
theorem free_nil (w : World) : Calls Try.prog 14 #[.pointer none] w fun e w' => e = .returned (.int .i64 0) ∧ w' = w := by
  go_enter Try.func14, Try.ntmps14
  go_wp2
  go_ret
  exact ⟨rfl, rfl⟩
theorem free_any {p g size : Nat} {c : List UInt8} (w : World) (h : RB w p g size c) : Calls Try.prog 14 #[.pointer (some ⟨p, 0, none⟩)] w fun e w' => e = .returned (.int .i64 ((size : Int) - c.length)) ∧ ∃ n, w' = w.drewN n := by
  obtain ⟨first, ring, h⟩ := h
  obtain ⟨c0, c1, c2⟩ := h.cells
  have h1 := h.room
  have h2 := h.most
  have hw : wrap64 ((size : Int) - c.length) = (size : Int) - c.length := wrap64_fit _ (by omega)
  have HW := Lib.hid hw
  clear h hw
  go_enter Try.func14, Try.ntmps14
  go_wp2
  go_quiet (fail)
  go_wp2
  go_ret
  exact ⟨rfl, _, rfl⟩

set_option maxHeartbeats 1000000 in
theorem put_any {p g size : Nat} {c b : List UInt8} {A : Option Addr} {cap : Nat} (w : World) (h : RB w p g size c) (hb : Bs w w.heap.size A b) (hs : 0 < b.length → ∀ a, A = some a → ¬ TwoB p g a.block) (hbl : b.length ≤ 9223372036854775807) :
    Calls Try.prog 13 #[.pointer (some ⟨p, 0, none⟩), .slice A b.length cap] w fun e w' => e = .returned (.int .i64 (min b.length (size - c.length) : Nat)) ∧ RB w' p g size (c ++ b.take (size - c.length)) ∧ Only (TwoB p g) w w' := by
  obtain ⟨hr1, hr2, hr3⟩ := h.room
  have HH := Lib.hid h
  have HB := Lib.hid hb
  have HS := Lib.hid hs
  obtain ⟨K, hK⟩ : ∃ K, K = min b.length (size - c.length) := ⟨_, rfl⟩
  have hK1 : K ≤ b.length := by omega
  have hK2 : K ≤ size - c.length := by omega
  have HK := Lib.hid hK
  rw [← hK]
  clear h hb hs hK
  go_enter Try.func13, Try.ntmps13
  go_wp2_with fail
  refine (free_any _ HH.out).mono ?_
  rintro e w1 ⟨rfl, n1, rfl⟩
  obtain ⟨F, hF⟩ : ∃ F : Nat, (size : Int) - c.length = F := ⟨size - c.length, by omega⟩
  have HF := Lib.hid hF
  have hkk := HK.out
  by_cases hlt : F < b.length
  all_goals
    first
      | (have hFK : (F : Int) = K := by omega
         have hlt' : (K : Int) < b.length := by omega
         clear hlt hkk
         go_wp2_with fail
         clear hF hFK hlt')
      | (have hbK : (b.length : Int) = K := by omega
         have hlt' : ¬ (F : Int) < K := by omega
         clear hlt hkk
         go_wp2_with fail
         clear hF hbK hlt')
    go_loopw [13] (fun i wr => ∃ k : Nat, k ≤ K ∧ i = .int .i64 k ∧ RB wr p g size (c ++ b.take k) ∧ Only (TwoB p g) w wr) (fun i _ => K - (intOf i).toNat)
    case atStart => exact ⟨0, Nat.zero_le _, rfl, by simpa using HH.out.drewN _, (Only.refl _ _).drewN _⟩
    case round =>
      obtain ⟨k, hk, rfl, hR, hO⟩ := hrel
      have HO := Lib.hid hO
      have HR := Lib.hid hR
      clear hO hR
      by_cases hlt : k < K
      · obtain ⟨first, ring, hf⟩ := HR.out
        have hkb : k < b.length := by omega
        have hcl : (c ++ b.take k).length = c.length + k := by rw [List.length_append, List.length_take]; omega
        have hBr : Bs wr w.heap.size A b := HB.out.sep HO.out (Nat.le_refl _) HS.out
        obtain ⟨x, hx⟩ : ∃ x, b[k]? = some x := ⟨b[k], List.getElem?_eq_getElem hkb⟩
        obtain ⟨gb, ob, rfl, hgb, hcx⟩ := hBr.at_ hx
        have hnp : ¬ TwoB p g gb := HS.out (by omega) _ rfl
        obtain ⟨q, hq⟩ : ∃ q, (first + (c ++ b.take k).length) % size = q := ⟨_, rfl⟩
        have hqs : q < size := by rw [← hq]; exact Nat.mod_lt _ (by omega)
        have hpu := hf.push x (by rw [hcl]; omega) hq
        obtain ⟨y, _, hcy⟩ := hf.at_ hqs
        obtain ⟨c0, c1, c2⟩ := hf.cells
        have f1 := hf.sb.frozen q
        have f2 := hf.tb.frozen 2
        have hne := hf.ne
        have hfs := hf.fst
        have hsn : b.take (k + 1) = b.take k ++ [x] := by
          have e : b[k] = x := (List.getElem?_eq_some_iff.1 hx).2
          rw [List.take_succ_eq_append_getElem hkb, e]
        rw [List.append_assoc, ← hsn] at hpu
        have hnn : (c ++ b.take k).length < size := by rw [hcl]; omega
        generalize (c ++ b.take k).length = nn at *
        have hqi : ((first : Int) + (nn : Int)) % (size : Int) = q := by rw [← hq, Int.natCast_emod, Int.natCast_add]
        have HP := Lib.hid hpu
        have hng : gb ≠ g := fun e => hnp (.inr e)
        have hngp : gb ≠ p := fun e => hnp (.inl e)
        have hwr : IntKind.i64.wrap ((first : Int) + (nn : Int)) = (first : Int) + nn := IntWalk.i64_in _ (by omega)
        have hq0 : (0 : Int) ≤ (q : Int) := by omega
        have hq1 : (q : Int) < (size : Int) := by omega
        have hk0 : (0 : Int) ≤ (k : Int) := by omega
        have hk1 : (k : Int) < (b.length : Int) := by omega
        have hqt : Int.tmod ((first : Int) + (nn : Int)) (size : Int) = q := by rw [Int.tmod_eq_emod_of_nonneg (by omega)]; exact hqi
        have hz0 : ¬ size = 0 := by omega
        have hwq : IntKind.i64.wrap (q : Int) = q := IntWalk.i64_in _ (by omega)
        have hoth : ∀ a : Addr, a.block ≠ g → (wr.setCell ⟨g, q, none⟩ (.int .u8 (x.toNat : Int))).drew.cell? a = wr.cell? a := fun a ha => World.cell?_setCell_other wr ⟨g, q, none⟩ a _ (fun e => ha (by rw [← e]))
        have hks := And.intro ((hoth ⟨p, 0, none⟩ hne).trans c0) (And.intro ((hoth ⟨p, 1, none⟩ hne).trans c1) (And.intro ((hoth ⟨p, 2, none⟩ hne).trans c2) ((hoth ⟨gb, ob + k, none⟩ hng).trans hcx)))
        have KS := Lib.hid hks
        clear hf hpu hsn hcl hq hx hBr hnp HK hoth hks
        go_wp2_with fail
        go_region_held3 (fun w' => w'.cell? ⟨p, 0, none⟩ = some (.slice (some ⟨g, 0, none⟩) size size) ∧ w'.cell? ⟨p, 1, none⟩ = some (.int .i64 first) ∧ w'.cell? ⟨p, 2, none⟩ = some (.int .i64 nn) ∧ w'.cell? ⟨gb, ob + k, none⟩ = some (.int .u8 (x.toNat : Int))) (first | exact KS.out | go_keep) (fail)
        clear hwr hqi hqt hz0 hwq
        go_wp2_with fail
        go_roundw
        case rel => exact ⟨k + 1, by omega, by go_num, (show RB _ p g size _ from ⟨_, _, HP.out⟩).drewN 1, ((HO.out.setCell (p := ⟨g, q, none⟩) (.inl (.inr rfl)) _).setCell (p := ⟨p, 2, none⟩) (.inl (.inl rfl)) _).drew⟩
        case measure => simp [intOf] <;> omega
      · obtain rfl : k = K := by omega
        clear hlt hk
        go_wp2_with fail
        go_ret
        have e : b.take (size - c.length) = b.take k := by
          rw [HK.out]
          rcases Nat.le_total b.length (size - c.length) with h1 | h1
          · rw [Nat.min_eq_left h1, List.take_of_length_le h1, List.take_length]
          · rw [Nat.min_eq_right h1]
        exact ⟨rfl, by rw [e]; exact HR.out, HO.out⟩

end Go.Proofs.Ytljfblnpgeconaa
