/-
  Slices of bytes: read as lists of bytes, opened from an argument, turned into a string.
  No conditions: general laws.
-/
import Derived.Test.YtbhgaaendekghaaApp
import Derived.ChangeSlices
import Derived.Laws.IdiomStrings
import Derived.Lib.SlBytesConst
namespace Go.Proofs.Ytbhgaaendekghaa
open Go.ChangeShapes Go.WideShapes Go.Deep Go.RowKit

def bcells (l : List UInt8) : List Value := l.map fun b => .int .u8 (b.toNat : Int)
theorem bcells_length (l : List UInt8) : (bcells l).length = l.length := by simp [bcells]
theorem bcells_append (a b : List UInt8) : bcells (a ++ b) = bcells a ++ bcells b := by simp [bcells]
theorem bcells_get (l : List UInt8) (i : Nat) : (bcells l)[i]? = l[i]?.map fun b => .int .u8 (b.toNat : Int) := by simp [bcells]
theorem bcells_one (l : List UInt8) : ∀ u ∈ bcells l, u.oneCell' = true := by
  intro u hu
  simp only [bcells, List.mem_map] at hu
  obtain ⟨b, _, rfl⟩ := hu
  rfl
theorem bcells_take (l : List UInt8) (k : Nat) : (bcells l).take k = bcells (l.take k) := by simp [bcells]
theorem bcells_drop (l : List UInt8) (k : Nat) : (bcells l).drop k = bcells (l.drop k) := by simp [bcells]

/-- The slice value '.slice A n c' reads the bytes l, all below block B. -/
def Bs (w : World) (B : Nat) (A : Option Addr) (l : List UInt8) : Prop := Rd w B 1 A l.length (bcells l)

section
variable {w w' : World} {B : Nat} {A : Option Addr} {l : List UInt8}
theorem Bs.nil (w : World) (B : Nat) (A : Option Addr) : Bs w B A [] := Rd.nil
theorem Bs.onlyNil (h : Bs w B A l) (hO : Only Nil w w') (hB : B ≤ w.heap.size) : Bs w' B A l := Rd.onlyNil h hO hB
theorem Bs.more {B' : Nat} (h : Bs w B A l) (hB : B ≤ B') : Bs w' B' A l ∨ Bs w B' A l := .inr (Rd.more h hB)
theorem Bs.up {B' : Nat} (h : Bs w B A l) (hB : B ≤ B') : Bs w B' A l := Rd.more h hB
/-- Kept where the blocks that turn are others. -/
theorem Bs.sep {S : Nat → Prop} (h : Bs w B A l) (hO : Only S w w') (hB : B ≤ w.heap.size) (hS : 0 < l.length → ∀ a, A = some a → ¬ S a.block) : Bs w' B A l :=
  ⟨h.1, fun hn => by
    obtain ⟨b, off, e, hb, hc⟩ := h.2 hn
    exact ⟨b, off, e, hb, fun j u hu => (hO.cell (p := ⟨b, off + j, none⟩) (Nat.lt_of_lt_of_le hb hB) (hS hn ⟨b, off, none⟩ e)).trans (hc j u hu)⟩⟩
theorem Bs.take (h : Bs w B A l) (k : Nat) (hk : k ≤ l.length) : Bs w B A (l.take k) := by
  have := Rd.take h hk
  rw [Nat.mul_one, bcells_take] at this
  unfold Bs
  rwa [List.length_take, Nat.min_eq_left hk]
theorem Bs.cut {k cap : Nat} (h : Bs w B A l) (hk : k ≤ l.length) (hc : l.length ≤ cap) : Bs w B (if cap = k then A else A.map (·.add k)) (l.drop k) := by
  have := Rd.cut h hk hc
  rw [Nat.mul_one, bcells_drop] at this
  unfold Bs
  rwa [List.length_drop]
theorem Bs.at_ (h : Bs w B A l) {i : Nat} {b : UInt8} (hi : l[i]? = some b) : ∃ g off, A = some ⟨g, off, none⟩ ∧ g < B ∧ w.cell? ⟨g, off + i, none⟩ = some (.int .u8 (b.toNat : Int)) := by
  have hl : 0 < l.length := by have := (List.getElem?_eq_some_iff.1 hi).1; omega
  obtain ⟨g, off, e, hb, hc⟩ := h.2 hl
  exact ⟨g, off, e, hb, hc i _ (by rw [bcells_get, hi]; rfl)⟩
theorem Bs.of_own {base c n : Nat} {e : TypeId} (h : w.ownsRow base e 1 (.slice A n c) n (bcells l)) : Bs w w.heap.size A l ∧ n = l.length := by
  have hn : n = l.length := by have := h.1; rw [bcells_length] at this; omega
  subst hn
  exact ⟨Rd.of_own h, rfl⟩
end

/-- 'string(b)'. -/
theorem run_str {P : Program} (w : World) (src dst e : TypeId) (hs : P.underlying src = some (.slice e)) (he : P.underlying e = some (.int .u8)) (hd : P.underlying dst = some .string)
    {B c n : Nat} {A : Option Addr} {l : List UInt8} (h : Bs w B A l) (hn : n = l.length) : (convert src dst (.slice A n c)).run P w = .ok (.string ⟨l.toArray⟩) w := by
  subst hn
  rcases A with _ | a
  · have hl : l = [] := by
      rcases l with _ | ⟨b, l⟩
      · rfl
      · obtain ⟨_, _, h1, _⟩ := h.2 (by simp)
        cases h1
    subst hl
    rw [run_convert_bytes_string w src dst e none _ c hs he hd]
    simp [Conv.bytesToString]
    rfl
  · refine run_convert_bytes_back w src dst e a c l hs he hd fun j hj => ?_
    have hj' : l[j]? = some l[j] := List.getElem?_eq_getElem hj
    obtain ⟨g, off, h1, _, hc⟩ := h.at_ hj'
    injection h1 with h1
    subst h1
    rw [add_at]
    exact hc

/-- The bytes of a constant string, laid anew. -/
theorem Bs.marked (w : World) (l : List UInt8) (t : TypeId) (fr : Nat × Nat) (o : Obj) (ho : o = .cells (bcells l).toArray t fr) : Bs (w.alloc o) (w.alloc o).heap.size (some ⟨w.heap.size, 0, none⟩) l := by
  subst ho
  refine ⟨by rw [bcells_length, Nat.mul_one], fun _ => ⟨_, 0, rfl, by simp, fun j u hj => ?_⟩⟩
  rw [Nat.zero_add, cell_of_row (w.alloc (.cells (bcells l).toArray t fr)) w.heap.size j (bcells l).toArray t fr (heap_alloc_new w _)]
  simpa using hj

section
variable {H : Type} {enc : TypeId × Value → H} {P : Program} {w : World} {base : Nat} {spare : Nat → Bool} {held : Bool}
theorem wf_u8 {z : Int} (h : (Lit.int .u8 z).wf = true) : 0 ≤ z ∧ z ≤ 255 := by
  simp [Lit.wf, IntKind.min, IntKind.max, IntKind.signed, IntKind.bits] at h
  omega
/-- Bytes, opened to cells. -/
theorem open_bytes {t e : TypeId} {fuel : Nat} {v : Value} {x : DataW H × List MemPlace} (ht : P.underlying t = some (.slice e)) (he : P.underlying e = some (.int .u8)) (hC : P.cellsOf e = 1)
    (h : DataW.trod enc P w base spare held fuel t [v] = some x) : ∃ (A : Option Addr) (l : List UInt8) (c : Nat), v = .slice A l.length c ∧ l.length ≤ c ∧ c ≤ maxLen ∧ Bs w w.heap.size A l ∧
      x.1 = (match A with | none => .nil | some _ => x.1) := by
  rcases open_ints ht he hC h with ⟨hcs, hx⟩ | ⟨a, len, cap, zs, hcs, _, hl, hm, hz, _, hcell, hw⟩
  · simp at hcs
    subst hcs
    exact ⟨none, [], 0, rfl, Nat.le_refl _, by unfold maxLen; omega, Bs.nil _ _ _, by rw [hx]⟩
  · simp at hcs
    subst hcs
    have hzl : len ≤ zs.length := by rw [hz]; split <;> omega
    have hll : ((zs.take len).map fun z => UInt8.ofNat z.toNat).length = len := by simp; omega
    refine ⟨some a, (zs.take len).map fun z => UInt8.ofNat z.toNat, cap, by rw [hll], by rw [hll]; exact hl, hm, ⟨by rw [bcells_length, Nat.mul_one], fun hn => ?_⟩, rfl⟩
    rw [hll] at hn
    have h0 := hcell 0 (by omega)
    obtain ⟨b, off, spot⟩ := a
    have hspot : spot = none := by simpa [Addr.add] using World.cell?_spot h0
    subst hspot
    refine ⟨b, off, rfl, ?_, fun j u hu => ?_⟩
    · have := lt_of_cell h0
      simpa [Addr.add] using this
    · rw [bcells_get, List.getElem?_map] at hu
      have hj : j < len := by
        rcases Nat.lt_or_ge j len with h1 | h1
        · exact h1
        · rw [List.getElem?_eq_none (by simp; omega)] at hu; cases hu
      have hzj : zs[j]? = some (zs[j]'(by omega)) := List.getElem?_eq_getElem (by omega)
      rw [List.getElem?_take_of_lt hj, hzj] at hu
      simp only [Option.map_some] at hu
      injection hu with hu
      subst hu
      have hc := hcell j (by omega)
      rw [add_at, List.getD_eq_getElem?_getD, hzj] at hc
      have hb := wf_u8 (hw _ (List.getElem_mem (by omega : j < zs.length)))
      rw [hc]
      simp
      omega
end

end Go.Proofs.Ytbhgaaendekghaa
