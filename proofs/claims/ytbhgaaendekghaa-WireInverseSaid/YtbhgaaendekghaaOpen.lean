/-
  Arguments opened to cells: slices of structs of one-cell fields, with nil let in; what a slice reads is a list of values ('Rd').
  No conditions: general laws.
-/
import Derived.Test.YtbhgaaendekghaaMem
import Derived.Deep.Slices
import Derived.Deep.Fields
import Derived.ChangeSame
import Derived.ProofKit
import Derived.OpenShut
namespace Go.Proofs.Ytbhgaaendekghaa
open Go.ChangeShapes Go.WideShapes Go.Deep Go.RowKit

/-- The slice value '.slice A n c' reads the cells xs (n elements of so many cells each), all below block B. Nothing is asked of an empty one. -/
def Rd (w : World) (B size : Nat) (A : Option Addr) (n : Nat) (xs : List Value) : Prop :=
  xs.length = n * size ∧ (0 < n → ∃ b off, A = some ⟨b, off, none⟩ ∧ b < B ∧ ∀ j u, xs[j]? = some u → w.cell? ⟨b, off + j, none⟩ = some u)

theorem lt_of_cell {w : World} {a : Addr} {u : Value} (h : w.cell? a = some u) : a.block < w.heap.size := by
  unfold World.cell? at h
  rcases Nat.lt_or_ge a.block w.heap.size with h1 | h1
  · exact h1
  · rw [Array.getElem?_eq_none h1] at h; cases h

section
variable {w w' : World} {B size n : Nat} {A : Option Addr} {xs : List Value}
theorem Rd.keep (h : Rd w B size A n xs) (hk : ∀ p : Addr, p.block < B → w'.cell? p = w.cell? p) : Rd w' B size A n xs :=
  ⟨h.1, fun hn => by
    obtain ⟨b, off, e, hb, hc⟩ := h.2 hn
    exact ⟨b, off, e, hb, fun j u hu => (hk _ hb).trans (hc j u hu)⟩⟩
theorem Rd.only {S : Nat → Prop} (h : Rd w B size A n xs) (hO : Only S w w') (hB : B ≤ w.heap.size) (hS : ∀ x, S x → B ≤ x) : Rd w' B size A n xs :=
  h.keep fun p hp => hO.cell (by omega) (fun hx => by have := hS _ hx; omega)
theorem Rd.onlyNil (h : Rd w B size A n xs) (hO : Only Nil w w') (hB : B ≤ w.heap.size) : Rd w' B size A n xs := h.only hO hB fun _ hx => hx.elim
theorem Rd.at_ (h : Rd w B size A n xs) (hn : 0 < n) : ∃ b off, A = some ⟨b, off, none⟩ ∧ b < B ∧ ∀ j u, xs[j]? = some u → w.cell? ⟨b, off + j, none⟩ = some u := h.2 hn
end

/-- From 'for every i < n there is an a' to a list. -/
theorem list_of_lt {α : Type} {p : Nat → α → Prop} (n : Nat) (h : ∀ i, i < n → ∃ a, p i a) : ∃ xs : List α, xs.length = n ∧ ∀ i a, xs[i]? = some a → p i a := by
  induction n with
  | zero => exact ⟨[], rfl, fun i a hi => by simp at hi⟩
  | succ n ih =>
    obtain ⟨xs, hl, hp⟩ := ih fun i hi => h i (by omega)
    obtain ⟨a, ha⟩ := h n (by omega)
    refine ⟨xs ++ [a], by simp [hl], fun i b hb => ?_⟩
    rcases Nat.lt_or_ge i n with hi | hi
    · rw [List.getElem?_append_left (by omega)] at hb; exact hp i b hb
    · rw [List.getElem?_append_right (by omega)] at hb
      have hz : i - xs.length = 0 := by
        rcases Nat.eq_zero_or_pos (i - xs.length) with h0 | h0
        · exact h0
        · rw [List.getElem?_eq_none (by simp; omega)] at hb; cases hb
      rw [hz] at hb
      simp at hb
      subst hb
      have : i = n := by omega
      subst this
      exact ha

theorem flat_length {α : Type} {cells : α → List Value} {size : Nat} (hs : ∀ a, (cells a).length = size) (xs : List α) : (xs.flatMap cells).length = xs.length * size := by
  induction xs with
  | nil => simp
  | cons a xs ih => rw [List.flatMap_cons, List.length_append, ih, hs, List.length_cons, Nat.add_mul]; omega
theorem flat_get {α : Type} {cells : α → List Value} {size : Nat} (hs : ∀ a, (cells a).length = size) (xs : List α) (i j : Nat) (hj : j < size) :
    (xs.flatMap cells)[i * size + j]? = xs[i]?.bind fun a => (cells a)[j]? := by
  induction xs generalizing i with
  | nil => simp
  | cons a xs ih =>
    rw [List.flatMap_cons]
    rcases i with _ | i
    · rw [List.getElem?_append_left (by rw [hs]; omega)]; simp
    · rw [List.getElem?_append_right (by rw [hs, Nat.add_mul]; omega), hs]
      rw [show (i + 1) * size + j - size = i * size + j by rw [Nat.add_mul]; omega, ih]
      simp
/-- 'Rd' of a list of rows, row by row. -/
theorem Rd.rows {α : Type} {cells : α → List Value} {size : Nat} (hs : ∀ a, (cells a).length = size) (hpos : 0 < size) {w : World} {B n : Nat} {A : Option Addr} {xs : List α} (hn : xs.length = n)
    (h : 0 < n → ∃ b off, A = some ⟨b, off, none⟩ ∧ b < B ∧ ∀ i a, xs[i]? = some a → ∀ j u, (cells a)[j]? = some u → w.cell? ⟨b, off + (i * size + j), none⟩ = some u) : Rd w B size A n (xs.flatMap cells) := by
  refine ⟨by rw [flat_length hs, hn], fun h0 => ?_⟩
  obtain ⟨b, off, rfl, hb, hc⟩ := h h0
  refine ⟨b, off, rfl, hb, fun j u hu => ?_⟩
  have e : j = j / size * size + j % size := by rw [Nat.mul_comm]; exact (Nat.div_add_mod j size).symm
  rw [e, flat_get hs _ _ _ (Nat.mod_lt _ hpos)] at hu
  obtain ⟨a, ha, hu⟩ := Option.bind_eq_some_iff.1 hu
  rw [e]
  exact hc _ a ha _ u hu
theorem Rd.row {α : Type} {cells : α → List Value} {size : Nat} (hs : ∀ a, (cells a).length = size) {w : World} {B n : Nat} {A : Option Addr} {xs : List α} (h : Rd w B size A n (xs.flatMap cells)) {k : Nat} {a : α} (hk : xs[k]? = some a) (hpos : 0 < size) :
    ∃ b off, A = some ⟨b, off, none⟩ ∧ b < B ∧ ∀ j u, (cells a)[j]? = some u → w.cell? ⟨b, off + (k * size + j), none⟩ = some u := by
  have hl := flat_length hs xs
  have hkl : k < xs.length := (List.getElem?_eq_some_iff.1 hk).1
  have hn : 0 < n := by
    rcases Nat.eq_zero_or_pos n with h0 | h0
    · have h1 := h.1; rw [hl, h0, Nat.zero_mul] at h1
      rcases Nat.mul_eq_zero.1 h1 with h2 | h2 <;> omega
    · exact h0
  obtain ⟨b, off, e, hb, hc⟩ := h.2 hn
  refine ⟨b, off, e, hb, fun j u hu => hc _ _ ?_⟩
  have hj : j < size := by
    have := (List.getElem?_eq_some_iff.1 hu).1
    rwa [hs] at this
  rw [flat_get hs _ _ _ hj, hk]
  exact hu

section
variable {H : Type} {enc : TypeId × Value → H} {P : Program} {w : World} {base : Nat} {spare : Nat → Bool} {held : Bool}
/-- A slice of structs of one-cell fields: its value, and for each element and field the cell with its own reading. -/
theorem open_rows {t e : TypeId} {fs : Array Field} {fuel : Nat} {cs : List Value} {x : DataW H × List MemPlace} (ht : P.underlying t = some (.slice e)) (he : P.underlying e = some (.struct fs))
    (hone : oneCellFields P fs = true) (hC : P.cellsOf e = fs.size) (hpos : 0 < fs.size) (h : DataW.trod enc P w base spare held fuel t cs = some x) :
    ∃ (A : Option Addr) (len cap : Nat), cs = [.slice A len cap] ∧ len ≤ cap ∧ cap ≤ maxLen ∧ (0 < len → ∃ b off, A = some ⟨b, off, none⟩ ∧ b < w.heap.size ∧
      ∀ i, i < len → ∀ (j : Nat) (f : Field), fs[j]? = some f → ∃ (v : Value) (y : DataW H × List MemPlace) (n : Nat), w.cell? ⟨b, off + (i * fs.size + j), none⟩ = some v ∧ DataW.trod enc P w base spare held n f.type [v] = some y) := by
  rcases open_slice ht h with ⟨rfl, _⟩ | ⟨a, len, cap, m, n, D, Pl, hcs, hb, hl, hm, hmm, hx, hi⟩
  · exact ⟨none, 0, 0, rfl, Nat.le_refl _, by unfold maxLen; omega, fun h => absurd h (by omega)⟩
  · refine ⟨some a, len, cap, hcs, hl, hm, fun hlen => ?_⟩
    have key : ∀ i, i < len → ∀ (j : Nat) (f : Field), fs[j]? = some f → ∃ (v : Value) (y : DataW H × List MemPlace) (n : Nat), w.cell? (a.add (i * fs.size + j)) = some v ∧ DataW.trod enc P w base spare held n f.type [v] = some y := by
      intro i him j f hj
      obtain ⟨cs', hc, ht'⟩ := hi i (by rw [hmm]; split <;> omega)
      rw [hC] at hc
      obtain ⟨ys, n', hn', hy, hlen, hyl, hf⟩ := DataW.trod_struct he ht'
      obtain ⟨_, hcl, hat⟩ := World.cells?_some hc
      obtain ⟨ho, hk⟩ := hone_of hone j f hj
      have hjl : j < fs.size := (Array.getElem?_eq_some_iff.1 hj).1
      have hcell := hat j hjl
      have hv : cs'[j]? = some (cs'[j]'(by omega)) := List.getElem?_eq_getElem (by omega)
      have h1 := hf j f hj
      rw [ho, hk] at h1
      have hone' : (cs'.drop j).take 1 = [cs'[j]'(by omega)] := by
        rw [List.drop_eq_getElem_cons (by omega)]
        rfl
      rw [hone'] at h1
      have hys : ys[j]? = some (ys[j]'(by omega)) := List.getElem?_eq_getElem (by omega)
      refine ⟨_, _, _, ?_, h1.trans hys⟩
      rw [← Go.Deep.add_add, hcell, hv]
    obtain ⟨f0, hf0⟩ : ∃ f, fs[0]? = some f := ⟨fs[0], Array.getElem?_eq_getElem hpos⟩
    obtain ⟨v0, _, _, hc0, _⟩ := key 0 hlen 0 f0 hf0
    obtain ⟨b, off, spot⟩ := a
    have hspot : spot = none := by
      have := World.cell?_spot hc0
      simpa [Addr.add] using this
    subst hspot
    refine ⟨b, off, rfl, ?_, fun i hi j f hj => ?_⟩
    · have := lt_of_cell hc0
      simpa [Addr.add] using this
    · obtain ⟨v, y, n, hc, hy⟩ := key i hi j f hj
      exact ⟨v, y, n, by rw [← Go.WideShapes.add_plain]; exact hc, hy⟩
end

section
variable {H : Type} {enc : TypeId × Value → H} {P : Program} {w : World} {base : Nat} {spare : Nat → Bool} {held : Bool}
theorem okWide_array {r : Reach} {b0 : Nat} {t : TypeId} {n : Nat} {e : TypeId} {v : Value} (ht : P.underlying t = some (.array n e)) (h : Value.okWide P w r b0 t v) : ∃ cs, v = .agg cs ∧ cs.size = P.cellsOf t := by
  simp only [Value.okWide, ht] at h
  obtain ⟨cs, h1, h2, _⟩ := h
  exact ⟨cs, h1, h2⟩
/-- Cells of an array of integers read as integers. -/
theorem ints_of_array {t e : TypeId} {k : IntKind} {n fuel : Nat} {cs : List Value} {x : DataW H × List MemPlace} (ht : P.underlying t = some (.array n e)) (he : P.underlying e = some (.int k)) (hC : P.cellsOf e = 1) (hT : P.cellsOf t = n)
    (h : DataW.trod enc P w base spare held fuel t cs = some x) : ∃ zs : List Int, zs.length = n ∧ cs = zs.map (Value.int k) ∧ ∀ z ∈ zs, (Lit.int k z).wf = true := by
  obtain ⟨xs, m, _, _, hl, hn, hg⟩ := DataW.trod_array ht h
  rw [hT] at hl
  obtain ⟨zs, hz, hp⟩ := list_of_lt (p := fun i (z : Int) => cs[i]? = some (.int k z) ∧ (Lit.int k z).wf = true) n (by
    intro i hi
    have h1 := hg i hi
    rw [hC, Nat.mul_one] at h1
    have hv : (cs.drop i).take 1 = [cs[i]'(by omega)] := by
      rw [List.drop_eq_getElem_cons (by omega)]; rfl
    rw [hv] at h1
    have hx : xs[i]? = some (xs[i]'(by omega)) := List.getElem?_eq_getElem (by omega)
    rw [hx] at h1
    obtain ⟨z, e1, _, wz⟩ := DataW.trod_int he h1
    refine ⟨z, ?_, wz⟩
    rw [List.getElem?_eq_getElem (by omega)]
    simpa using e1)
  refine ⟨zs, hz, ?_, fun z hzm => ?_⟩
  · apply List.ext_getElem?
    intro i
    rw [List.getElem?_map]
    by_cases hi : i < n
    · have h2 : zs[i]? = some (zs[i]'(by omega)) := List.getElem?_eq_getElem (by omega)
      rw [h2, (hp i _ h2).1]; rfl
    · rw [List.getElem?_eq_none (by omega), List.getElem?_eq_none (by omega)]; rfl
  · obtain ⟨i, hi⟩ := List.getElem?_of_mem hzm
    exact (hp i z hi).2
end

end Go.Proofs.Ytbhgaaendekghaa
