/-
  Lists of entries (api.Entry) that came in, opened to cells.
  No conditions: definitions and general laws.
-/
import Derived.Test.YtkcmdibpndkfbaaEn1
namespace Go.Proofs.Ytkcmdibpndkfbaa
open Go.ChangeShapes Go.WideShapes Go.ChangeAt Go.RowKit Go.Deep

/-- The slice value '.slice A rs.length c' reads the entries rs. -/
structure Es (w : World) (B : Nat) (A : Option Addr) (rs : List ER) : Prop where
  rd : Rd w B 8 A rs.length (rs.flatMap ER.cells)
  ok : ∀ r ∈ rs, ER.ok w B r
theorem Es.onlyNil {w w' : World} {B : Nat} {A : Option Addr} {rs : List ER} (h : Es w B A rs) (hO : Only Nil w w') (hB : B ≤ w.heap.size) : Es w' B A rs := ⟨Rd.onlyNil h.rd hO hB, fun r hr => (h.ok r hr).onlyNil hO hB⟩
theorem Es.up {w : World} {B B' : Nat} {A : Option Addr} {rs : List ER} (h : Es w B A rs) (hB : B ≤ B') : Es w B' A rs := ⟨Rd.more h.rd hB, fun r hr => (h.ok r hr).up hB⟩
theorem Es.next {w w' : World} {A : Option Addr} {rs : List ER} (h : Es w w.heap.size A rs) (hO : Only Nil w w') : Es w' w'.heap.size A rs := (h.onlyNil hO (Nat.le_refl _)).up hO.size
theorem Es.at_ {w : World} {B : Nat} {A : Option Addr} {rs : List ER} (h : Es w B A rs) {k : Nat} {r : ER} (hk : rs[k]? = some r) :
    ∃ b off, A = some ⟨b, off, none⟩ ∧ b < B ∧ ∀ j u, r.cells[j]? = some u → w.cell? ⟨b, off + (k * 8 + j), none⟩ = some u :=
  Rd.row ER.cells_len h.rd hk (by omega)
theorem Es.take {w : World} {B : Nat} {A : Option Addr} {rs : List ER} (h : Es w B A rs) (k : Nat) (hk : k ≤ rs.length) : Es w B A (rs.take k) := by
  have h1 := Rd.take h.rd hk
  rw [flat_take ER.cells_len] at h1
  refine ⟨?_, fun r hr => h.ok r (List.mem_of_mem_take hr)⟩
  rwa [List.length_take, Nat.min_eq_left hk]

set_option maxRecDepth 100000 in
/-- A list of entries as an argument. -/
theorem open_entries {H : Type} {enc : TypeId × Value → H} {W : World} {v : Value} {d : DataW H} {p : List MemPlace} {base : Nat}
    (hv : Value.okWide Try.prog W .any base 22 v) (h : DataW.Trod enc Try.prog W 0 (fun _ => true) true 22 v d p) :
    ∃ (A : Option Addr) (rs : List ER) (c : Nat), v = .slice A rs.length c ∧ rs.length ≤ c ∧ c ≤ maxLen ∧ Es W W.heap.size A rs := by
  obtain ⟨a0, len0, cap0, rfl⟩ := okWide_slice Try.underlying22 hv
  obtain ⟨fuel, hf⟩ := h
  have hf' : DataW.trod enc Try.prog W 0 (fun _ => true) true fuel 22 [.slice a0 len0 cap0] = some (d, p) := hf
  have hC : Try.prog.cellsOf 39 = 8 := by kernel_rfl
  rcases open_slice Try.underlying22 hf' with ⟨hcs, _⟩ | ⟨a, len, cap, m, n, D, Pl, hcs, hb, hl, hm, hmm, hx, hi⟩
  · simp at hcs
    obtain ⟨rfl, rfl, rfl⟩ := hcs
    exact ⟨none, [], 0, rfl, Nat.le_refl _, by unfold maxLen; omega, ⟨Rd.nil, fun r hr => by cases hr⟩⟩
  · simp at hcs
    obtain ⟨rfl, rfl, rfl⟩ := hcs
    obtain ⟨rs, hrl, hrs⟩ := list_of_lt (p := fun i (r : ER) => (∀ j u, r.cells[j]? = some u → W.cell? (a.add (i * 8 + j)) = some u) ∧ ER.ok W W.heap.size r) len0 (by
      intro i him
      obtain ⟨cs', hc, ht'⟩ := hi i (by rw [hmm]; split <;> omega)
      rw [hC] at hc
      obtain ⟨_, hcl, hat⟩ := World.cells?_some hc
      obtain ⟨r, rfl, hok⟩ := entry_of_trod ht'
      refine ⟨r, fun j u hj => ?_, hok⟩
      have hjl : j < 8 := by
        have := (List.getElem?_eq_some_iff.1 hj).1
        rwa [ER.cells_len] at this
      rw [← Go.Deep.add_add, hat j hjl]
      exact hj)
    subst hrl
    refine ⟨some a, rs, cap0, rfl, hl, hm, ⟨?_, fun r hr => ?_⟩⟩
    · refine Rd.rows ER.cells_len (by omega) rfl fun h0 => ?_
      have hr0 : rs[0]? = some rs[0] := List.getElem?_eq_getElem h0
      have hc0 := (hrs 0 _ hr0).1 0 _ rfl
      obtain ⟨b, off, spot⟩ := a
      have hspot : spot = none := by
        have := World.cell?_spot hc0
        simpa [Addr.add] using this
      subst hspot
      refine ⟨b, off, rfl, ?_, fun i r hr j u hu => ?_⟩
      · have := lt_of_cell hc0
        simpa [Addr.add] using this
      · rw [← add_at]
        exact (hrs i r hr).1 j u hu
    · obtain ⟨i, hi'⟩ := List.getElem?_of_mem hr
      exact (hrs i r hi').2

end Go.Proofs.Ytkcmdibpndkfbaa
