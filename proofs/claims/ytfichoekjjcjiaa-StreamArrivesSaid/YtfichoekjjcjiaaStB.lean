/-
  The arguments of the laws of layer 43, opened: ends, packets.
  No conditions.
-/
import Derived.Test.YtfichoekjjcjiaaStP
import Derived.Test.YtfichoekjjcjiaaRow
namespace Go.Proofs.Ytfichoekjjcjiaa
open Go.ChangeShapes Go.WideShapes Go.ChangeAt Go.RowKit Go.Deep

section
variable {H : Type} {enc : TypeId × Value → H} {P : Program} {w : World} {base : Nat} {spare : Nat → Bool} {held : Bool}
/-- A struct of one-cell fields: for each field its cell with its own reading. -/
theorem open_struct_one {t : TypeId} {fs : Array Field} {fuel : Nat} {cs : List Value} {x : DataW H × List MemPlace} (he : P.underlying t = some (.struct fs)) (hone : oneCellFields P fs = true) (hC : P.cellsOf t = fs.size)
    (h : DataW.trod enc P w base spare held fuel t cs = some x) : cs.length = fs.size ∧ ∀ (j : Nat) (f : Field), fs[j]? = some f → ∃ (v : Value) (y : DataW H × List MemPlace) (n : Nat), cs[j]? = some v ∧ DataW.trod enc P w base spare held n f.type [v] = some y := by
  obtain ⟨ys, n', hn', hy, hlen, hyl, hf⟩ := DataW.trod_struct he h
  refine ⟨by rw [← hC]; exact hlen, fun j f hj => ?_⟩
  obtain ⟨ho, hk⟩ := hone_of hone j f hj
  have hjl : j < fs.size := (Array.getElem?_eq_some_iff.1 hj).1
  have hl : cs.length = fs.size := by rw [← hC]; exact hlen
  have hv : cs[j]? = some (cs[j]'(by omega)) := List.getElem?_eq_getElem (by omega)
  have h1 := hf j f hj
  rw [ho, hk] at h1
  have hone' : (cs.drop j).take 1 = [cs[j]'(by omega)] := by
    rw [List.drop_eq_getElem_cons (by omega)]
    rfl
  rw [hone'] at h1
  have hys : ys[j]? = some (ys[j]'(by omega)) := List.getElem?_eq_getElem (by omega)
  exact ⟨_, _, _, hv, h1.trans hys⟩
end

set_option maxRecDepth 100000 in
theorem open_end {H : Type} {enc : TypeId × Value → H} {W : World} {v : Value} {d : DataW H} {p : List MemPlace} {base : Nat}
    (hv : Value.okWide Try.prog W .any base 24 v) (h : DataW.Trod enc Try.prog W 0 (fun _ => true) true 24 v d p) :
    ∃ (l : Loc) (e : E), v = .agg (ecells l e).toArray ∧ EB W W.heap.size l e := by
  obtain ⟨cs, rfl, _⟩ := okWide_struct Try.underlying24 hv
  obtain ⟨fuel, hf⟩ := h
  obtain ⟨hl, hc⟩ := open_struct_one Try.underlying24 (by kernel_rfl) (by kernel_rfl) hf
  obtain ⟨v0, y0, n0, c0, t0⟩ := hc 0 _ rfl
  obtain ⟨v1, y1, n1, c1, t1⟩ := hc 1 _ rfl
  obtain ⟨v2, y2, n2, c2, t2⟩ := hc 2 _ rfl
  obtain ⟨v3, y3, n3, c3, t3⟩ := hc 3 _ rfl
  obtain ⟨v4, y4, n4, c4, t4⟩ := hc 4 _ rfl
  obtain ⟨v5, y5, n5, c5, t5⟩ := hc 5 _ rfl
  obtain ⟨v6, y6, n6, c6, t6⟩ := hc 6 _ rfl
  obtain ⟨v7, y7, n7, c7, t7⟩ := hc 7 _ rfl
  obtain ⟨A0, l0, k0, e0, g00, g01, g02, _⟩ := open_bytes Try.underlying22 Try.underlying5 (by kernel_rfl) t0
  obtain ⟨x1, e1, _, _⟩ := DataW.trod_int Try.underlying3 t1
  obtain ⟨x2, e2, _⟩ := DataW.trod_bool Try.underlying4 t2
  obtain ⟨x3, e3, _⟩ := DataW.trod_bool Try.underlying4 t3
  obtain ⟨A4, l4, k4, e4, g40, g41, g42, _⟩ := open_bytes Try.underlying22 Try.underlying5 (by kernel_rfl) t4
  obtain ⟨x5, e5, _, _⟩ := DataW.trod_int Try.underlying3 t5
  obtain ⟨x6, e6, _⟩ := DataW.trod_bool Try.underlying4 t6
  obtain ⟨x7, e7, _⟩ := DataW.trod_bool Try.underlying4 t7
  simp at e1 e2 e3 e5 e6 e7
  subst e0 e1 e2 e3 e4 e5 e6 e7
  refine ⟨⟨A0, k0, A4, k4⟩, ⟨l0, x1, x2, x3, l4, x5, x6, x7⟩, ?_, ⟨g02, g42, g00, g40⟩⟩
  have hcs : (Value.agg cs).cells.toList = (ecells ⟨A0, k0, A4, k4⟩ ⟨l0, x1, x2, x3, l4, x5, x6, x7⟩) := by
    apply List.ext_getElem?
    intro i
    match i with
    | 0 => rw [c0]; rfl
    | 1 => rw [c1]; rfl
    | 2 => rw [c2]; rfl
    | 3 => rw [c3]; rfl
    | 4 => rw [c4]; rfl
    | 5 => rw [c5]; rfl
    | 6 => rw [c6]; rfl
    | 7 => rw [c7]; rfl
    | n + 8 => rw [List.getElem?_eq_none (by rw [hl]; show 8 ≤ n + 8; omega), List.getElem?_eq_none (by rw [ecells_length]; omega)]
  have hcs' : cs.toList = ecells ⟨A0, k0, A4, k4⟩ ⟨l0, x1, x2, x3, l4, x5, x6, x7⟩ := hcs
  rw [← hcs']

set_option maxRecDepth 100000 in
theorem open_pk {H : Type} {enc : TypeId × Value → H} {W : World} {v : Value} {d : DataW H} {p : List MemPlace} {base : Nat}
    (hv : Value.okWide Try.prog W .any base 26 v) (h : DataW.Trod enc Try.prog W 0 (fun _ => true) true 26 v d p) :
    ∃ (A : Option Addr) (c : Nat) (p : Pk), v = .agg (pcells A c p).toArray ∧ PB W W.heap.size A c p := by
  obtain ⟨cs, rfl, _⟩ := okWide_struct Try.underlying26 hv
  obtain ⟨fuel, hf⟩ := h
  obtain ⟨hl, hc⟩ := open_struct_one Try.underlying26 (by kernel_rfl) (by kernel_rfl) hf
  obtain ⟨v0, y0, n0, c0, t0⟩ := hc 0 _ rfl
  obtain ⟨v1, y1, n1, c1, t1⟩ := hc 1 _ rfl
  obtain ⟨v2, y2, n2, c2, t2⟩ := hc 2 _ rfl
  obtain ⟨v3, y3, n3, c3, t3⟩ := hc 3 _ rfl
  obtain ⟨v4, y4, n4, c4, t4⟩ := hc 4 _ rfl
  obtain ⟨v5, y5, n5, c5, t5⟩ := hc 5 _ rfl
  obtain ⟨x0, e0, _, _⟩ := DataW.trod_int Try.underlying3 t0
  obtain ⟨x1, e1, _, _⟩ := DataW.trod_int Try.underlying3 t1
  obtain ⟨x2, e2, _, _⟩ := DataW.trod_int Try.underlying3 t2
  obtain ⟨x3, e3, _, _⟩ := DataW.trod_int Try.underlying3 t3
  obtain ⟨x4, e4, _⟩ := DataW.trod_bool Try.underlying4 t4
  obtain ⟨A5, l5, k5, e5, g50, g51, g52, _⟩ := open_bytes Try.underlying22 Try.underlying5 (by kernel_rfl) t5
  simp at e0 e1 e2 e3 e4
  subst e0 e1 e2 e3 e4 e5
  refine ⟨A5, k5, ⟨x0, x1, x2, x3, x4, l5⟩, ?_, ⟨g52, g50⟩⟩
  have hcs : (Value.agg cs).cells.toList = (pcells A5 k5 ⟨x0, x1, x2, x3, x4, l5⟩) := by
    apply List.ext_getElem?
    intro i
    match i with
    | 0 => rw [c0]; rfl
    | 1 => rw [c1]; rfl
    | 2 => rw [c2]; rfl
    | 3 => rw [c3]; rfl
    | 4 => rw [c4]; rfl
    | 5 => rw [c5]; rfl
    | n + 6 => rw [List.getElem?_eq_none (by rw [hl]; show 6 ≤ n + 6; omega), List.getElem?_eq_none (by show 6 ≤ n + 6; omega)]
  have hcs' : cs.toList = pcells A5 k5 ⟨x0, x1, x2, x3, x4, l5⟩ := hcs
  rw [← hcs']

/-- A slice of bytes as an argument. -/
theorem open_barg {H : Type} {enc : TypeId × Value → H} {W : World} {v : Value} {d : DataW H} {p : List MemPlace} {base : Nat}
    (hv : Value.okWide Try.prog W .any base 22 v) (h : DataW.Trod enc Try.prog W 0 (fun _ => true) true 22 v d p) :
    ∃ (A : Option Addr) (l : List UInt8) (c : Nat), v = .slice A l.length c ∧ l.length ≤ c ∧ c ≤ maxLen ∧ Bs W W.heap.size A l := by
  obtain ⟨a0, len, cap, rfl⟩ := okWide_slice Try.underlying22 hv
  obtain ⟨fuel, hf⟩ := h
  have hf' : DataW.trod enc Try.prog W 0 (fun _ => true) true fuel 22 [.slice a0 len cap] = some (d, p) := hf
  obtain ⟨A, l, c, h1, h2, h3, h4, _⟩ := open_bytes Try.underlying22 Try.underlying5 (by kernel_rfl) hf'
  exact ⟨A, l, c, h1, h2, h3, h4⟩

end Go.Proofs.Ytfichoekjjcjiaa
