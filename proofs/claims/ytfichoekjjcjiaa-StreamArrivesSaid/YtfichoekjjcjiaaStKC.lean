/-
  The argument []Act, opened.
  No conditions.
-/
import Derived.Test.YtfichoekjjcjiaaRow
import Derived.Test.YtfichoekjjcjiaaByt
import Derived.Lib.Hide
namespace Go.Proofs.Ytfichoekjjcjiaa
open Go.ChangeShapes Go.WideShapes Go.ChangeAt Go.RowKit Go.Deep

/-- An act and where its bytes lie. -/
structure AcR where
  kd : Int
  sd : Int
  nn : Nat
  A : Option Addr
  c : Nat
  d : List UInt8
def AcR.cells (s : AcR) : List Value := [.int .u8 s.kd, .int .u8 s.sd, .int .u8 s.nn, .slice s.A s.d.length s.c]
theorem AcR.cells_len (s : AcR) : s.cells.length = 4 := rfl
/-- What is known of an act. -/
def AcR.ok (W : World) (s : AcR) : Prop := (0 ≤ s.kd ∧ s.kd ≤ 255) ∧ (0 ≤ s.sd ∧ s.sd ≤ 255) ∧ s.nn ≤ 255 ∧ Bs W W.heap.size s.A s.d

set_option maxRecDepth 100000 in
theorem open_acts {H : Type} {enc : TypeId × Value → H} {W : World} {v : Value} {d : DataW H} {p : List MemPlace} {base : Nat}
    (hv : Value.okWide Try.prog W .any base 60 v) (h : DataW.Trod enc Try.prog W 0 (fun _ => true) true 60 v d p) :
    ∃ (A : Option Addr) (len cap : Nat) (xs : List AcR), v = .slice A len cap ∧ xs.length = len ∧ len ≤ maxLen ∧ Rd W W.heap.size 4 A len (xs.flatMap AcR.cells) ∧ ∀ s ∈ xs, s.ok W := by
  obtain ⟨a0, len, cap, rfl⟩ := okWide_slice Try.underlying60 hv
  obtain ⟨fuel, hf⟩ := h
  obtain ⟨A, len', cap', hcs, hl, hm, hk⟩ := open_rows Try.underlying60 Try.underlying70 (by kernel_rfl) (by kernel_rfl) (by decide) hf
  simp only [Value.cells] at hcs
  have hcs' : Value.slice a0 len cap = .slice A len' cap' := by simpa [Value.cells] using hcs
  injection hcs' with e1 e2 e3
  subst e1 e2 e3
  rcases Nat.eq_zero_or_pos len with h0 | h0
  · subst h0
    exact ⟨a0, 0, cap, [], rfl, rfl, by omega, ⟨by simp, fun h => absurd h (by omega)⟩, fun s hs => absurd hs (by simp)⟩
  · obtain ⟨b, off, rfl, hb, hc⟩ := hk h0
    obtain ⟨xs, hxl, hxs⟩ := list_of_lt (p := fun i (s : AcR) => (∀ j u, s.cells[j]? = some u → W.cell? ⟨b, off + (i * 4 + j), none⟩ = some u) ∧ s.ok W) len (by
      intro i hi
      obtain ⟨v0, y0, n0, c0, t0⟩ := hc i hi 0 _ rfl
      obtain ⟨v1, y1, n1, c1, t1⟩ := hc i hi 1 _ rfl
      obtain ⟨v2, y2, n2, c2, t2⟩ := hc i hi 2 _ rfl
      obtain ⟨v3, y3, n3, c3, t3⟩ := hc i hi 3 _ rfl
      obtain ⟨x0, e0, _, g0⟩ := DataW.trod_int Try.underlying5 t0
      obtain ⟨x1, e1, _, g1⟩ := DataW.trod_int Try.underlying5 t1
      obtain ⟨x2, e2, _, g2⟩ := DataW.trod_int Try.underlying5 t2
      obtain ⟨A3, l3, cp3, e3, _, _, g3, _⟩ := open_bytes Try.underlying22 Try.underlying5 (by kernel_rfl) t3
      have h2 := wf_u8 g2
      obtain ⟨m2, rfl⟩ := Int.eq_ofNat_of_zero_le h2.1
      have h22 : ((m2 : Nat) : Int) ≤ 255 := h2.2
      simp at e0 e1 e2
      subst e0 e1 e2 e3
      refine ⟨⟨x0, x1, m2, A3, cp3, l3⟩, fun j u hu => ?_, wf_u8 g0, wf_u8 g1, (show m2 ≤ 255 by omega), g3⟩
      match j, hu with
      | 0, hu => simp [AcR.cells] at hu; subst hu; exact c0
      | 1, hu => simp [AcR.cells] at hu; subst hu; exact c1
      | 2, hu => simp [AcR.cells] at hu; subst hu; exact c2
      | 3, hu => simp [AcR.cells] at hu; subst hu; exact c3)
    refine ⟨_, len, cap, xs, rfl, hxl, by omega, Rd.rows AcR.cells_len (by omega) hxl fun _ => ⟨b, off, rfl, hb, fun i a hi => (hxs i a hi).1⟩, fun s hs => ?_⟩
    obtain ⟨i, hi⟩ := List.getElem?_of_mem hs
    exact (hxs i s hi).2

end Go.Proofs.Ytfichoekjjcjiaa
