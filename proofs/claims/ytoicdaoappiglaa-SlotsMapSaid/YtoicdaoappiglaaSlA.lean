/-
  The argument []Step of the laws on tables of slots, opened to its cells; the row's frame for these laws.
  No conditions.
-/
import Derived.Test.YtoicdaoappiglaaRow
import Derived.Test.YtoicdaoappiglaaOpen
namespace Go.Proofs.Ytoicdaoappiglaa
open Go.ChangeShapes Go.WideShapes Go.ChangeAt Go.RowKit Go.Deep

structure St where
  kind : Int
  hd : Int
  val : Int
def St.cells (s : St) : List Value := [.int .i64 s.kind, .int .i64 s.hd, .int .i64 s.val]
theorem St.cells_len (s : St) : s.cells.length = 3 := rfl

theorem open_steps {H : Type} {enc : TypeId × Value → H} {W : World} {v : Value} {d : DataW H} {p : List MemPlace} {base : Nat}
    (hv : Value.okWide Try.prog W .any base 22 v) (h : DataW.Trod enc Try.prog W 0 (fun _ => true) true 22 v d p) :
    ∃ (A : Option Addr) (len cap : Nat) (xs : List St), v = .slice A len cap ∧ xs.length = len ∧ len ≤ maxLen ∧ Rd W W.heap.size 3 A len (xs.flatMap St.cells) := by
  obtain ⟨a0, len, cap, rfl⟩ := okWide_slice Try.underlying22 hv
  obtain ⟨fuel, hf⟩ := h
  obtain ⟨A, len', cap', hcs, hl, hm, hk⟩ := open_rows Try.underlying22 Try.underlying30 (by kernel_rfl) (by kernel_rfl) (by decide) hf
  simp only [Value.cells] at hcs
  have hcs' : Value.slice a0 len cap = .slice A len' cap' := by simpa [Value.cells] using hcs
  injection hcs' with e1 e2 e3
  subst e1 e2 e3
  rcases Nat.eq_zero_or_pos len with h0 | h0
  · subst h0
    exact ⟨a0, 0, cap, [], rfl, rfl, by omega, ⟨by simp, fun h => absurd h (by omega)⟩⟩
  · obtain ⟨b, off, rfl, hb, hc⟩ := hk h0
    obtain ⟨xs, hxl, hxs⟩ := list_of_lt (p := fun i (s : St) => ∀ j u, s.cells[j]? = some u → W.cell? ⟨b, off + (i * 3 + j), none⟩ = some u) len (by
      intro i hi
      obtain ⟨v0, y0, n0, c0, t0⟩ := hc i hi 0 _ rfl
      obtain ⟨v1, y1, n1, c1, t1⟩ := hc i hi 1 _ rfl
      obtain ⟨v2, y2, n2, c2, t2⟩ := hc i hi 2 _ rfl
      obtain ⟨x0, e0, _, _⟩ := DataW.trod_int Try.underlying3 t0
      obtain ⟨x1, e1, _, _⟩ := DataW.trod_int Try.underlying3 t1
      obtain ⟨x2, e2, _, _⟩ := DataW.trod_int Try.underlying3 t2
      simp at e0 e1 e2
      subst e0 e1 e2
      refine ⟨⟨x0, x1, x2⟩, fun j u hu => ?_⟩
      match j, hu with
      | 0, hu => simp [St.cells] at hu; subst hu; exact c0
      | 1, hu => simp [St.cells] at hu; subst hu; exact c1
      | 2, hu => simp [St.cells] at hu; subst hu; exact c2)
    exact ⟨_, len, cap, xs, rfl, hxl, by omega, Rd.rows St.cells_len (by omega) hxl fun _ => ⟨b, off, rfl, hb, hxs⟩⟩

end Go.Proofs.Ytoicdaoappiglaa
