/-
  ref01.Same, law06.short and law06.first; the argument []Step of the laws on byte queues, opened.
  No conditions but that the slices can be read.
-/
import Derived.Test.YtljfblnpgeconaaRow
import Derived.Test.YtljfblnpgeconaaByt
import Derived.Lib.Hide
namespace Go.Proofs.Ytljfblnpgeconaa
open Go.ChangeShapes Go.WideShapes Go.ChangeAt Go.RowKit Go.Deep

structure St where
  kind : Int
  n : Int
  A : Option Addr
  c : Nat
  b : List UInt8
def St.cells (s : St) : List Value := [.int .i64 s.kind, .int .i64 s.n, .slice s.A s.b.length s.c]
theorem St.cells_len (s : St) : s.cells.length = 3 := rfl

set_option maxRecDepth 100000 in
theorem open_steps {H : Type} {enc : TypeId × Value → H} {W : World} {v : Value} {d : DataW H} {p : List MemPlace} {base : Nat}
    (hv : Value.okWide Try.prog W .any base 22 v) (h : DataW.Trod enc Try.prog W 0 (fun _ => true) true 22 v d p) :
    ∃ (A : Option Addr) (len cap : Nat) (xs : List St), v = .slice A len cap ∧ xs.length = len ∧ len ≤ maxLen ∧ Rd W W.heap.size 3 A len (xs.flatMap St.cells) ∧ ∀ s ∈ xs, s.b.length ≤ s.c ∧ s.c ≤ maxLen ∧ Bs W W.heap.size s.A s.b := by
  obtain ⟨a0, len, cap, rfl⟩ := okWide_slice Try.underlying22 hv
  obtain ⟨fuel, hf⟩ := h
  obtain ⟨A, len', cap', hcs, hl, hm, hk⟩ := open_rows Try.underlying22 Try.underlying31 (by kernel_rfl) (by kernel_rfl) (by decide) hf
  simp only [Value.cells] at hcs
  have hcs' : Value.slice a0 len cap = .slice A len' cap' := by simpa [Value.cells] using hcs
  injection hcs' with e1 e2 e3
  subst e1 e2 e3
  rcases Nat.eq_zero_or_pos len with h0 | h0
  · subst h0
    exact ⟨a0, 0, cap, [], rfl, rfl, by omega, ⟨by simp, fun h => absurd h (by omega)⟩, fun s hs => absurd hs (by simp)⟩
  · obtain ⟨b, off, rfl, hb, hc⟩ := hk h0
    obtain ⟨xs, hxl, hxs⟩ := list_of_lt (p := fun i (s : St) => (∀ j u, s.cells[j]? = some u → W.cell? ⟨b, off + (i * 3 + j), none⟩ = some u) ∧ s.b.length ≤ s.c ∧ s.c ≤ maxLen ∧ Bs W W.heap.size s.A s.b) len (by
      intro i hi
      obtain ⟨v0, y0, n0, c0, t0⟩ := hc i hi 0 _ rfl
      obtain ⟨v1, y1, n1, c1, t1⟩ := hc i hi 1 _ rfl
      obtain ⟨v2, y2, n2, c2, t2⟩ := hc i hi 2 _ rfl
      obtain ⟨x0, e0, _, _⟩ := DataW.trod_int Try.underlying3 t0
      obtain ⟨x1, e1, _, _⟩ := DataW.trod_int Try.underlying3 t1
      obtain ⟨A2, l2, cp2, e2, g1, g2, g3, _⟩ := open_bytes Try.underlying29 Try.underlying5 (by kernel_rfl) t2
      simp at e0 e1
      subst e0 e1 e2
      refine ⟨⟨x0, x1, A2, cp2, l2⟩, fun j u hu => ?_, g1, g2, g3⟩
      match j, hu with
      | 0, hu => simp [St.cells] at hu; subst hu; exact c0
      | 1, hu => simp [St.cells] at hu; subst hu; exact c1
      | 2, hu => simp [St.cells] at hu; subst hu; exact c2)
    refine ⟨_, len, cap, xs, rfl, hxl, by omega, Rd.rows St.cells_len (by omega) hxl fun _ => ⟨b, off, rfl, hb, fun i a hi => (hxs i a hi).1⟩, fun s hs => ?_⟩
    obtain ⟨i, hi⟩ := List.getElem?_of_mem hs
    exact (hxs i s hi).2

theorem same_any (A B : Option Addr) (ca cb : Nat) (a b : List UInt8) (w : World) (ha : Bs w w.heap.size A a) (hb : Bs w w.heap.size B b) :
    Calls Try.prog 16 #[.slice A a.length ca, .slice B b.length cb] w fun e w' => e = .returned (.bool (a == b)) ∧ w' = w := by
  have h1 := run_str (P := Try.prog) w 29 9 5 Try.underlying29 Try.underlying5 Try.underlying9 (c := ca) ha rfl
  have h2 := run_str (P := Try.prog) w 29 9 5 Try.underlying29 Try.underlying5 Try.underlying9 (c := cb) hb rfl
  go_enter Try.func16, Try.ntmps16
  go_wp2_with fail
  go_ret
  exact ⟨rfl, rfl⟩

def shortB (xs : List St) : Bool := xs.all (fun s => decide (s.b.length ≤ 200)) && decide (xs.length ≤ 40)
theorem short_any (A : Option Addr) (len cap : Nat) (xs : List St) (w : World) (hlen : xs.length = len) (hmax : len ≤ maxLen) (hR : Rd w w.heap.size 3 A len (xs.flatMap St.cells)) :
    Calls Try.prog 12 #[.slice A len cap] w fun e w' => e = .returned (.bool (shortB xs)) ∧ w' = w := by
  unfold maxLen at hmax
  have HR := Lib.hid hR
  have HL := Lib.hid hlen
  clear hR hlen
  obtain ⟨r, hr⟩ : ∃ r, shortB xs = r := ⟨_, rfl⟩
  rw [hr]
  have HS := Lib.hid hr
  clear hr
  go_enter Try.func12, Try.ntmps12
  go_wp2_with fail
  go_loop [3] (fun i => ∃ k : Nat, k ≤ len ∧ i = .int .i64 k ∧ ∀ s ∈ xs.take k, s.b.length ≤ 200) (fun i => len - (intOf i).toNat)
  case atStart => exact ⟨0, Nat.zero_le _, rfl, fun s hs => absurd hs (by simp)⟩
  case round =>
    obtain ⟨k, hk, rfl, hall⟩ := hrel
    have HA := Lib.hid hall
    clear hall
    by_cases hlt : k < len
    · obtain ⟨s, hs⟩ : ∃ s, xs[k]? = some s := ⟨xs[k]'(by rw [HL.out]; exact hlt), List.getElem?_eq_getElem _⟩
      obtain ⟨b, off, rfl, hbw, hc⟩ := HR.out.row St.cells_len hs (by omega)
      have c2 : w.cell? ⟨b, off + k * 3 + 2, none⟩ = some (.slice s.A s.b.length s.c) := hc 2 _ rfl
      have HX := Lib.hid hs
      clear hc hs
      by_cases h2 : s.b.length ≤ 200
      · have h2' : ¬ (200 : Int) < s.b.length := by omega
        go_wp2_with fail
        go_round
        case rel =>
          refine ⟨k + 1, by omega, by go_num, fun t ht => ?_⟩
          rw [List.take_add_one, HX.out] at ht
          rcases List.mem_append.1 ht with h | h
          · exact HA.out t h
          · simp at h; subst h; exact h2
        case measure => simp [intOf] <;> omega
      · have h2' : (200 : Int) < s.b.length := by omega
        go_wp2_with fail
        go_ret
        refine ⟨?_, rfl⟩
        rw [← HS.out]
        have : shortB xs = false := by
          unfold shortB
          rw [Bool.and_eq_false_iff]
          left
          rw [List.all_eq_false]
          exact ⟨s, List.mem_of_getElem? HX.out, by simp; omega⟩
        rw [this]
        rfl
    · obtain rfl : k = len := by omega
      clear hlt
      go_wp2_with fail
      go_ret
      refine ⟨?_, rfl⟩
      rw [← HS.out]
      unfold shortB
      rw [HL.out, List.all_eq_true.2 (fun s hs => by
        have := HA.out s (by rw [List.take_of_length_le (by rw [HL.out]; exact Nat.le_refl _)]; exact hs)
        simp; omega), Bool.true_and]
      have e : decide ((k : Int) ≤ 40) = decide (k ≤ 40) := by simp only [decide_eq_decide]; omega
      rw [← e]
      rfl

end Go.Proofs.Ytljfblnpgeconaa
