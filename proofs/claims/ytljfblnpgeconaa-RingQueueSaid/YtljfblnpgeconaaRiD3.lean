/-
  Calls on a message queue as an argument; ratoonlaw06.few.
  No conditions.
-/
import Derived.Test.YtljfblnpgeconaaMsgO
import Derived.Test.YtljfblnpgeconaaClone
namespace Go.Proofs.Ytljfblnpgeconaa
open Go.ChangeShapes Go.WideShapes Go.ChangeAt Go.RowKit Go.Deep

/-- A call on a message queue, and where its Data lies. -/
structure QC where
  kind : Int
  src : Int
  A : Option Addr
  c : Nat
  m : M
def QC.cells (r : QC) : List Value := [.int .i64 r.kind, .int .i64 r.src] ++ mcells r.A r.c r.m
theorem QC.cells_len (r : QC) : r.cells.length = 11 := rfl
structure QC.ok (w : World) (r : QC) : Prop where
  msg : MOk w w.heap.size r.A r.c r.m
  src : -9223372036854775808 ≤ r.src ∧ r.src ≤ 9223372036854775807
/-- The slice value '.slice A rs.length c' reads the calls rs. -/
structure QCs (w : World) (A : Option Addr) (rs : List QC) : Prop where
  rd : Rd w w.heap.size 11 A rs.length (rs.flatMap QC.cells)
  ok : ∀ r ∈ rs, QC.ok w r
theorem QCs.next {w w' : World} {A : Option Addr} {rs : List QC} (h : QCs w A rs) (hO : Only Nil w w') : QCs w' A rs :=
  ⟨Rd.more (Rd.onlyNil h.rd hO (Nat.le_refl _)) hO.size, fun r hr => ⟨(h.ok r hr).msg.next hO, (h.ok r hr).src⟩⟩
theorem QCs.at_ {w : World} {A : Option Addr} {rs : List QC} (h : QCs w A rs) {k : Nat} {r : QC} (hk : rs[k]? = some r) :
    ∃ b off, A = some ⟨b, off, none⟩ ∧ b < w.heap.size ∧ ∀ j u, r.cells[j]? = some u → w.cell? ⟨b, off + (k * 11 + j), none⟩ = some u :=
  Rd.row QC.cells_len h.rd hk (by omega)

set_option maxRecDepth 100000 in
theorem call_of_trod {H : Type} {enc : TypeId × Value → H} {W : World} {fuel : Nat} {cs : List Value} {x : DataW H × List MemPlace}
    (h : DataW.trod enc Try.prog W 0 (fun _ => true) true fuel 50 cs = some x) : ∃ r : QC, cs = r.cells ∧ QC.ok W r := by
  obtain ⟨ys, n', hn', hy, hlen, hyl, hg⟩ := DataW.trod_struct Try.underlying50 h
  have hl : cs.length = 11 := by
    rw [hlen]
    kernel_rfl
  have hyl : ys.length = 3 := hyl
  have e1 : Try.prog.cellsOf 3 = 1 := by kernel_rfl
  have e9 : Try.prog.cellsOf 48 = 9 := by kernel_rfl
  have one : ∀ k, k < 11 → ∃ v, cs[k]? = some v ∧ List.take 1 (List.drop k cs) = [v] := fun k hk => by
    refine ⟨cs[k]'(by omega), List.getElem?_eq_getElem _, ?_⟩
    rw [List.drop_eq_getElem_cons (by omega)]
    rfl
  have ysome : ∀ k, k < 3 → ∃ y, ys[k]? = some y := fun k hk => ⟨ys[k]'(by omega), List.getElem?_eq_getElem _⟩
  have t0 : DataW.trod enc Try.prog W 0 (fun _ => true) true n' 3 (List.take (Try.prog.cellsOf 3) (List.drop 0 cs)) = ys[0]? := hg 0 _ rfl
  have t1 : DataW.trod enc Try.prog W 0 (fun _ => true) true n' 3 (List.take (Try.prog.cellsOf 3) (List.drop 1 cs)) = ys[1]? := hg 1 _ rfl
  have t2 : DataW.trod enc Try.prog W 0 (fun _ => true) true n' 48 (List.take (Try.prog.cellsOf 48) (List.drop 2 cs)) = ys[2]? := hg 2 _ rfl
  obtain ⟨v0, c0, d0⟩ := one 0 (by omega)
  obtain ⟨v1, c1, d1⟩ := one 1 (by omega)
  obtain ⟨y0, h0⟩ := ysome 0 (by omega)
  obtain ⟨y1, h1⟩ := ysome 1 (by omega)
  obtain ⟨y2, h2⟩ := ysome 2 (by omega)
  rw [e1, d0, h0] at t0
  rw [e1, d1, h1] at t1
  rw [e9, h2] at t2
  obtain ⟨x0, q0, _, g0⟩ := DataW.trod_int Try.underlying3 t0
  obtain ⟨x1, q1, _, g1⟩ := DataW.trod_int Try.underlying3 t1
  obtain ⟨A, c, m, hm, hok⟩ := msg_of_trod t2
  simp at q0 q1
  refine ⟨⟨x0, x1, A, c, m⟩, ?_, ⟨hok, mwf_i64 g1⟩⟩
  unfold QC.cells
  dsimp only
  rw [← hm]
  apply List.ext_getElem?
  intro i
  match i with
  | 0 => rw [c0, q0]; rfl
  | 1 => rw [c1, q1]; rfl
  | n + 2 =>
    show cs[n + 2]? = (List.take 9 (List.drop 2 cs))[n]?
    rcases Nat.lt_or_ge n 9 with hn | hn
    · rw [List.getElem?_take_of_lt hn, List.getElem?_drop, Nat.add_comm]
    · rw [List.getElem?_eq_none (by omega), List.getElem?_eq_none (by rw [List.length_take]; omega)]

set_option maxRecDepth 100000 in
/-- A list of calls as an argument. -/
theorem open_calls {H : Type} {enc : TypeId × Value → H} {W : World} {v : Value} {d : DataW H} {p : List MemPlace} {base : Nat}
    (hv : Value.okWide Try.prog W .any base 40 v) (h : DataW.Trod enc Try.prog W 0 (fun _ => true) true 40 v d p) :
    ∃ (A : Option Addr) (rs : List QC) (c : Nat), v = .slice A rs.length c ∧ rs.length ≤ c ∧ c ≤ maxLen ∧ QCs W A rs := by
  obtain ⟨a0, len0, cap0, rfl⟩ := okWide_slice Try.underlying40 hv
  obtain ⟨fuel, hf⟩ := h
  have hf' : DataW.trod enc Try.prog W 0 (fun _ => true) true fuel 40 [.slice a0 len0 cap0] = some (d, p) := hf
  have hC : Try.prog.cellsOf 50 = 11 := by kernel_rfl
  rcases open_slice Try.underlying40 hf' with ⟨hcs, _⟩ | ⟨a, len, cap, m, n, D, Pl, hcs, hb, hl, hm, hmm, hx, hi⟩
  · simp at hcs
    obtain ⟨rfl, rfl, rfl⟩ := hcs
    exact ⟨none, [], 0, rfl, Nat.le_refl _, by unfold maxLen; omega, ⟨Rd.nil, fun r hr => by cases hr⟩⟩
  · simp at hcs
    obtain ⟨rfl, rfl, rfl⟩ := hcs
    obtain ⟨rs, hrl, hrs⟩ := list_of_lt (p := fun i (r : QC) => (∀ j u, r.cells[j]? = some u → W.cell? (a.add (i * 11 + j)) = some u) ∧ QC.ok W r) len0 (by
      intro i him
      obtain ⟨cs', hc, ht'⟩ := hi i (by rw [hmm]; split <;> omega)
      rw [hC] at hc
      obtain ⟨_, hcl, hat⟩ := World.cells?_some hc
      obtain ⟨r, rfl, hok⟩ := call_of_trod ht'
      refine ⟨r, fun j u hj => ?_, hok⟩
      have hjl : j < 11 := by
        have := (List.getElem?_eq_some_iff.1 hj).1
        rwa [QC.cells_len] at this
      rw [← Go.Deep.add_add, hat j hjl]
      exact hj)
    subst hrl
    refine ⟨some a, rs, cap0, rfl, hl, hm, ⟨?_, fun r hr => ?_⟩⟩
    · refine Rd.rows QC.cells_len (by omega) rfl fun h0 => ?_
      have hr0 : rs[0]? = some rs[0] := List.getElem?_eq_getElem h0
      have hc0 := (hrs 0 _ hr0).1 0 _ rfl
      obtain ⟨b, off, spot⟩ := a
      have hspot : spot = none := by
        have := World.cell?_spot hc0
        simpa [Addr.add] using this
      subst hspot
      refine ⟨b, off, rfl, ?_, fun i r hr j u hu => ?_⟩
      · have := lt_of_cell hc0
        simpa [Addr.add] using this
      · rw [← add_at]
        exact (hrs i r hr).1 j u hu
    · obtain ⟨i, hi'⟩ := List.getElem?_of_mem hr
      exact (hrs i r hi').2

def QFewPost (n : Nat) (w : World) (e : Ending) (w' : World) : Prop := ∃ b : Bool, e = .returned (.bool b) ∧ (b = true → n ≤ 40) ∧ w' = w
set_option maxRecDepth 100000 in
/-- few: where it answers true, there are at most 40 calls. -/
theorem qfew_any (A : Option Addr) (c : Nat) (rs : List QC) (w : World) (h : QCs w A rs) (hl : rs.length ≤ maxLen) :
    Calls Try.prog 21 #[.slice A rs.length c] w (QFewPost rs.length w) := by
  unfold maxLen at hl
  obtain ⟨N, hN⟩ : ∃ N, rs.length = N := ⟨_, rfl⟩
  rw [hN] at hl ⊢
  have HN := Lib.hid hN
  have H := Lib.hid h
  clear hN h
  go_enter Try.func21, Try.ntmps21
  go_wp2_with fail
  go_loop [4, 3] (fun i n => ∃ (k : Nat) (z : Int), k ≤ N ∧ i = .int .i64 k ∧ n = .int .i64 z) (fun i _ => N - (intOf i).toNat)
  case atStart => exact ⟨0, 0, Nat.zero_le _, rfl, rfl⟩
  case round =>
    obtain ⟨k, z, hk, rfl, rfl⟩ := hrel
    by_cases hlt : k < N
    · obtain ⟨r, hr⟩ : ∃ r, rs[k]? = some r := ⟨rs[k]'(by rw [HN.out]; exact hlt), List.getElem?_eq_getElem _⟩
      obtain ⟨b, off, rfl, hb, hc⟩ := H.out.at_ hr
      have c10 : w.cell? ⟨b, off + k * 11 + 10, none⟩ = some (.slice r.A r.m.data.length r.c) := hc 10 _ rfl
      clear hr hc
      go_wp2_with fail
      go_round
      case rel => exact ⟨k + 1, _, by omega, by go_num, rfl⟩
      case measure => simp [intOf]; omega
    · have hkN : k = N := by omega
      subst hkN
      by_cases h40 : (k : Int) ≤ 40
      · obtain ⟨q, hq⟩ : ∃ q, decide (z ≤ 8000) = q := ⟨_, rfl⟩
        go_wp2_with fail
        all_goals go_ret
        all_goals exact ⟨_, rfl, (fun _ => by omega), rfl⟩
      · go_wp2_with fail
        go_ret
        exact ⟨false, rfl, (fun h => by cases h), rfl⟩

end Go.Proofs.Ytljfblnpgeconaa
