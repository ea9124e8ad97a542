/-
  A message (api.Msg) in an argument, opened to its nine cells.
  No conditions.
-/
import Derived.Test.YtbhgaaendekghaaMsgP
import Derived.Test.YtbhgaaendekghaaRow
namespace Go.Proofs.Ytbhgaaendekghaa
open Go.ChangeShapes Go.WideShapes Go.ChangeAt Go.RowKit Go.Deep

/-- The numbers of a message are of type int. -/
structure M.fits (m : M) : Prop where
  src : -9223372036854775808 ≤ m.src ∧ m.src ≤ 9223372036854775807
  dst : -9223372036854775808 ≤ m.dst ∧ m.dst ≤ 9223372036854775807
  kind : -9223372036854775808 ≤ m.kind ∧ m.kind ≤ 9223372036854775807
  seq : -9223372036854775808 ≤ m.seq ∧ m.seq ≤ 9223372036854775807
  a0 : -9223372036854775808 ≤ m.a0 ∧ m.a0 ≤ 9223372036854775807
  a1 : -9223372036854775808 ≤ m.a1 ∧ m.a1 ≤ 9223372036854775807
  a2 : -9223372036854775808 ≤ m.a2 ∧ m.a2 ≤ 9223372036854775807
  a3 : -9223372036854775808 ≤ m.a3 ∧ m.a3 ≤ 9223372036854775807
/-- A message whose Data can be read. -/
structure MOk (w : World) (B : Nat) (A : Option Addr) (c : Nat) (m : M) : Prop where
  fits : m.fits
  cap : m.data.length ≤ c
  most : c ≤ maxLen
  data : Bs w B A m.data
theorem MOk.next {w w' : World} {A : Option Addr} {c : Nat} {m : M} (h : MOk w w.heap.size A c m) (hO : Only Nil w w') : MOk w' w'.heap.size A c m := ⟨h.fits, h.cap, h.most, (h.data.onlyNil hO (Nat.le_refl _)).up hO.size⟩

theorem mwf_i64 {z : Int} (h : (Lit.int .i64 z).wf = true) : -9223372036854775808 ≤ z ∧ z ≤ 9223372036854775807 := by
  simp [Lit.wf, IntKind.min, IntKind.max, IntKind.signed, IntKind.bits] at h
  omega

set_option maxRecDepth 100000 in
theorem msg_of_trod {H : Type} {enc : TypeId × Value → H} {W : World} {fuel : Nat} {cs : List Value} {x : DataW H × List MemPlace}
    (h : DataW.trod enc Try.prog W 0 (fun _ => true) true fuel 26 cs = some x) : ∃ (A : Option Addr) (c : Nat) (m : M), cs = mcells A c m ∧ MOk W W.heap.size A c m := by
  obtain ⟨ys, n', hn', hy, hlen, hyl, hg⟩ := DataW.trod_struct Try.underlying26 h
  have hl : cs.length = 9 := by
    rw [hlen]
    kernel_rfl
  have hyl : ys.length = 6 := hyl
  have e1 : Try.prog.cellsOf 3 = 1 := by kernel_rfl
  have e4 : Try.prog.cellsOf 24 = 4 := by kernel_rfl
  have e8 : Try.prog.cellsOf 22 = 1 := by kernel_rfl
  have one : ∀ k, k < 9 → ∃ v, cs[k]? = some v ∧ List.take 1 (List.drop k cs) = [v] := fun k hk => by
    refine ⟨cs[k]'(by omega), List.getElem?_eq_getElem _, ?_⟩
    rw [List.drop_eq_getElem_cons (by omega)]
    rfl
  have ysome : ∀ k, k < 6 → ∃ y, ys[k]? = some y := fun k hk => ⟨ys[k]'(by omega), List.getElem?_eq_getElem _⟩
  have t0 : DataW.trod enc Try.prog W 0 (fun _ => true) true n' 3 (List.take (Try.prog.cellsOf 3) (List.drop 0 cs)) = ys[0]? := hg 0 _ rfl
  have t1 : DataW.trod enc Try.prog W 0 (fun _ => true) true n' 3 (List.take (Try.prog.cellsOf 3) (List.drop 1 cs)) = ys[1]? := hg 1 _ rfl
  have t2 : DataW.trod enc Try.prog W 0 (fun _ => true) true n' 3 (List.take (Try.prog.cellsOf 3) (List.drop 2 cs)) = ys[2]? := hg 2 _ rfl
  have t3 : DataW.trod enc Try.prog W 0 (fun _ => true) true n' 3 (List.take (Try.prog.cellsOf 3) (List.drop 3 cs)) = ys[3]? := hg 3 _ rfl
  have t4 : DataW.trod enc Try.prog W 0 (fun _ => true) true n' 24 (List.take (Try.prog.cellsOf 24) (List.drop 4 cs)) = ys[4]? := hg 4 _ rfl
  have t8 : DataW.trod enc Try.prog W 0 (fun _ => true) true n' 22 (List.take (Try.prog.cellsOf 22) (List.drop 8 cs)) = ys[5]? := hg 5 _ rfl
  obtain ⟨v0, c0, d0⟩ := one 0 (by omega)
  obtain ⟨v1, c1, d1⟩ := one 1 (by omega)
  obtain ⟨v2, c2, d2⟩ := one 2 (by omega)
  obtain ⟨v3, c3, d3⟩ := one 3 (by omega)
  obtain ⟨v8, c8, d8⟩ := one 8 (by omega)
  obtain ⟨y0, h0⟩ := ysome 0 (by omega)
  obtain ⟨y1, h1⟩ := ysome 1 (by omega)
  obtain ⟨y2, h2⟩ := ysome 2 (by omega)
  obtain ⟨y3, h3⟩ := ysome 3 (by omega)
  obtain ⟨y4, h4⟩ := ysome 4 (by omega)
  obtain ⟨y5, h5⟩ := ysome 5 (by omega)
  rw [e1, d0, h0] at t0
  rw [e1, d1, h1] at t1
  rw [e1, d2, h2] at t2
  rw [e1, d3, h3] at t3
  rw [h4] at t4
  rw [e8, d8, h5] at t8
  obtain ⟨x0, q0, _, g0⟩ := DataW.trod_int Try.underlying3 t0
  obtain ⟨x1, q1, _, g1⟩ := DataW.trod_int Try.underlying3 t1
  obtain ⟨x2, q2, _, g2⟩ := DataW.trod_int Try.underlying3 t2
  obtain ⟨x3, q3, _, g3⟩ := DataW.trod_int Try.underlying3 t3
  obtain ⟨zs, hzl, hzs, hzw⟩ := ints_of_array Try.underlying24 Try.underlying3 e1 e4 t4
  obtain ⟨A, b, c, q8, hbc, hcm, hB, _⟩ := open_bytes Try.underlying22 Try.underlying5 (by kernel_rfl) t8
  simp at q0 q1 q2 q3
  rw [e4] at hzs
  match zs, hzl with
  | [z0, z1, z2, z3], _ =>
    have ha : ∀ i, i < 4 → cs[4 + i]? = ([z0, z1, z2, z3].map (Value.int .i64))[i]? := fun i hi => by
      rw [← hzs, List.getElem?_take_of_lt hi, List.getElem?_drop]
    refine ⟨A, c, ⟨x0, x1, x2, x3, z0, z1, z2, z3, b⟩, ?_, ⟨⟨mwf_i64 g0, mwf_i64 g1, mwf_i64 g2, mwf_i64 g3, mwf_i64 (hzw z0 (by simp)), mwf_i64 (hzw z1 (by simp)), mwf_i64 (hzw z2 (by simp)), mwf_i64 (hzw z3 (by simp))⟩, hbc, hcm, hB⟩⟩
    apply List.ext_getElem?
    intro i
    match i with
    | 0 => rw [c0, q0]; rfl
    | 1 => rw [c1, q1]; rfl
    | 2 => rw [c2, q2]; rfl
    | 3 => rw [c3, q3]; rfl
    | 4 => exact ha 0 (by omega)
    | 5 => exact ha 1 (by omega)
    | 6 => exact ha 2 (by omega)
    | 7 => exact ha 3 (by omega)
    | 8 => rw [c8, q8]; rfl
    | n + 9 => rw [List.getElem?_eq_none (by rw [hl]; omega), List.getElem?_eq_none (by show 9 ≤ n + 9; omega)]

end Go.Proofs.Ytbhgaaendekghaa
