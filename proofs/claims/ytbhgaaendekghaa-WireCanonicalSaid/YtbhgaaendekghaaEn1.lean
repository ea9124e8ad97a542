/-
  Entries (api.Entry) as values: eight cells, the last a slice of bytes; an entry that came in, opened to cells.
  No conditions: definitions and general laws.
-/
import Derived.Test.YtbhgaaendekghaaClone
import Derived.Test.YtbhgaaendekghaaRow
namespace Go.Proofs.Ytbhgaaendekghaa
open Go.ChangeShapes Go.WideShapes Go.ChangeAt Go.RowKit Go.Deep

structure En where
  kind : Int
  task : Int
  call : Int
  a0 : Int
  a1 : Int
  a2 : Int
  result : Int
  data : List UInt8
/-- An entry and where its Data lies. -/
structure ER where
  A : Option Addr
  c : Nat
  x : En
def ER.cells (r : ER) : List Value :=
  [.int .i64 r.x.kind, .int .i64 r.x.task, .int .i64 r.x.call, .int .i64 r.x.a0, .int .i64 r.x.a1, .int .i64 r.x.a2, .int .i64 r.x.result, .slice r.A r.x.data.length r.c]
theorem ER.cells_len (r : ER) : r.cells.length = 8 := rfl
theorem ER.cells_one (r : ER) : ∀ u ∈ r.cells, u.oneCell' = true := by
  intro u hu
  simp only [ER.cells, List.mem_cons, List.not_mem_nil, or_false] at hu
  rcases hu with rfl | rfl | rfl | rfl | rfl | rfl | rfl | rfl <;> rfl

def I64 (n : Int) : Prop := -9223372036854775808 ≤ n ∧ n ≤ 9223372036854775807
/-- The numbers of an entry are of type int. -/
structure En.fits (x : En) : Prop where
  kind : I64 x.kind
  task : I64 x.task
  call : I64 x.call
  a0 : I64 x.a0
  a1 : I64 x.a1
  a2 : I64 x.a2
  result : I64 x.result
/-- An entry whose Data can be read. -/
structure ER.ok (w : World) (B : Nat) (r : ER) : Prop where
  fits : r.x.fits
  c : r.x.data.length ≤ r.c
  most : r.c ≤ maxLen
  data : Bs w B r.A r.x.data
theorem ER.ok.onlyNil {w w' : World} {B : Nat} {r : ER} (h : ER.ok w B r) (hO : Only Nil w w') (hB : B ≤ w.heap.size) : ER.ok w' B r := ⟨h.fits, h.c, h.most, h.data.onlyNil hO hB⟩
theorem ER.ok.up {w : World} {B B' : Nat} {r : ER} (h : ER.ok w B r) (hB : B ≤ B') : ER.ok w B' r := ⟨h.fits, h.c, h.most, h.data.up hB⟩

theorem wf_i64 {z : Int} (h : (Lit.int .i64 z).wf = true) : I64 z := by
  simp [Lit.wf, IntKind.min, IntKind.max, IntKind.signed, IntKind.bits] at h
  unfold I64
  omega

set_option maxRecDepth 100000 in
theorem entry_of_trod {H : Type} {enc : TypeId × Value → H} {W : World} {fuel : Nat} {cs : List Value} {x : DataW H × List MemPlace}
    (h : DataW.trod enc Try.prog W 0 (fun _ => true) true fuel 35 cs = some x) : ∃ r : ER, cs = r.cells ∧ ER.ok W W.heap.size r := by
  obtain ⟨ys, n', hn', hy, hlen, hyl, hg⟩ := DataW.trod_struct Try.underlying35 h
  have hl : cs.length = 8 := by
    rw [hlen]
    kernel_rfl
  have hyl : ys.length = 6 := hyl
  have e1 : Try.prog.cellsOf 3 = 1 := by kernel_rfl
  have e3 : Try.prog.cellsOf 33 = 3 := by kernel_rfl
  have e8 : Try.prog.cellsOf 22 = 1 := by kernel_rfl
  have one : ∀ k, k < 8 → ∃ v, cs[k]? = some v ∧ List.take 1 (List.drop k cs) = [v] := fun k hk => by
    refine ⟨cs[k]'(by omega), List.getElem?_eq_getElem _, ?_⟩
    rw [List.drop_eq_getElem_cons (by omega)]
    rfl
  have ysome : ∀ k, k < 6 → ∃ y, ys[k]? = some y := fun k hk => ⟨ys[k]'(by omega), List.getElem?_eq_getElem _⟩
  have t0 : DataW.trod enc Try.prog W 0 (fun _ => true) true n' 3 (List.take (Try.prog.cellsOf 3) (List.drop 0 cs)) = ys[0]? := hg 0 _ rfl
  have t1 : DataW.trod enc Try.prog W 0 (fun _ => true) true n' 3 (List.take (Try.prog.cellsOf 3) (List.drop 1 cs)) = ys[1]? := hg 1 _ rfl
  have t2 : DataW.trod enc Try.prog W 0 (fun _ => true) true n' 3 (List.take (Try.prog.cellsOf 3) (List.drop 2 cs)) = ys[2]? := hg 2 _ rfl
  have t3 : DataW.trod enc Try.prog W 0 (fun _ => true) true n' 33 (List.take (Try.prog.cellsOf 33) (List.drop 3 cs)) = ys[3]? := hg 3 _ rfl
  have t6 : DataW.trod enc Try.prog W 0 (fun _ => true) true n' 3 (List.take (Try.prog.cellsOf 3) (List.drop 6 cs)) = ys[4]? := hg 4 _ rfl
  have t7 : DataW.trod enc Try.prog W 0 (fun _ => true) true n' 22 (List.take (Try.prog.cellsOf 22) (List.drop 7 cs)) = ys[5]? := hg 5 _ rfl
  obtain ⟨v0, c0, d0⟩ := one 0 (by omega)
  obtain ⟨v1, c1, d1⟩ := one 1 (by omega)
  obtain ⟨v2, c2, d2⟩ := one 2 (by omega)
  obtain ⟨v6, c6, d6⟩ := one 6 (by omega)
  obtain ⟨v7, c7, d7⟩ := one 7 (by omega)
  obtain ⟨y0, h0⟩ := ysome 0 (by omega)
  obtain ⟨y1, h1⟩ := ysome 1 (by omega)
  obtain ⟨y2, h2⟩ := ysome 2 (by omega)
  obtain ⟨y3, h3⟩ := ysome 3 (by omega)
  obtain ⟨y4, h4⟩ := ysome 4 (by omega)
  obtain ⟨y5, h5⟩ := ysome 5 (by omega)
  rw [e1, d0, h0] at t0
  rw [e1, d1, h1] at t1
  rw [e1, d2, h2] at t2
  rw [h3] at t3
  rw [e1, d6, h4] at t6
  rw [e8, d7, h5] at t7
  obtain ⟨x0, q0, _, g0⟩ := DataW.trod_int Try.underlying3 t0
  obtain ⟨x1, q1, _, g1⟩ := DataW.trod_int Try.underlying3 t1
  obtain ⟨x2, q2, _, g2⟩ := DataW.trod_int Try.underlying3 t2
  obtain ⟨x6, q6, _, g6⟩ := DataW.trod_int Try.underlying3 t6
  obtain ⟨zs, hzl, hzs, hzw⟩ := ints_of_array Try.underlying33 Try.underlying3 e1 e3 t3
  obtain ⟨A, b, c, q7, hbc, hcm, hB, _⟩ := open_bytes Try.underlying22 Try.underlying5 (by kernel_rfl) t7
  simp at q0 q1 q2 q6
  rw [e3] at hzs
  match zs, hzl with
  | [z0, z1, z2], _ =>
    have ha : ∀ i, i < 3 → cs[3 + i]? = ([z0, z1, z2].map (Value.int .i64))[i]? := fun i hi => by
      rw [← hzs, List.getElem?_take_of_lt hi, List.getElem?_drop]
    refine ⟨⟨A, c, ⟨x0, x1, x2, z0, z1, z2, x6, b⟩⟩, ?_, ⟨⟨wf_i64 g0, wf_i64 g1, wf_i64 g2, wf_i64 (hzw z0 (by simp)), wf_i64 (hzw z1 (by simp)), wf_i64 (hzw z2 (by simp)), wf_i64 g6⟩, hbc, hcm, hB⟩⟩
    apply List.ext_getElem?
    intro i
    match i with
    | 0 => rw [c0, q0]; rfl
    | 1 => rw [c1, q1]; rfl
    | 2 => rw [c2, q2]; rfl
    | 3 => exact ha 0 (by omega)
    | 4 => exact ha 1 (by omega)
    | 5 => exact ha 2 (by omega)
    | 6 => rw [c6, q6]; rfl
    | 7 => rw [c7, q7]; rfl
    | n + 8 => rw [List.getElem?_eq_none (by rw [hl]; omega), List.getElem?_eq_none (by show 8 ≤ n + 8; omega)]

end Go.Proofs.Ytbhgaaendekghaa
