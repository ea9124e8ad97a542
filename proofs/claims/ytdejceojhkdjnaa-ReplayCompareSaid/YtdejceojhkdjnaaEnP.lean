/-
  Entries (api.Entry) as values: eight cells, the last a slice of bytes; a list of entries that came in, opened to cells.
  No conditions: definitions and general laws.
-/
import Derived.Test.YtdejceojhkdjnaaClone
import Derived.Test.YtdejceojhkdjnaaRow
namespace Go.Proofs.Ytdejceojhkdjnaa
open Go.ChangeShapes Go.WideShapes Go.ChangeAt Go.RowKit Go.Deep

structure En where
  kind : Int
  task : Int
  call : Int
  a0 : Int
  a1 : Int
  a2 : Int
  result : Int
  data : List UInt8
/-- An entry and where its Data lies. -/
structure ER where
  A : Option Addr
  c : Nat
  x : En
def ER.cells (r : ER) : List Value :=
  [.int .i64 r.x.kind, .int .i64 r.x.task, .int .i64 r.x.call, .int .i64 r.x.a0, .int .i64 r.x.a1, .int .i64 r.x.a2, .int .i64 r.x.result, .slice r.A r.x.data.length r.c]
theorem ER.cells_len (r : ER) : r.cells.length = 8 := rfl
theorem ER.cells_one (r : ER) : ∀ u ∈ r.cells, u.oneCell' = true := by
  intro u hu
  simp only [ER.cells, List.mem_cons, List.not_mem_nil, or_false] at hu
  rcases hu with rfl | rfl | rfl | rfl | rfl | rfl | rfl | rfl <;> rfl

def I64 (n : Int) : Prop := -9223372036854775808 ≤ n ∧ n ≤ 9223372036854775807
/-- The numbers of an entry are of type int. -/
structure En.fits (x : En) : Prop where
  kind : I64 x.kind
  task : I64 x.task
  call : I64 x.call
  a0 : I64 x.a0
  a1 : I64 x.a1
  a2 : I64 x.a2
  result : I64 x.result
/-- An entry whose Data can be read. -/
structure ER.ok (w : World) (B : Nat) (r : ER) : Prop where
  fits : r.x.fits
  c : r.x.data.length ≤ r.c
  most : r.c ≤ maxLen
  data : Bs w B r.A r.x.data
theorem ER.ok.onlyNil {w w' : World} {B : Nat} {r : ER} (h : ER.ok w B r) (hO : Only Nil w w') (hB : B ≤ w.heap.size) : ER.ok w' B r := ⟨h.fits, h.c, h.most, h.data.onlyNil hO hB⟩
theorem ER.ok.up {w : World} {B B' : Nat} {r : ER} (h : ER.ok w B r) (hB : B ≤ B') : ER.ok w B' r := ⟨h.fits, h.c, h.most, h.data.up hB⟩

theorem wf_i64 {z : Int} (h : (Lit.int .i64 z).wf = true) : I64 z := by
  simp [Lit.wf, IntKind.min, IntKind.max, IntKind.signed, IntKind.bits] at h
  unfold I64
  omega

set_option maxRecDepth 100000 in
theorem entry_of_trod {H : Type} {enc : TypeId × Value → H} {W : World} {fuel : Nat} {cs : List Value} {x : DataW H × List MemPlace}
    (h : DataW.trod enc Try.prog W 0 (fun _ => true) true fuel 42 cs = some x) : ∃ r : ER, cs = r.cells ∧ ER.ok W W.heap.size r := by
  obtain ⟨ys, n', hn', hy, hlen, hyl, hg⟩ := DataW.trod_struct Try.underlying42 h
  have hl : cs.length = 8 := by
    rw [hlen]
    kernel_rfl
  have hyl : ys.length = 6 := hyl
  have e1 : Try.prog.cellsOf 3 = 1 := by kernel_rfl
  have e3 : Try.prog.cellsOf 37 = 3 := by kernel_rfl
  have e8 : Try.prog.cellsOf 38 = 1 := by kernel_rfl
  have one : ∀ k, k < 8 → ∃ v, cs[k]? = some v ∧ List.take 1 (List.drop k cs) = [v] := fun k hk => by
    refine ⟨cs[k]'(by omega), List.getElem?_eq_getElem _, ?_⟩
    rw [List.drop_eq_getElem_cons (by omega)]
    rfl
  have ysome : ∀ k, k < 6 → ∃ y, ys[k]? = some y := fun k hk => ⟨ys[k]'(by omega), List.getElem?_eq_getElem _⟩
  have t0 : DataW.trod enc Try.prog W 0 (fun _ => true) true n' 3 (List.take (Try.prog.cellsOf 3) (List.drop 0 cs)) = ys[0]? := hg 0 _ rfl
  have t1 : DataW.trod enc Try.prog W 0 (fun _ => true) true n' 3 (List.take (Try.prog.cellsOf 3) (List.drop 1 cs)) = ys[1]? := hg 1 _ rfl
  have t2 : DataW.trod enc Try.prog W 0 (fun _ => true) true n' 3 (List.take (Try.prog.cellsOf 3) (List.drop 2 cs)) = ys[2]? := hg 2 _ rfl
  have t3 : DataW.trod enc Try.prog W 0 (fun _ => true) true n' 37 (List.take (Try.prog.cellsOf 37) (List.drop 3 cs)) = ys[3]? := hg 3 _ rfl
  have t6 : DataW.trod enc Try.prog W 0 (fun _ => true) true n' 3 (List.take (Try.prog.cellsOf 3) (List.drop 6 cs)) = ys[4]? := hg 4 _ rfl
  have t7 : DataW.trod enc Try.prog W 0 (fun _ => true) true n' 38 (List.take (Try.prog.cellsOf 38) (List.drop 7 cs)) = ys[5]? := hg 5 _ rfl
  obtain ⟨v0, c0, d0⟩ := one 0 (by omega)
  obtain ⟨v1, c1, d1⟩ := one 1 (by omega)
  obtain ⟨v2, c2, d2⟩ := one 2 (by omega)
  obtain ⟨v6, c6, d6⟩ := one 6 (by omega)
  obtain ⟨v7, c7, d7⟩ := one 7 (by omega)
  obtain ⟨y0, h0⟩ := ysome 0 (by omega)
  obtain ⟨y1, h1⟩ := ysome 1 (by omega)
  obtain ⟨y2, h2⟩ := ysome 2 (by omega)
  obtain ⟨y3, h3⟩ := ysome 3 (by omega)
  obtain ⟨y4, h4⟩ := ysome 4 (by omega)
  obtain ⟨y5, h5⟩ := ysome 5 (by omega)
  rw [e1, d0, h0] at t0
  rw [e1, d1, h1] at t1
  rw [e1, d2, h2] at t2
  rw [h3] at t3
  rw [e1, d6, h4] at t6
  rw [e8, d7, h5] at t7
  obtain ⟨x0, q0, _, g0⟩ := DataW.trod_int Try.underlying3 t0
  obtain ⟨x1, q1, _, g1⟩ := DataW.trod_int Try.underlying3 t1
  obtain ⟨x2, q2, _, g2⟩ := DataW.trod_int Try.underlying3 t2
  obtain ⟨x6, q6, _, g6⟩ := DataW.trod_int Try.underlying3 t6
  obtain ⟨zs, hzl, hzs, hzw⟩ := ints_of_array Try.underlying37 Try.underlying3 e1 e3 t3
  obtain ⟨A, b, c, q7, hbc, hcm, hB, _⟩ := open_bytes Try.underlying38 Try.underlying5 (by kernel_rfl) t7
  simp at q0 q1 q2 q6
  rw [e3] at hzs
  match zs, hzl with
  | [z0, z1, z2], _ =>
    have ha : ∀ i, i < 3 → cs[3 + i]? = ([z0, z1, z2].map (Value.int .i64))[i]? := fun i hi => by
      rw [← hzs, List.getElem?_take_of_lt hi, List.getElem?_drop]
    refine ⟨⟨A, c, ⟨x0, x1, x2, z0, z1, z2, x6, b⟩⟩, ?_, ⟨⟨wf_i64 g0, wf_i64 g1, wf_i64 g2, wf_i64 (hzw z0 (by simp)), wf_i64 (hzw z1 (by simp)), wf_i64 (hzw z2 (by simp)), wf_i64 g6⟩, hbc, hcm, hB⟩⟩
    apply List.ext_getElem?
    intro i
    match i with
    | 0 => rw [c0, q0]; rfl
    | 1 => rw [c1, q1]; rfl
    | 2 => rw [c2, q2]; rfl
    | 3 => exact ha 0 (by omega)
    | 4 => exact ha 1 (by omega)
    | 5 => exact ha 2 (by omega)
    | 6 => rw [c6, q6]; rfl
    | 7 => rw [c7, q7]; rfl
    | n + 8 => rw [List.getElem?_eq_none (by rw [hl]; omega), List.getElem?_eq_none (by show 8 ≤ n + 8; omega)]

/-- The slice value '.slice A rs.length c' reads the entries rs. -/
structure Es (w : World) (B : Nat) (A : Option Addr) (rs : List ER) : Prop where
  rd : Rd w B 8 A rs.length (rs.flatMap ER.cells)
  ok : ∀ r ∈ rs, ER.ok w B r
theorem Es.onlyNil {w w' : World} {B : Nat} {A : Option Addr} {rs : List ER} (h : Es w B A rs) (hO : Only Nil w w') (hB : B ≤ w.heap.size) : Es w' B A rs := ⟨Rd.onlyNil h.rd hO hB, fun r hr => (h.ok r hr).onlyNil hO hB⟩
theorem Es.up {w : World} {B B' : Nat} {A : Option Addr} {rs : List ER} (h : Es w B A rs) (hB : B ≤ B') : Es w B' A rs := ⟨Rd.more h.rd hB, fun r hr => (h.ok r hr).up hB⟩
theorem Es.next {w w' : World} {A : Option Addr} {rs : List ER} (h : Es w w.heap.size A rs) (hO : Only Nil w w') : Es w' w'.heap.size A rs := (h.onlyNil hO (Nat.le_refl _)).up hO.size
theorem Es.at_ {w : World} {B : Nat} {A : Option Addr} {rs : List ER} (h : Es w B A rs) {k : Nat} {r : ER} (hk : rs[k]? = some r) :
    ∃ b off, A = some ⟨b, off, none⟩ ∧ b < B ∧ ∀ j u, r.cells[j]? = some u → w.cell? ⟨b, off + (k * 8 + j), none⟩ = some u :=
  Rd.row ER.cells_len h.rd hk (by omega)
theorem Es.take {w : World} {B : Nat} {A : Option Addr} {rs : List ER} (h : Es w B A rs) (k : Nat) (hk : k ≤ rs.length) : Es w B A (rs.take k) := by
  have h1 := Rd.take h.rd hk
  rw [flat_take ER.cells_len] at h1
  refine ⟨?_, fun r hr => h.ok r (List.mem_of_mem_take hr)⟩
  rwa [List.length_take, Nat.min_eq_left hk]

set_option maxRecDepth 100000 in
/-- A list of entries as an argument. -/
theorem open_entries {H : Type} {enc : TypeId × Value → H} {W : World} {v : Value} {d : DataW H} {p : List MemPlace} {base : Nat}
    (hv : Value.okWide Try.prog W .any base 22 v) (h : DataW.Trod enc Try.prog W 0 (fun _ => true) true 22 v d p) :
    ∃ (A : Option Addr) (rs : List ER) (c : Nat), v = .slice A rs.length c ∧ rs.length ≤ c ∧ c ≤ maxLen ∧ Es W W.heap.size A rs := by
  obtain ⟨a0, len0, cap0, rfl⟩ := okWide_slice Try.underlying22 hv
  obtain ⟨fuel, hf⟩ := h
  have hf' : DataW.trod enc Try.prog W 0 (fun _ => true) true fuel 22 [.slice a0 len0 cap0] = some (d, p) := hf
  have hC : Try.prog.cellsOf 42 = 8 := by kernel_rfl
  rcases open_slice Try.underlying22 hf' with ⟨hcs, _⟩ | ⟨a, len, cap, m, n, D, Pl, hcs, hb, hl, hm, hmm, hx, hi⟩
  · simp at hcs
    obtain ⟨rfl, rfl, rfl⟩ := hcs
    exact ⟨none, [], 0, rfl, Nat.le_refl _, by unfold maxLen; omega, ⟨Rd.nil, fun r hr => by cases hr⟩⟩
  · simp at hcs
    obtain ⟨rfl, rfl, rfl⟩ := hcs
    obtain ⟨rs, hrl, hrs⟩ := list_of_lt (p := fun i (r : ER) => (∀ j u, r.cells[j]? = some u → W.cell? (a.add (i * 8 + j)) = some u) ∧ ER.ok W W.heap.size r) len0 (by
      intro i him
      obtain ⟨cs', hc, ht'⟩ := hi i (by rw [hmm]; split <;> omega)
      rw [hC] at hc
      obtain ⟨_, hcl, hat⟩ := World.cells?_some hc
      obtain ⟨r, rfl, hok⟩ := entry_of_trod ht'
      refine ⟨r, fun j u hj => ?_, hok⟩
      have hjl : j < 8 := by
        have := (List.getElem?_eq_some_iff.1 hj).1
        rwa [ER.cells_len] at this
      rw [← Go.Deep.add_add, hat j hjl]
      exact hj)
    subst hrl
    refine ⟨some a, rs, cap0, rfl, hl, hm, ⟨?_, fun r hr => ?_⟩⟩
    · refine Rd.rows ER.cells_len (by omega) rfl fun h0 => ?_
      have hr0 : rs[0]? = some rs[0] := List.getElem?_eq_getElem h0
      have hc0 := (hrs 0 _ hr0).1 0 _ rfl
      obtain ⟨b, off, spot⟩ := a
      have hspot : spot = none := by
        have := World.cell?_spot hc0
        simpa [Addr.add] using this
      subst hspot
      refine ⟨b, off, rfl, ?_, fun i r hr j u hu => ?_⟩
      · have := lt_of_cell hc0
        simpa [Addr.add] using this
      · rw [← add_at]
        exact (hrs i r hr).1 j u hu
    · obtain ⟨i, hi'⟩ := List.getElem?_of_mem hr
      exact (hrs i r hi').2

end Go.Proofs.Ytdejceojhkdjnaa
