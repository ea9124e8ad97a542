/-
  Effects (api.Effect) that came in, opened to cells; how many bytes their Data take.
  No conditions.
-/
import Derived.Test.YtbhgaaendekghaaEfF
import Derived.Test.YtbhgaaendekghaaRow
import Derived.Test.YtbhgaaendekghaaOpen
namespace Go.Proofs.Ytbhgaaendekghaa
open Go.ChangeShapes Go.WideShapes Go.ChangeAt Go.RowKit Go.Deep

theorem weightsAll_mem {H : Type} {P : Program} {e : TypeId} : ∀ {l : List (DataW H)} {d : DataW H}, d ∈ l → ∀ n ∈ d.weights P e, n ∈ DataW.weightsAll P e l
  | d' :: r, d, hd, n, hn => by
    simp only [DataW.weightsAll, List.mem_append]
    rcases List.mem_cons.1 hd with rfl | h
    · exact Or.inl hn
    · exact Or.inr (weightsAll_mem h n hn)

theorem byte_size : Try.prog.bytesOf 5 = 1 := by kernel_rfl
/-- Bytes of an argument take no more than their weight. -/
theorem bytes_weight {H : Type} {enc : TypeId × Value → H} {W : World} {fuel : Nat} {A : Option Addr} {len cap R : Nat} {x : DataW H × List MemPlace}
    (h : DataW.trod enc Try.prog W 0 (fun _ => true) true fuel 22 [.slice A len cap] = some x) (hw : ∀ n ∈ x.1.weights Try.prog 22, n ≤ R) : len ≤ R := by
  rcases open_ints Try.underlying22 Try.underlying5 (by kernel_rfl) h with ⟨hcs, _⟩ | ⟨a, len', cap', zs, hcs, _, hl, _, hz, hx, _, _⟩
  · simp at hcs
    omega
  · simp at hcs
    obtain ⟨_, rfl, rfl⟩ := hcs
    rw [hx] at hw
    have h1 := hw (((lits .u8 (zs.take len)).length + (lits .u8 (zs.drop len)).length) * Try.prog.bytesOf 5) (by simp only [DataW.weights, Try.underlying22, List.mem_cons]; exact .inl rfl)
    rw [byte_size, Nat.mul_one] at h1
    have h2 : (lits (H := H) .u8 (zs.take len)).length = len := by
      unfold lits
      rw [List.length_map, List.length_take, hz, if_pos rfl]
      omega
    omega

set_option maxRecDepth 100000 in
theorem msg_weight {H : Type} {enc : TypeId × Value → H} {W : World} {fuel : Nat} {A : Option Addr} {c R : Nat} {m : M} {x : DataW H × List MemPlace}
    (h : DataW.trod enc Try.prog W 0 (fun _ => true) true fuel 26 (mcells A c m) = some x) (hw : ∀ n ∈ x.1.weights Try.prog 26, n ≤ R) : m.data.length ≤ R := by
  obtain ⟨ys, n', hn', hy, hlen, hyl, hg⟩ := DataW.trod_struct Try.underlying26 h
  have hyl : ys.length = 6 := hyl
  have e8 : Try.prog.cellsOf 22 = 1 := by kernel_rfl
  have t8 : DataW.trod enc Try.prog W 0 (fun _ => true) true n' 22 (List.take (Try.prog.cellsOf 22) (List.drop 8 (mcells A c m))) = ys[5]? := hg 5 _ rfl
  have h5 : ys[5]? = some (ys[5]'(by omega)) := List.getElem?_eq_getElem _
  rw [e8, h5] at t8
  refine bytes_weight t8 (fun n hn => hw n ?_)
  rw [hy]
  simp only [DataW.weights, Try.underlying26]
  refine DataW.weights_mem_each (j := 5) (t := 22) (d := (ys[5]'(by omega)).1) rfl ?_ n hn
  rw [List.getElem?_map, h5]
  rfl

set_option maxRecDepth 100000 in
theorem effect_of_trod {H : Type} {enc : TypeId × Value → H} {W : World} {fuel : Nat} {cs : List Value} {x : DataW H × List MemPlace}
    (h : DataW.trod enc Try.prog W 0 (fun _ => true) true fuel 58 cs = some x) : ∃ r : FR, cs = r.cells ∧ FR.ok W W.heap.size r ∧ ∀ R, (∀ n ∈ x.1.weights Try.prog 58, n ≤ R) → r.x.data.length ≤ R ∧ r.x.msg.data.length ≤ R := by
  obtain ⟨ys, n', hn', hy, hlen, hyl, hg⟩ := DataW.trod_struct Try.underlying58 h
  have hl : cs.length = 15 := by
    rw [hlen]
    kernel_rfl
  have hyl : ys.length = 4 := hyl
  have e1 : Try.prog.cellsOf 3 = 1 := by kernel_rfl
  have e4 : Try.prog.cellsOf 24 = 4 := by kernel_rfl
  have e8 : Try.prog.cellsOf 22 = 1 := by kernel_rfl
  have e9 : Try.prog.cellsOf 26 = 9 := by kernel_rfl
  have one : ∀ k, k < 15 → ∃ v, cs[k]? = some v ∧ List.take 1 (List.drop k cs) = [v] := fun k hk => by
    refine ⟨cs[k]'(by omega), List.getElem?_eq_getElem _, ?_⟩
    rw [List.drop_eq_getElem_cons (by omega)]
    rfl
  have t0 : DataW.trod enc Try.prog W 0 (fun _ => true) true n' 3 (List.take (Try.prog.cellsOf 3) (List.drop 0 cs)) = ys[0]? := hg 0 _ rfl
  have t1 : DataW.trod enc Try.prog W 0 (fun _ => true) true n' 24 (List.take (Try.prog.cellsOf 24) (List.drop 1 cs)) = ys[1]? := hg 1 _ rfl
  have t5 : DataW.trod enc Try.prog W 0 (fun _ => true) true n' 26 (List.take (Try.prog.cellsOf 26) (List.drop 5 cs)) = ys[2]? := hg 2 _ rfl
  have t14 : DataW.trod enc Try.prog W 0 (fun _ => true) true n' 22 (List.take (Try.prog.cellsOf 22) (List.drop 14 cs)) = ys[3]? := hg 3 _ rfl
  obtain ⟨v0, c0, d0⟩ := one 0 (by omega)
  obtain ⟨v14, c14, d14⟩ := one 14 (by omega)
  have h0 : ys[0]? = some (ys[0]'(by omega)) := List.getElem?_eq_getElem _
  have h1 : ys[1]? = some (ys[1]'(by omega)) := List.getElem?_eq_getElem _
  have h2 : ys[2]? = some (ys[2]'(by omega)) := List.getElem?_eq_getElem _
  have h3 : ys[3]? = some (ys[3]'(by omega)) := List.getElem?_eq_getElem _
  rw [e1, d0, h0] at t0
  rw [h1] at t1
  rw [h2] at t5
  rw [e8, d14, h3] at t14
  obtain ⟨x0, q0, _, g0⟩ := DataW.trod_int Try.underlying3 t0
  obtain ⟨zs, hzl, hzs, hzw⟩ := ints_of_array Try.underlying24 Try.underlying3 e1 e4 t1
  obtain ⟨Am, cm, m, hm, hok⟩ := msg_of_trod t5
  obtain ⟨A, b, c, q14, hbc, hcm, hB, _⟩ := open_bytes Try.underlying22 Try.underlying5 (by kernel_rfl) t14
  simp at q0
  rw [e4] at hzs
  rw [e9] at hm t5
  have hw5 : ∀ R, (∀ n ∈ x.1.weights Try.prog 58, n ≤ R) → b.length ≤ R ∧ m.data.length ≤ R := fun R hw => by
    rw [hy] at hw
    simp only [DataW.weights, Try.underlying58] at hw
    refine ⟨?_, ?_⟩
    · rw [q14] at t14
      refine bytes_weight t14 (fun n hn => hw n ?_)
      refine DataW.weights_mem_each (j := 3) (t := 22) (d := (ys[3]'(by omega)).1) rfl ?_ n hn
      rw [List.getElem?_map, h3]
      rfl
    · rw [hm] at t5
      refine msg_weight t5 (fun n hn => hw n ?_)
      refine DataW.weights_mem_each (j := 2) (t := 26) (d := (ys[2]'(by omega)).1) rfl ?_ n hn
      rw [List.getElem?_map, h2]
      rfl
  match zs, hzl with
  | [z0, z1, z2, z3], _ =>
    have ha : ∀ i, i < 4 → cs[1 + i]? = ([z0, z1, z2, z3].map (Value.int .i64))[i]? := fun i hi => by
      rw [← hzs, List.getElem?_take_of_lt hi, List.getElem?_drop]
    have hb : ∀ i, i < 9 → cs[5 + i]? = (mcells Am cm m)[i]? := fun i hi => by
      rw [← hm, List.getElem?_take_of_lt hi, List.getElem?_drop]
    refine ⟨⟨Am, cm, A, c, ⟨x0, z0, z1, z2, z3, m, b⟩⟩, ?_, ⟨⟨?_, hok.fits⟩, hok.cap, hok.most, hok.data, hbc, hcm, hB⟩, hw5⟩
    · apply List.ext_getElem?
      intro i
      match i with
      | 0 => rw [c0, q0]; rfl
      | 1 => exact ha 0 (by omega)
      | 2 => exact ha 1 (by omega)
      | 3 => exact ha 2 (by omega)
      | 4 => exact ha 3 (by omega)
      | 5 => exact hb 0 (by omega)
      | 6 => exact hb 1 (by omega)
      | 7 => exact hb 2 (by omega)
      | 8 => exact hb 3 (by omega)
      | 9 => exact hb 4 (by omega)
      | 10 => exact hb 5 (by omega)
      | 11 => exact hb 6 (by omega)
      | 12 => exact hb 7 (by omega)
      | 13 => exact hb 8 (by omega)
      | 14 => rw [c14, q14]; rfl
      | n + 15 => rw [List.getElem?_eq_none (by rw [hl]; omega), List.getElem?_eq_none (by show 15 ≤ n + 15; omega)]
    · intro z hz
      unfold Ef.nums at hz
      simp only [List.mem_cons, List.not_mem_nil, or_false] at hz
      rcases hz with rfl | rfl | rfl | rfl | rfl
      · exact mwf_i64 g0
      · exact mwf_i64 (hzw _ (by simp))
      · exact mwf_i64 (hzw _ (by simp))
      · exact mwf_i64 (hzw _ (by simp))
      · exact mwf_i64 (hzw _ (by simp))

set_option maxRecDepth 100000 in
/-- A list of effects as an argument. -/
theorem open_effects {H : Type} {enc : TypeId × Value → H} {W : World} {v : Value} {d : DataW H} {p : List MemPlace} {base R : Nat}
    (hv : Value.okWide Try.prog W .any base 30 v) (h : DataW.Trod enc Try.prog W 0 (fun _ => true) true 30 v d p) (hw : ∀ n ∈ d.weights Try.prog 30, n ≤ R) :
    ∃ (A : Option Addr) (rs : List FR) (c : Nat), v = .slice A rs.length c ∧ rs.length ≤ c ∧ c ≤ maxLen ∧ Fs W W.heap.size A rs ∧ ∀ r ∈ rs, r.x.data.length ≤ R ∧ r.x.msg.data.length ≤ R := by
  obtain ⟨a0, len0, cap0, rfl⟩ := okWide_slice Try.underlying30 hv
  obtain ⟨fuel, hf⟩ := h
  have hf' : DataW.trod enc Try.prog W 0 (fun _ => true) true fuel 30 [.slice a0 len0 cap0] = some (d, p) := hf
  have hC : Try.prog.cellsOf 58 = 15 := by kernel_rfl
  rcases open_slice Try.underlying30 hf' with ⟨hcs, _⟩ | ⟨a, len, cap, m, n, D, Pl, hcs, hb, hl, hm, hmm, hx, hi⟩
  · simp at hcs
    obtain ⟨rfl, rfl, rfl⟩ := hcs
    exact ⟨none, [], 0, rfl, Nat.le_refl _, by unfold maxLen; omega, ⟨Rd.nil, fun r hr => by cases hr⟩, fun r hr => by cases hr⟩
  · simp at hcs
    obtain ⟨rfl, rfl, rfl⟩ := hcs
    injection hx with hx _
    obtain ⟨rs, hrl, hrs⟩ := list_of_lt (p := fun i (r : FR) => (∀ j u, r.cells[j]? = some u → W.cell? (a.add (i * 15 + j)) = some u) ∧ FR.ok W W.heap.size r ∧ (r.x.data.length ≤ R ∧ r.x.msg.data.length ≤ R)) len0 (by
      intro i him
      obtain ⟨cs', hc, ht'⟩ := hi i (by rw [hmm]; split <;> omega)
      rw [hC] at hc
      obtain ⟨_, hcl, hat⟩ := World.cells?_some hc
      obtain ⟨r, rfl, hok, hwt⟩ := effect_of_trod ht'
      refine ⟨r, fun j u hj => ?_, hok, hwt R (fun n hn => hw n ?_)⟩
      · have hjl : j < 15 := by
          have := (List.getElem?_eq_some_iff.1 hj).1
          rwa [FR.cells_len] at this
        rw [← Go.Deep.add_add, hat j hjl]
        exact hj
      · rw [hx]
        simp only [DataW.weights, Try.underlying30, List.mem_cons, List.mem_append]
        exact .inr (.inl (weightsAll_mem (List.mem_map.2 ⟨i, List.mem_range.2 him, rfl⟩) n hn)))
    subst hrl
    refine ⟨some a, rs, cap0, rfl, hl, hm, ⟨?_, fun r hr => ?_⟩, fun r hr => ?_⟩
    · refine Rd.rows FR.cells_len (by omega) rfl fun h0 => ?_
      have hr0 : rs[0]? = some rs[0] := List.getElem?_eq_getElem h0
      have hc0 := (hrs 0 _ hr0).1 0 _ rfl
      obtain ⟨b, off, spot⟩ := a
      have hspot : spot = none := by
        have := World.cell?_spot hc0
        simpa [Addr.add] using this
      subst hspot
      refine ⟨b, off, rfl, ?_, fun i r hr j u hu => ?_⟩
      · have := lt_of_cell hc0
        simpa [Addr.add] using this
      · rw [← add_at]
        exact (hrs i r hr).1 j u hu
    · obtain ⟨i, hi'⟩ := List.getElem?_of_mem hr
      exact (hrs i r hi').2.1
    · obtain ⟨i, hi'⟩ := List.getElem?_of_mem hr
      exact (hrs i r hi').2.2

end Go.Proofs.Ytbhgaaendekghaa
