/-
  Walks of slices.IndexFunc, slices.DeleteFunc with the closure of Drop.
  Conditions: the messages lie in a row that is known whole.
-/
import Derived.Test.YtljfblnpgeconaaRiW3
import Derived.Laws.IdiomCopy
import Derived.LoopTactic
import Derived.Deep.CutRange
import Derived.Deep.DeepCutAuto
namespace Go.Proofs.Ytljfblnpgeconaa
open Go.RowKit

def rcells (r : Option Addr × Nat × M) : List Value := mcells r.1 r.2.1 r.2.2
theorem rcells_len (r : Option Addr × Nat × M) : (rcells r).length = 9 := rfl

/-- Cells of a block stored from o on: those ahead of o stay. -/
theorem Blk.setCells {t : TypeId} {g : Nat} : ∀ (vs : List Value) (o : Nat) {w : World} {cs : Array Value}, Blk w g t cs → ∃ cs', Blk (w.setCells g o vs) g t cs' ∧ cs'.size = cs.size ∧ ∀ j, j < o → cs'[j]? = cs[j]? := by
  intro vs
  induction vs with
  | nil => intro o w cs h; exact ⟨cs, h, rfl, fun _ _ => rfl⟩
  | cons v vs ih =>
    intro o w cs h
    obtain ⟨cs', h1, h2, h3⟩ := ih (o + 1) (h.set_ o v)
    refine ⟨cs', h1, by rw [h2]; simp, fun j hj => ?_⟩
    rw [h3 j (by omega), Array.getElem?_setIfInBounds]
    rw [if_neg (by omega)]
theorem setCells_only (g : Nat) : ∀ (vs : List Value) (o : Nat) (w : World), Only (One g) w (w.setCells g o vs) := by
  intro vs
  induction vs with
  | nil => intro o w; exact Only.refl _ _
  | cons v vs ih =>
    intro o w
    exact ((Only.refl (One g) w).setCell (p := ⟨g, o, none⟩) (.inl rfl) v).then_ (ih (o + 1) _)

theorem run_clear_rows {P : Program} (w : World) (t e ty : TypeId) (z : Value) (ht : P.underlying t = some (.slice e)) (hv : ∀ w, (zeroValue e).run P w = .ok z w) (h1 : ∀ v ∈ z.cells.toList, v.oneCell' = true) (b o n c : Nat) (hn : 0 < n)
    (hc : ∀ j, j < n * z.cells.size → (w.cell? ⟨b, o + j, none⟩).isSome = true) (hf : ∀ j, w.frozen? ⟨b, j, none⟩ = false) (hz : 0 < z.cells.size) :
    (Builtin.clear_ #[t] ty #[.slice (some ⟨b, o, none⟩) n c]).run P w = .ok (.tuple #[]) (w.setCells b o (Builtin.zeroCells z.cells n).toList) := by
  have hl : (Builtin.zeroCells z.cells n).toList.length = n * z.cells.size := by simp [Builtin.zeroCells]
  have hst := run_storeCells_cells (P := P) b o (Builtin.zeroCells z.cells n).toList 0 w (by rw [hl]; simpa using hc) (fun j _ => hf _) (by
    intro v hv'
    simp only [Builtin.zeroCells, Array.toList_map, List.mem_map] at hv'
    obtain ⟨i, _, rfl⟩ := hv'
    refine h1 _ ?_
    have hlt : i % z.cells.size < z.cells.size := Nat.mod_lt _ hz
    rw [getElem!_pos z.cells _ hlt]
    exact Array.getElem_mem_toList hlt)
  simp only [Nat.add_zero] at hst
  obtain ⟨m, rfl⟩ : ∃ m, n = m + 1 := ⟨n - 1, by omega⟩
  simp [Builtin.clear_, run_underlying ht, hv, hst]

/-- The rows ss at block g, with room for cap. -/
structure DR (w : World) (g cap : Nat) (ss : List (Option Addr × Nat × M)) : Prop where
  le : ss.length ≤ cap
  most : cap ≤ maxLen
  blk : ∃ cur : Array Value, Blk w g 48 cur ∧ cur.size = cap * 9 ∧ cur.toList.take (ss.length * 9) = ss.flatMap rcells
theorem DR.only {w w' : World} {g cap : Nat} {ss : List (Option Addr × Nat × M)} {S : Nat → Prop} (h : DR w g cap ss) (hO : Only S w w') (hS : ¬ S g) : DR w' g cap ss := by
  obtain ⟨cur, h1, h2, h3⟩ := h.blk
  exact ⟨h.le, h.most, cur, h1.only hO hS, h2, h3⟩
theorem DR.onlyNil {w w' : World} {g cap : Nat} {ss : List (Option Addr × Nat × M)} (h : DR w g cap ss) (hO : Only Nil w w') : DR w' g cap ss := h.only hO fun hx => hx
theorem DR.frozen {w : World} {g cap : Nat} {ss : List (Option Addr × Nat × M)} (h : DR w g cap ss) (i : Nat) : w.frozen? ⟨g, i, none⟩ = false := by
  obtain ⟨cur, h1, _, _⟩ := h.blk
  exact h1.frozen i
theorem DR.lt {w : World} {g cap : Nat} {ss : List (Option Addr × Nat × M)} (h : DR w g cap ss) : g < w.heap.size := by
  obtain ⟨cur, h1, _, _⟩ := h.blk
  exact h1.lt
theorem DR.own {w : World} {g cap : Nat} {ss : List (Option Addr × Nat × M)} (h : DR w g cap ss) : w.ownsRow 0 48 9 (.slice (some ⟨g, 0, none⟩) ss.length cap) ss.length (ss.flatMap rcells) := by
  obtain ⟨cur, h1, h2, h3⟩ := h.blk
  exact ⟨flat_length rcells_len ss, .inr ⟨g, cap, cur, rfl, Nat.zero_le _, h1, h.le, h.most, h2, h3⟩⟩
theorem DR.of_own {w : World} {A : Option Addr} {n c : Nat} {ss : List (Option Addr × Nat × M)} (h : w.ownsRow 0 48 9 (.slice A n c) n (ss.flatMap rcells)) (hn : 0 < n) : ∃ g, A = some ⟨g, 0, none⟩ ∧ n = ss.length ∧ DR w g c ss := by
  have hl : ss.length = n := by have := h.1; rw [flat_length rcells_len] at this; omega
  subst hl
  rcases h.2 with ⟨_, h0⟩ | ⟨g, cap, cur, hv, _, h1, h2, h3, h4, h5⟩
  · omega
  · injection hv with e1 _ e3
    subst e1 e3
    exact ⟨g, rfl, rfl, h2, h3, cur, h1, h4, h5⟩
theorem DR.cell {w : World} {g cap : Nat} {ss : List (Option Addr × Nat × M)} (h : DR w g cap ss) {k : Nat} {r : Option Addr × Nat × M} (hk : ss[k]? = some r) (j : Nat) (hj : j < 9) : w.cell? ⟨g, k * 9 + j, none⟩ = (rcells r)[j]? := by
  obtain ⟨cur, h1, h2, h3⟩ := h.blk
  have hlt : k < ss.length := (List.getElem?_eq_some_iff.1 hk).1
  rw [h1.cell, ← Array.getElem?_toList, ← List.getElem?_take_of_lt (show k * 9 + j < ss.length * 9 by omega), h3, flat_get rcells_len ss k j hj, hk]
  rfl
theorem DR.there {w : World} {g cap : Nat} {ss : List (Option Addr × Nat × M)} (h : DR w g cap ss) (j : Nat) (hj : j < ss.length * 9) : (w.cell? ⟨g, j, none⟩).isSome = true := by
  obtain ⟨cur, h1, h2, _⟩ := h.blk
  have := h.le
  rw [h1.cell, Array.getElem?_eq_getElem (by omega)]
  rfl
theorem DR.set_ {w : World} {g cap : Nat} {ss : List (Option Addr × Nat × M)} (h : DR w g cap ss) {k : Nat} {r : Option Addr × Nat × M} (hk : ss[k]? = some r) (j : Nat) (hj : j < 9) (u : Value) (r' : Option Addr × Nat × M) (hr : (rcells r).set j u = rcells r') : DR (w.setCell ⟨g, k * 9 + j, none⟩ u) g cap (ss.set k r') := by
  obtain ⟨cur, h1, h2, h3⟩ := h.blk
  refine ⟨by rw [List.length_set]; exact h.le, h.most, _, h1.set_ (k * 9 + j) u, by simp [h2], ?_⟩
  rw [List.length_set, Array.toList_setIfInBounds, List.take_set, h3, ← flat_set rcells_len ss k j u r r' hk hj hr]
theorem DR.step {w : World} {g cap : Nat} {ss : List (Option Addr × Nat × M)} {k : Nat} {r : Option Addr × Nat × M} (h : DR w g cap (ss.set k r)) (hk : k < ss.length) (j : Nat) (hj : j < 9) (u : Value) (r' : Option Addr × Nat × M) (hr : (rcells r).set j u = rcells r') : DR (w.setCell ⟨g, k * 9 + j, none⟩ u) g cap (ss.set k r') := by
  have := h.set_ (k := k) (r := r) (by simp [hk]) j hj u r' hr
  rwa [List.set_set] at this
/-- A message stored whole into row k. -/
theorem DR.put {w : World} {g cap : Nat} {ss : List (Option Addr × Nat × M)} (h : DR w g cap ss) {k : Nat} (hk : k < ss.length) (A : Option Addr) (c : Nat) (m : M) :
    DR (((((((((w.setCell ⟨g, k * 9 + 0, none⟩ (.int .i64 m.src)).setCell ⟨g, k * 9 + 1, none⟩ (.int .i64 m.dst)).setCell ⟨g, k * 9 + 2, none⟩ (.int .i64 m.kind)).setCell ⟨g, k * 9 + 3, none⟩ (.int .i64 m.seq)).setCell ⟨g, k * 9 + 4, none⟩ (.int .i64 m.a0)).setCell ⟨g, k * 9 + 5, none⟩ (.int .i64 m.a1)).setCell ⟨g, k * 9 + 6, none⟩ (.int .i64 m.a2)).setCell ⟨g, k * 9 + 7, none⟩ (.int .i64 m.a3)).setCell ⟨g, k * 9 + 8, none⟩ (.slice A m.data.length c)) g cap (ss.set k (A, c, m)) := by
  obtain ⟨⟨Ao, co, mo⟩, hr⟩ : ∃ r, ss[k]? = some r := ⟨_, List.getElem?_eq_getElem hk⟩
  obtain ⟨src, dst, kind, seq, a0, a1, a2, a3, data⟩ := mo
  obtain ⟨src', dst', kind', seq', b0, b1, b2, b3, data'⟩ := m
  have h0 := h.set_ hr 0 (by omega) (.int .i64 src') (Ao, co, ⟨src', dst, kind, seq, a0, a1, a2, a3, data⟩) rfl
  have h1 := h0.step hk 1 (by omega) (.int .i64 dst') (Ao, co, ⟨src', dst', kind, seq, a0, a1, a2, a3, data⟩) rfl
  have h2 := h1.step hk 2 (by omega) (.int .i64 kind') (Ao, co, ⟨src', dst', kind', seq, a0, a1, a2, a3, data⟩) rfl
  have h3 := h2.step hk 3 (by omega) (.int .i64 seq') (Ao, co, ⟨src', dst', kind', seq', a0, a1, a2, a3, data⟩) rfl
  have h4 := h3.step hk 4 (by omega) (.int .i64 b0) (Ao, co, ⟨src', dst', kind', seq', b0, a1, a2, a3, data⟩) rfl
  have h5 := h4.step hk 5 (by omega) (.int .i64 b1) (Ao, co, ⟨src', dst', kind', seq', b0, b1, a2, a3, data⟩) rfl
  have h6 := h5.step hk 6 (by omega) (.int .i64 b2) (Ao, co, ⟨src', dst', kind', seq', b0, b1, b2, a3, data⟩) rfl
  have h7 := h6.step hk 7 (by omega) (.int .i64 b3) (Ao, co, ⟨src', dst', kind', seq', b0, b1, b2, b3, data⟩) rfl
  exact h7.step hk 8 (by omega) (.slice A data'.length c) (A, c, ⟨src', dst', kind', seq', b0, b1, b2, b3, data'⟩) rfl
/-- The first rows alone, where only what lies behind them has turned. -/
theorem DR.cut {w : World} {g cap : Nat} {ss : List (Option Addr × Nat × M)} (h : DR w g cap ss) (i : Nat) (hi : i ≤ ss.length) (vs : List Value) : DR (w.setCells g (i * 9) vs) g cap (ss.take i) := by
  obtain ⟨cur, h1, h2, h3⟩ := h.blk
  obtain ⟨cs', k1, k2, k3⟩ := h1.setCells vs (i * 9)
  have hl : (ss.take i).length = i := by rw [List.length_take]; omega
  refine ⟨by rw [hl]; exact Nat.le_trans hi h.le, h.most, cs', k1, by rw [k2, h2], ?_⟩
  rw [hl, ← flat_take rcells_len, ← h3, List.take_take, Nat.min_eq_left (by omega)]
  apply List.ext_getElem?
  intro j
  rcases Nat.lt_or_ge j (i * 9) with hj | hj
  · rw [List.getElem?_take_of_lt hj, List.getElem?_take_of_lt hj, Array.getElem?_toList, Array.getElem?_toList, k3 j hj]
  · rw [List.getElem?_eq_none (by rw [List.length_take]; omega), List.getElem?_eq_none (by rw [List.length_take]; omega)]

def keepR (src : Int) (r : Option Addr × Nat × M) : Bool := !(r.2.2.src == src)
/-- The place of the first message of src, counted from i, or -1. -/
def firstI (src : Int) : List (Option Addr × Nat × M) → Nat → Int
  | [], _ => -1
  | r :: rs, i => if r.2.2.src = src then (i : Int) else firstI src rs (i + 1)
theorem firstI_none {src : Int} : ∀ {rs : List (Option Addr × Nat × M)} {i : Nat}, firstI src rs i = -1 → rs.filter (keepR src) = rs := by
  intro rs
  induction rs with
  | nil => intro i _; rfl
  | cons r rs ih =>
    intro i h
    unfold firstI at h
    split at h
    · omega
    · rename_i hn
      rw [List.filter_cons_of_pos (by unfold keepR; simp [hn]), ih h]
theorem firstI_some {src : Int} : ∀ {rs : List (Option Addr × Nat × M)} {i k : Nat}, firstI src rs i = (k : Int) → i ≤ k ∧ k < i + rs.length ∧ (rs.take (k - i + 1)).filter (keepR src) = rs.take (k - i) := by
  intro rs
  induction rs with
  | nil => intro i k h; unfold firstI at h; omega
  | cons r rs ih =>
    intro i k h
    unfold firstI at h
    split at h
    · rename_i hs
      have : k = i := by omega
      subst this
      simp [keepR, hs]
    · rename_i hn
      obtain ⟨h1, h2, h3⟩ := ih h
      refine ⟨by omega, by simp only [List.length_cons]; omega, ?_⟩
      rw [show k - i + 1 = (k - (i + 1) + 1) + 1 by omega, List.take_succ_cons, List.filter_cons_of_pos (by unfold keepR; simp [hn]), h3, show k - i = (k - (i + 1)) + 1 by omega, List.take_succ_cons]
theorem firstI_range (src : Int) : ∀ (rs : List (Option Addr × Nat × M)) (i : Nat), firstI src rs i = -1 ∨ ∃ k : Nat, firstI src rs i = (k : Int) := by
  intro rs
  induction rs with
  | nil => intro i; exact .inl rfl
  | cons r rs ih =>
    intro i
    unfold firstI
    split
    · exact .inr ⟨i, rfl⟩
    · exact ih (i + 1)

/-- What is known inside DeleteFunc. -/
structure DelI (src : Int) (rs ss : List (Option Addr × Nat × M)) (i j : Nat) : Prop where
  len : ss.length = rs.length
  ij : i + 1 ≤ j
  jn : j ≤ rs.length
  front : ss.take i = (rs.take j).filter (keepR src)
  back : ss.drop j = rs.drop j
theorem DelI.get {src : Int} {rs ss : List (Option Addr × Nat × M)} {i j : Nat} (h : DelI src rs ss i j) : ss[j]? = rs[j]? := by
  have h1 : (ss.drop j)[0]? = (rs.drop j)[0]? := by rw [h.back]
  simpa using h1
theorem DelI.skip {src : Int} {rs ss : List (Option Addr × Nat × M)} {i j : Nat} {r : Option Addr × Nat × M} (h : DelI src rs ss i j) (hr : rs[j]? = some r) (hs : r.2.2.src = src) : DelI src rs ss i (j + 1) := by
  obtain ⟨hj, e⟩ := List.getElem?_eq_some_iff.1 hr
  refine ⟨h.len, by have := h.ij; omega, by omega, ?_, ?_⟩
  · rw [List.take_succ_eq_append_getElem hj, e, List.filter_append, ← h.front, List.filter_cons_of_neg (by unfold keepR; simp [hs])]
    simp
  · rw [← List.drop_drop, h.back, List.drop_drop]
theorem DelI.keep {src : Int} {rs ss : List (Option Addr × Nat × M)} {i j : Nat} {r : Option Addr × Nat × M} (h : DelI src rs ss i j) (hr : rs[j]? = some r) (hs : r.2.2.src ≠ src) : DelI src rs (ss.set i r) (i + 1) (j + 1) := by
  obtain ⟨hj, e⟩ := List.getElem?_eq_some_iff.1 hr
  have hij := h.ij
  have hl := h.len
  refine ⟨by rw [List.length_set]; exact hl, by omega, by omega, ?_, ?_⟩
  · rw [List.take_succ_eq_append_getElem hj, e, List.filter_append, ← h.front, List.filter_cons_of_pos (by unfold keepR; simp [hs]), List.take_succ_eq_append_getElem (by rw [List.length_set]; omega), List.take_set, List.set_eq_of_length_le (by rw [List.length_take]; omega)]
    simp
  · rw [List.drop_set, if_pos (by omega), ← List.drop_drop, h.back, List.drop_drop]
theorem DelI.done {src : Int} {rs ss : List (Option Addr × Nat × M)} {i j : Nat} (h : DelI src rs ss i j) (hj : j = rs.length) : ss.take i = rs.filter (keepR src) := by
  rw [h.front, hj, List.take_length]

/-- The closure of Drop. -/
theorem del_closure (src : Int) (bx : Nat) (A : Option Addr) (c : Nat) (m : M) (w : World) (hb : Blk w bx 3 #[.int .i64 src]) :
    Calls Try.prog 51 #[.agg (mcells A c m).toArray, .pointer (some ⟨bx, 0, none⟩)] w fun e w' => e = .returned (.bool (m.src == src)) ∧ Only Nil w w' := by
  have k0 : ∀ o, (w.alloc o).cell? ⟨bx, 0, none⟩ = some (.int .i64 src) := fun o => (hb.alloc o).cell 0
  have k1 : w.cell? ⟨bx, 0, none⟩ = some (.int .i64 src) := hb.cell 0
  have hne : w.heap.size ≠ bx := by have := hb.lt; omega
  have hne2 : bx ≠ w.heap.size := hne.symm
  unfold mcells
  clear hb
  go_enter Try.func51, Try.ntmps51
  go_wp2_with fail
  go_ret
  exact ⟨rfl, by (repeat' (first | with_reducible exact Only.refl _ _ | with_reducible refine Only.setCell ?_ (Or.inl ?_) _ | with_reducible refine Only.drewN ?_ _ | with_reducible refine Only.drew ?_ | with_reducible refine Only.alloc ?_ _ | (fail)))⟩

set_option maxRecDepth 100000 in
set_option maxHeartbeats 1000000 in
theorem index_any (src : Int) (bx g c : Nat) (rs : List (Option Addr × Nat × M)) (w : World) (h : DR w g c rs) (hb : Blk w bx 3 #[.int .i64 src]) (hl : rs.length ≤ 1000) :
    Calls Try.prog 68 #[.slice (some ⟨g, 0, none⟩) rs.length c, .func (Fn.func 51) #[] #[.pointer (some ⟨bx, 0, none⟩)]] w fun e w' => e = .returned (.int .i64 (firstI src rs 0)) ∧ Only Nil w w' := by
  obtain ⟨I, hI⟩ : ∃ I, firstI src rs 0 = I := ⟨_, rfl⟩
  obtain ⟨N, hN⟩ : ∃ N, rs.length = N := ⟨_, rfl⟩
  rw [hN] at hl
  rw [hI, hN]
  have HI := Lib.hid hI
  have HN := Lib.hid hN
  have H := Lib.hid h
  have HB := Lib.hid hb
  clear hI hN h hb
  go_enter Try.func68, Try.ntmps68
  go_wp2_with fail
  go_loopw [8] (fun i wr => ∃ k : Nat, k ≤ N ∧ i = .int .i64 k ∧ firstI src (rs.drop k) k = I ∧ Only Nil w wr) (fun i _ => N - (intOf i).toNat)
  case atStart => exact ⟨0, Nat.zero_le _, rfl, HI.out, Only.refl _ _⟩
  case round =>
    obtain ⟨k, hk, rfl, hf, hO⟩ := hrel
    have HF := Lib.hid hf
    have HO := Lib.hid hO
    clear hf hO
    by_cases hlt : k < N
    · obtain ⟨⟨A, cd, m⟩, hr⟩ : ∃ r, rs[k]? = some r := ⟨rs[k]'(by rw [HN.out]; exact hlt), List.getElem?_eq_getElem _⟩
      have hdr : rs.drop k = (A, cd, m) :: rs.drop (k + 1) := by
        obtain ⟨h1, h2⟩ := List.getElem?_eq_some_iff.1 hr
        rw [List.drop_eq_getElem_cons h1, h2]
      have hst := HF.out
      rw [hdr, firstI] at hst
      dsimp only at hst
      have HST := Lib.hid hst
      have hc := fun j hj => (H.out.onlyNil HO.out).cell hr j hj
      have HCL := Lib.hid (del_closure src bx A cd m wr (HB.out.onlyNil HO.out))
      unfold mcells at HCL
      obtain ⟨s, d, kd, sq, a0, a1, a2, a3, dat⟩ := m
      dsimp only at HCL HST
      have c0 : wr.cell? ⟨g, k * 9, none⟩ = some (.int .i64 s) := hc 0 (by omega)
      have c1 : wr.cell? ⟨g, k * 9 + 1, none⟩ = some (.int .i64 d) := hc 1 (by omega)
      have c2 : wr.cell? ⟨g, k * 9 + 2, none⟩ = some (.int .i64 kd) := hc 2 (by omega)
      have c3 : wr.cell? ⟨g, k * 9 + 3, none⟩ = some (.int .i64 sq) := hc 3 (by omega)
      have c4 : wr.cell? ⟨g, k * 9 + 4, none⟩ = some (.int .i64 a0) := hc 4 (by omega)
      have c5 : wr.cell? ⟨g, k * 9 + 5, none⟩ = some (.int .i64 a1) := hc 5 (by omega)
      have c6 : wr.cell? ⟨g, k * 9 + 6, none⟩ = some (.int .i64 a2) := hc 6 (by omega)
      have c7 : wr.cell? ⟨g, k * 9 + 7, none⟩ = some (.int .i64 a3) := hc 7 (by omega)
      have c8 : wr.cell? ⟨g, k * 9 + 8, none⟩ = some (.slice A dat.length cd) := hc 8 (by omega)
      obtain ⟨S, hS⟩ : ∃ S, (s == src) = S := ⟨_, rfl⟩
      rw [hS] at HCL
      have HS := Lib.hid hS
      have hki : (k : Int) < N := by omega
      clear hr hdr hst hc hS
      go_wp2_with fail
      refine HCL.out.mono ?_
      rintro e w2 ⟨rfl, hO2⟩
      have HO2 := Lib.hid (HO.out.thenNil hO2)
      clear hO2 c0 c1 c2 c3 c4 c5 c6 c7 c8
      cases S
      · have hn : s ≠ src := by have := HS.out; simpa using this
        have HNX := Lib.hid (show firstI src (rs.drop (k + 1)) (k + 1) = I by have := HST.out; rw [if_neg hn] at this; exact this)
        clear hn
        go_wp2_with fail
        go_roundw
        case rel => exact ⟨k + 1, by omega, by go_num, HNX.out, HO2.out⟩
        case measure => simp [intOf]; omega
      · have he : s = src := by have := HS.out; simpa using this
        have HEQ := Lib.hid (show (k : Int) = I by have := HST.out; rw [if_pos he] at this; exact this)
        clear he
        go_wp2_with fail
        go_ret
        exact ⟨by rw [HEQ.out]; rfl, HO2.out⟩
    · have hkN : k = N := by omega
      subst hkN
      have HEQ := Lib.hid (show (-1 : Int) = I by have := HF.out; rw [List.drop_eq_nil_of_le (by rw [HN.out]; exact Nat.le_refl _), firstI] at this; exact this)
      go_wp2_with fail
      go_ret
      exact ⟨by rw [HEQ.out]; rfl, HO.out⟩

theorem msg_zero (w : World) : (zeroValue 48).run Try.prog w = .ok (.agg #[.int .i64 0, .int .i64 0, .int .i64 0, .int .i64 0, .int .i64 0, .int .i64 0, .int .i64 0, .int .i64 0, .slice none 0 0]) w := by kernel_rfl

def DelPost (src : Int) (g c : Nat) (rs : List (Option Addr × Nat × M)) (w : World) (e : Ending) (w' : World) : Prop :=
  e = .returned (.slice (some ⟨g, 0, none⟩) (rs.filter (keepR src)).length c) ∧ DR w' g c (rs.filter (keepR src)) ∧ Only (One g) w w'

set_option maxRecDepth 100000 in
set_option maxHeartbeats 4000000 in
theorem delete_any (src : Int) (bx g c : Nat) (rs : List (Option Addr × Nat × M)) (w : World) (h : DR w g c rs) (hb : Blk w bx 3 #[.int .i64 src]) (hl : rs.length ≤ 1000) (hbg : bx ≠ g) :
    Calls Try.prog 50 #[.slice (some ⟨g, 0, none⟩) rs.length c, .func (Fn.func 51) #[] #[.pointer (some ⟨bx, 0, none⟩)]] w (DelPost src g c rs w) := by
  have HIX := Lib.hid (index_any src bx g c rs w h hb hl)
  obtain ⟨N, hN⟩ : ∃ N, rs.length = N := ⟨_, rfl⟩
  have hNc : N ≤ c := by rw [← hN]; exact h.le
  rw [hN] at hl HIX ⊢
  have HN := Lib.hid hN
  have H := Lib.hid h
  have HB := Lib.hid hb
  have HBG := Lib.hid hbg
  clear hN h hb hbg
  go_enter Try.func50, Try.ntmps50
  go_wp2_with fail
  refine HIX.out.mono ?_
  rintro e w1 ⟨rfl, hO1⟩
  have HO1 := Lib.hid hO1
  clear hO1
  rcases firstI_range src rs 0 with hf | ⟨i0, hf⟩
  · have hfil := firstI_none hf
    rw [hf]
    have HF := Lib.hid hfil
    clear hf hfil
    go_wp2_with fail
    go_ret
    unfold DelPost
    rw [HF.out, HN.out]
    exact ⟨rfl, H.out.onlyNil HO1.out, HO1.out.any⟩
  · obtain ⟨_, hi2, hi3⟩ := firstI_some hf
    rw [Nat.zero_add, HN.out] at hi2
    rw [Nat.sub_zero] at hi3
    rw [hf]
    have hst : DelI src rs rs i0 (i0 + 1) := ⟨rfl, Nat.le_refl _, by rw [HN.out]; omega, hi3.symm, rfl⟩
    have HST := Lib.hid hst
    have hb1 : ((i0 : Int) == -1) = false := beq_false_of_ne (by omega)
    clear hf hi3 hst
    go_wp2_with fail
    go_loopw [6, 5] (fun j i wr => ∃ (jn kn : Nat) (ss : List (Option Addr × Nat × M)), j = .int .i64 jn ∧ i = .int .i64 kn ∧ DelI src rs ss kn jn ∧ DR wr g c ss ∧ Only (One g) w wr) (fun j _ _ => N - (intOf j).toNat)
    case atStart => exact ⟨i0 + 1, i0, rs, by go_num, rfl, HST.out, H.out.onlyNil HO1.out, HO1.out.any⟩
    case round =>
      obtain ⟨j, i, ss, rfl, rfl, hD, hR, hO⟩ := hrel
      have hjn : j ≤ N := by have := hD.jn; rw [HN.out] at this; exact this
      have hij : i + 1 ≤ j := hD.ij
      have hsl : ss.length = N := by rw [hD.len, HN.out]
      have HD := Lib.hid hD
      have HR := Lib.hid hR
      have HO := Lib.hid hO
      have HSL := Lib.hid hsl
      clear hD hR hO hsl
      by_cases hlt : j < N
      · obtain ⟨⟨A, cd, m⟩, hr⟩ : ∃ r, rs[j]? = some r := ⟨rs[j]'(by rw [HN.out]; exact hlt), List.getElem?_eq_getElem _⟩
        have hrs : ss[j]? = some (A, cd, m) := by rw [HD.out.get]; exact hr
        have hc := fun q hq => HR.out.cell hrs q hq
        have hbx : ∀ u, Only (One g) wr u → Blk u bx 3 #[.int .i64 src] := fun u hu => (HB.out.only HO.out HBG.out).only hu HBG.out
        have HCL := Lib.hid (fun u (hu : Only (One g) wr u) => del_closure src bx A cd m u (hbx u hu))
        have HX := Lib.hid hr
        unfold mcells at HCL
        obtain ⟨s, d, kd, sq, a0, a1, a2, a3, dat⟩ := m
        dsimp only at HCL
        have c0 : wr.cell? ⟨g, j * 9, none⟩ = some (.int .i64 s) := hc 0 (by omega)
        have c1 : wr.cell? ⟨g, j * 9 + 1, none⟩ = some (.int .i64 d) := hc 1 (by omega)
        have c2 : wr.cell? ⟨g, j * 9 + 2, none⟩ = some (.int .i64 kd) := hc 2 (by omega)
        have c3 : wr.cell? ⟨g, j * 9 + 3, none⟩ = some (.int .i64 sq) := hc 3 (by omega)
        have c4 : wr.cell? ⟨g, j * 9 + 4, none⟩ = some (.int .i64 a0) := hc 4 (by omega)
        have c5 : wr.cell? ⟨g, j * 9 + 5, none⟩ = some (.int .i64 a1) := hc 5 (by omega)
        have c6 : wr.cell? ⟨g, j * 9 + 6, none⟩ = some (.int .i64 a2) := hc 6 (by omega)
        have c7 : wr.cell? ⟨g, j * 9 + 7, none⟩ = some (.int .i64 a3) := hc 7 (by omega)
        have c8 : wr.cell? ⟨g, j * 9 + 8, none⟩ = some (.slice A dat.length cd) := hc 8 (by omega)
        have hji : (j : Int) < N := by omega
        clear hr hrs hc hbx
        go_upto_region 7 with fail
        go_cut [7] from 16 to 35 (fun p wd => ∃ gv, p = .pointer (some ⟨gv, 0, none⟩) ∧ gv ≠ g ∧ Blk wd gv 48 #[.int .i64 s, .int .i64 d, .int .i64 kd, .int .i64 sq, .int .i64 a0, .int .i64 a1, .int .i64 a2, .int .i64 a3, .slice A dat.length cd] ∧ Only Nil wr wd)
        case first =>
          have hgl := HR.out.lt
          go_wp2_with fail
          go_meet
          case rel => exact ⟨_, rfl, by omega, Blk.new _ _ _, by (repeat' (first | with_reducible exact Only.refl _ _ | with_reducible refine Only.setCell ?_ (Or.inl ?_) _ | with_reducible refine Only.drewN ?_ _ | with_reducible refine Only.drew ?_ | with_reducible refine Only.alloc ?_ _ | (fail)))⟩
        case rest =>
        obtain ⟨gv, rfl, hgv, hbv, hO7⟩ := hcut
        clear c0 c1 c2 c3 c4 c5 c6 c7 c8
        have kv : ∀ i, wc.cell? ⟨gv, i, none⟩ = #[Value.int .i64 s, .int .i64 d, .int .i64 kd, .int .i64 sq, .int .i64 a0, .int .i64 a1, .int .i64 a2, .int .i64 a3, .slice A dat.length cd][i]? := fun i => hbv.cell i
        have HBV := Lib.hid hbv
        have HGV := Lib.hid hgv
        have HCL2 := Lib.hid (HCL.out wc hO7.any)
        have HR7 := Lib.hid (HR.out.onlyNil hO7)
        have HO7 := Lib.hid (HO.out.thenNil hO7)
        obtain ⟨S, hS⟩ : ∃ S, (s == src) = S := ⟨_, rfl⟩
        rw [hS] at HCL2
        have HS := Lib.hid hS
        clear hbv hgv hO7 hS
        go_wp2_with fail
        refine HCL2.out.mono ?_
        rintro e w2 ⟨rfl, hO2⟩
        have kv2 : ∀ i, w2.cell? ⟨gv, i, none⟩ = #[Value.int .i64 s, .int .i64 d, .int .i64 kd, .int .i64 sq, .int .i64 a0, .int .i64 a1, .int .i64 a2, .int .i64 a3, .slice A dat.length cd][i]? := fun i => (HBV.out.onlyNil hO2).cell i
        have HR2 := Lib.hid (HR7.out.onlyNil hO2)
        have HO2 := Lib.hid (HO7.out.thenNil hO2)
        clear hO2 kv
        cases S
        · have hn : s ≠ src := by have := HS.out; simpa using this
          have HNX := Lib.hid (HD.out.keep HX.out hn)
          have fg : ∀ i, w2.frozen? ⟨g, i, none⟩ = false := fun i => HR2.out.frozen i
          have hil : i < ss.length := by rw [HSL.out]; omega
          have hth : ∀ q, q < 9 → (w2.cell? ⟨g, i * 9 + q, none⟩).isSome = true := fun q hq => HR2.out.there _ (by rw [HSL.out]; omega)
          obtain ⟨v0, t0⟩ := Option.isSome_iff_exists.1 (hth 0 (by omega))
          obtain ⟨v1, t1⟩ := Option.isSome_iff_exists.1 (hth 1 (by omega))
          obtain ⟨v2, t2⟩ := Option.isSome_iff_exists.1 (hth 2 (by omega))
          obtain ⟨v3, t3⟩ := Option.isSome_iff_exists.1 (hth 3 (by omega))
          obtain ⟨v4, t4⟩ := Option.isSome_iff_exists.1 (hth 4 (by omega))
          obtain ⟨v5, t5⟩ := Option.isSome_iff_exists.1 (hth 5 (by omega))
          obtain ⟨v6, t6⟩ := Option.isSome_iff_exists.1 (hth 6 (by omega))
          obtain ⟨v7, t7⟩ := Option.isSome_iff_exists.1 (hth 7 (by omega))
          obtain ⟨v8, t8⟩ := Option.isSome_iff_exists.1 (hth 8 (by omega))
          rw [Nat.add_zero] at t0
          have hii : (i : Int) < N := by omega
          have HIL := Lib.hid hil
          clear hn hth hil
          go_wp2_with fail
          go_roundw
          case rel =>
            exact ⟨j + 1, i + 1, _, by go_num, by go_num, HNX.out, HR2.out.put HIL.out A cd ⟨s, d, kd, sq, a0, a1, a2, a3, dat⟩, HO2.out.then_ (by (repeat' (first | with_reducible exact Only.refl _ _ | with_reducible refine Only.setCell ?_ (Or.inl ?_) _ | with_reducible refine Only.drewN ?_ _ | with_reducible refine Only.drew ?_ | with_reducible refine Only.alloc ?_ _ | (exact rfl))))⟩
          case measure => simp [intOf]; omega
        · have he : s = src := by have := HS.out; simpa using this
          have HNX := Lib.hid (HD.out.skip HX.out he)
          clear he
          go_wp2_with fail
          go_roundw
          case rel => exact ⟨j + 1, i, ss, by go_num, rfl, HNX.out, HR2.out, HO2.out⟩
          case measure => simp [intOf]; omega
      · have hjN : j = N := by omega
        subst hjN
        have hfin : ss.take i = rs.filter (keepR src) := HD.out.done (by rw [HN.out])
        have hfl : (rs.filter (keepR src)).length = i := by rw [← hfin, List.length_take, HSL.out]; omega
        obtain ⟨Z, hZ⟩ : ∃ Z, (Builtin.zeroCells (Value.cells (.agg #[.int .i64 0, .int .i64 0, .int .i64 0, .int .i64 0, .int .i64 0, .int .i64 0, .int .i64 0, .int .i64 0, .slice none 0 0])) (j - i)).toList = Z := ⟨_, rfl⟩
        have hcl : ∀ ty C, (Builtin.clear_ #[45] ty #[.slice (some ⟨g, i * 9, none⟩) (j - i) C]).run Try.prog wr = .ok (.tuple #[]) (wr.setCells g (i * 9) Z) := fun ty C => by
          rw [← hZ]
          refine run_clear_rows wr 45 48 ty _ Try.underlying45 msg_zero ?_ g (i * 9) (j - i) C (by omega) (fun q hq => HR.out.there _ ?_) (fun q => HR.out.frozen q) (by decide)
          · intro v hv
            exact mcells_one none 0 zM v hv
          · have hq : q < (j - i) * 9 := hq
            rw [HSL.out]
            have : (j - i) * 9 + i * 9 = j * 9 := by rw [← Nat.add_mul]; congr 1; omega
            omega
        have hcut := HR.out.cut i (by rw [HSL.out]; omega) Z
        rw [hfin] at hcut
        have HCUT := Lib.hid hcut
        have HFL := Lib.hid hfl
        have HOS := Lib.hid (HO.out.then_ (setCells_only g Z (i * 9) wr))
        have hii : (i : Int) ≤ j := by omega
        have hic : (i : Int) ≤ c := by omega
        have hsub : ((j : Int) - i).toNat = j - i := by omega
        have hif : (if c = i then some (⟨g, 0, none⟩ : Addr) else some ⟨g, i * 9, none⟩) = some ⟨g, i * 9, none⟩ := by
          by_cases h : c = i
          · omega
          · rw [if_neg h]
        have hci : ¬ c = i := by omega
        clear hfin hfl hZ hcut
        go_wp2_with fail
        go_ret
        unfold DelPost
        rw [HFL.out]
        exact ⟨rfl, HCUT.out, HOS.out⟩

end Go.Proofs.Ytljfblnpgeconaa
