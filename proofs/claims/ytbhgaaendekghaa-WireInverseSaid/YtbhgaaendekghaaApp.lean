/-
  append onto a row of the call's own, whatever the source: nil, empty, cut at its end or not ('Rd').
  No conditions: general laws at the operation, for plain regions and for regions that draw their order.
-/
import Derived.Test.YtbhgaaendekghaaOpen
import Derived.Maps.AppendAt
import Derived.Deep.AppendLies
import Derived.RegionTactic
import Derived.OwnWalk
namespace Go.Proofs.Ytbhgaaendekghaa
open Go.RowKit

theorem add_at (b off j : Nat) : Addr.add ⟨b, off, none⟩ j = ⟨b, off + j, none⟩ := Go.WideShapes.add_plain b off j

section
variable {w w' : World} {B size n : Nat} {A : Option Addr} {xs : List Value}
theorem Rd.nil : Rd w B size A 0 [] := ⟨by simp, fun h => absurd h (by omega)⟩
theorem Rd.more {B' : Nat} (h : Rd w B size A n xs) (hB : B ≤ B') : Rd w B' size A n xs := ⟨h.1, fun hn => by obtain ⟨b, off, e, hb, hc⟩ := h.2 hn; exact ⟨b, off, e, by omega, hc⟩⟩
theorem Rd.of_own {base : Nat} {e : TypeId} {c : Nat} (h : w.ownsRow base e size (.slice A n c) n xs) : Rd w w.heap.size size A n xs := by
  refine ⟨h.1, fun hn => ?_⟩
  rcases h.2 with ⟨_, h0⟩ | ⟨g, cap, cur, hv, hb, hh, h1, h2, h3, h4⟩
  · omega
  · injection hv with hA
    subst hA
    have hlt : g < w.heap.size := by
      rcases Nat.lt_or_ge g w.heap.size with h5 | h5
      · exact h5
      · rw [Array.getElem?_eq_none h5] at hh; cases hh
    refine ⟨g, 0, rfl, hlt, fun j u hj => ?_⟩
    rw [Nat.zero_add, cell_of_row w g j cur e (0, 0) hh]
    rw [← h4] at hj
    have hjl : j < n * size := by
      have := (List.getElem?_eq_some_iff.1 hj).1
      simp only [List.length_take] at this
      omega
    rw [List.getElem?_take_of_lt hjl] at hj
    simpa using hj
/-- 's[:k]'. -/
theorem Rd.take {k : Nat} (h : Rd w B size A n xs) (hk : k ≤ n) : Rd w B size A k (xs.take (k * size)) := by
  refine ⟨by rw [List.length_take, h.1, Nat.min_eq_left (Nat.mul_le_mul_right _ hk)], fun hn => ?_⟩
  obtain ⟨b, off, e, hb, hc⟩ := h.2 (by omega)
  refine ⟨b, off, e, hb, fun j u hu => hc j u ?_⟩
  have hj : j < k * size := by
    have := (List.getElem?_eq_some_iff.1 hu).1
    simp only [List.length_take] at this
    omega
  rwa [List.getElem?_take_of_lt hj] at hu
/-- 's[k:]', as the model lays it: at k = cap the address stays. -/
theorem Rd.cut {k cap : Nat} (h : Rd w B size A n xs) (hk : k ≤ n) (hc : n ≤ cap) : Rd w B size (if cap = k then A else A.map (·.add (k * size))) (n - k) (xs.drop (k * size)) := by
  refine ⟨by rw [List.length_drop, h.1, Nat.sub_mul], fun hn => ?_⟩
  obtain ⟨b, off, rfl, hb, hcell⟩ := h.2 (by omega)
  rw [if_neg (by omega)]
  refine ⟨b, off + k * size, by rw [Option.map_some, add_at], hb, fun j u hu => ?_⟩
  rw [Nat.add_assoc]
  exact hcell _ u (by rw [← hu, List.getElem?_drop])
end

theorem flat_take {α : Type} {cells : α → List Value} {size : Nat} (hs : ∀ a, (cells a).length = size) (xs : List α) (k : Nat) : (xs.flatMap cells).take (k * size) = (xs.take k).flatMap cells := by
  induction xs generalizing k with
  | nil => simp
  | cons a xs ih =>
    rcases k with _ | k
    · simp
    · rw [List.flatMap_cons, List.take_succ_cons, List.flatMap_cons, ← ih k, Nat.add_mul, Nat.one_mul, List.take_append, hs]
      rw [List.take_of_length_le (by rw [hs]; omega), show k * size + size - size = k * size by omega]
theorem flat_drop {α : Type} {cells : α → List Value} {size : Nat} (hs : ∀ a, (cells a).length = size) (xs : List α) (k : Nat) : (xs.flatMap cells).drop (k * size) = (xs.drop k).flatMap cells := by
  induction xs generalizing k with
  | nil => simp
  | cons a xs ih =>
    rcases k with _ | k
    · simp
    · rw [List.flatMap_cons, List.drop_succ_cons, ← ih k, Nat.add_mul, Nat.one_mul, List.drop_append, hs]
      rw [List.drop_of_length_le (by rw [hs]; omega), show k * size + size - size = k * size by omega, List.nil_append]
/-- One cell of row i turned. -/
theorem flat_set {α : Type} {cells : α → List Value} {size : Nat} (hs : ∀ a, (cells a).length = size) (xs : List α) (i j : Nat) (u : Value) (a b : α) (hi : xs[i]? = some a) (hj : j < size) (hb : (cells a).set j u = cells b) :
    (xs.flatMap cells).set (i * size + j) u = (xs.set i b).flatMap cells := by
  induction xs generalizing i with
  | nil => simp at hi
  | cons x xs ih =>
    rcases i with _ | i
    · simp at hi
      subst hi
      rw [List.flatMap_cons, List.set_cons_zero, List.flatMap_cons, List.set_append_left _ _ (by rw [hs]; omega), ← hb]
      simp
    · rw [List.flatMap_cons, List.set_cons_succ, List.flatMap_cons, ← ih i (by simpa using hi), List.set_append_right _ _ (by rw [hs, Nat.add_mul]; omega), hs]
      rw [show (i + 1) * size + j - size = i * size + j by rw [Nat.add_mul]; omega]
theorem flat_one {α : Type} {cells : α → List Value} (h : ∀ a, ∀ u ∈ cells a, u.oneCell' = true) (xs : List α) : ∀ u ∈ xs.flatMap cells, u.oneCell' = true := by
  intro u hu
  obtain ⟨a, _, hu⟩ := List.mem_flatMap.1 hu
  exact h a u hu
/-- A new block's cells, as a source. -/
theorem Rd.newBlock (w : World) (cs : Array Value) (t : TypeId) (size n : Nat) (hn : cs.size = n * size) {g : Nat} (hg : w.heap.size = g) : Rd (w.alloc (.cells cs t)) (g + 1) size (some ⟨g, 0, none⟩) n cs.toList := by
  subst hg
  refine ⟨by simpa using hn, fun _ => ⟨_, 0, rfl, by omega, fun j u hj => ?_⟩⟩
  rw [Nat.zero_add, (Blk.new w t cs).cell j]
  simpa using hj

section
variable {P : Program} (w : World)
theorem run_append_of_nil (base : Nat) (t ty e : TypeId) (i : TypeInfo) (size : Nat) (ht : P.underlying t = some (.slice e)) (hi : P.info? e = some i)
    (v : Value) (n : Nat) (xs : List Value) (hown : w.ownsRow base e size v n xs) (c : Nat) : (Builtin.append_ #[t, t] ty #[v, .slice none 0 c]).run P w = .ok v w := by
  rcases hown.2 with ⟨rfl, rfl⟩ | ⟨g, cap, cur, rfl, _, _, hnc, _⟩
  · simp [Builtin.append_, run_underlying ht, sizeOf, typeInfo, hi, Builtin.lenOf, Builtin.firstCells]
  · simp [Builtin.append_, run_underlying ht, sizeOf, typeInfo, hi, Builtin.lenOf, Builtin.firstCells, hnc, storeCells]

/-- The slice value that an owned row is. -/
theorem own_form {w : World} {base : Nat} {e : TypeId} {size n : Nat} {v : Value} {xs : List Value} (h : w.ownsRow base e size v n xs) : ∃ A c, v = .slice A n c ∧ n ≤ c := by
  rcases h.2 with ⟨rfl, rfl⟩ | ⟨g, cap, cur, rfl, _, _, h1, _⟩
  · exact ⟨none, 0, rfl, Nat.le_refl _⟩
  · exact ⟨_, cap, rfl, h1⟩

theorem run_append_rd (base : Nat) (t ty e : TypeId) (i : TypeInfo) (z : Value) (size bytes : Nat) (ht : P.underlying t = some (.slice e)) (hi : P.info? e = some i) (hz : i.zero = some z)
    (hsize : i.size = size) (hby : i.bytes = bytes) (hzs : z.cells.size = size) (hsz : 0 < size)
    (v : Value) (n : Nat) (xs : List Value) (hown : w.ownsRow base e size v n xs)
    (B : Nat) (A : Option Addr) (m c : Nat) (news : List Value) (hr : Rd w B size A m news) (h1 : ∀ u ∈ news, u.oneCell' = true)
    (h63 : n + m ≤ maxLen) (hbytes : (n + m) * bytes ≤ 140737488355328) (hbase : base ≤ w.heap.size) :
    ∃ A' c' w', n + m ≤ c' ∧ (Builtin.append_ #[t, t] ty #[v, .slice A m c]).run P w = .ok (.slice A' (n + m) c') w' ∧ w'.ownsRow base e size (.slice A' (n + m) c') (n + m) (xs ++ news) ∧ w.grownBy w' v.ownBlock ∧
      ((Value.slice A' (n + m) c').ownBlock = v.ownBlock ∨ (Value.slice A' (n + m) c').ownBlock = some w.heap.size) := by
  rcases A with _ | ad
  · have hm : m = 0 := by
      rcases Nat.eq_zero_or_pos m with h0 | h0
      · exact h0
      · obtain ⟨_, _, h, _⟩ := hr.2 h0
        cases h
    subst hm
    have hn : news = [] := List.eq_nil_of_length_eq_zero (by simpa using hr.1)
    subst hn
    obtain ⟨A', c', rfl, hc'⟩ := own_form hown
    exact ⟨A', c', w, hc', run_append_of_nil w base t ty e i size ht hi _ n xs hown c, by simpa using hown, World.grownBy.refl w _, .inl rfl⟩
  · have hcells : ∀ j u, news[j]? = some u → w.cell? (ad.add j) = some u := by
      intro j u hu
      rcases Nat.eq_zero_or_pos m with h0 | h0
      · subst h0
        have hn : news = [] := List.eq_nil_of_length_eq_zero (by simpa using hr.1)
        subst hn
        simp at hu
      · obtain ⟨b, off, h, _, hc⟩ := hr.2 h0
        injection h with h
        subst h
        rw [add_at]
        exact hc j u hu
    obtain ⟨v', w', hrun, h2, h3, _, h5⟩ := run_append_own_at (P := P) w base t ty e i z size bytes ht hi hz hsize hby hzs hsz v n xs hown ad m c news hr.1 hcells h1 h63 hbytes hbase
    obtain ⟨A', c', rfl, hc'⟩ := own_form h2
    exact ⟨A', c', w', hc', hrun, h2, h3, h5⟩

theorem wp_append_rd {o : Oper} {a : Act} {K : Act → World → Prop} {Q : Exit → Act → World → Prop} (s x : Operand) (t : TypeId)
    (ho : o.op = .call { callee := .builtin .append, args := #[s, x], argTypes := #[t, t] })
    (base : Nat) (e : TypeId) (i : TypeInfo) (z : Value) (size bytes : Nat) (ht : P.underlying t = some (.slice e)) (hi : P.info? e = some i) (hz : i.zero = some z)
    (hsize : i.size = size) (hby : i.bytes = bytes) (hzs : z.cells.size = size) (hsz : 0 < size)
    (v : Value) (n : Nat) (xs : List Value) (hs : a.eval s = v) (hown : w.ownsRow base e size v n xs)
    (B : Nat) (A : Option Addr) (m c : Nat) (news : List Value) (hx : a.eval x = .slice A m c) (hr : Rd w B size A m news) (h1 : ∀ u ∈ news, u.oneCell' = true)
    (N : Nat) (hN : n + m = N) (ys : List Value) (hys : xs ++ news = ys) (h63 : n + m ≤ maxLen) (hbytes : (n + m) * bytes ≤ 140737488355328) (hbase : base ≤ w.heap.size)
    (h : ∀ A' c' w', N ≤ c' → w'.ownsRow base e size (.slice A' N c') N ys → w.grownBy w' v.ownBlock → ((Value.slice A' N c').ownBlock = v.ownBlock ∨ (Value.slice A' N c').ownBlock = some w.heap.size) → K (a.put o.dst (.slice A' N c')) w') : o.wp P a w K Q := by
  subst hN hys
  obtain ⟨A', c', w', hc', hrun, h2, h3, h4⟩ := run_append_rd (P := P) w base t o.type e i z size bytes ht hi hz hsize hby hzs hsz v n xs hown B A m c news hr h1 h63 hbytes hbase
  unfold Oper.wp execOp
  simp only [ho, resolve, invoke, builtin, Sem.run_bind, Sem.run_pure, Result.andThen_ok, List.map_toArray, List.map_cons, List.map_nil, hs, hx, hrun]
  exact h A' c' w' hc' h2 h3 h4

theorem wpList_append_rd {ops : Array Oper} {rest : List Oper} {o : Oper} {a : Act} {Q : Exit → Act → World → Prop} (hgd : o.guard = none) (s x : Operand) (t : TypeId)
    (ho : o.op = .call { callee := .builtin .append, args := #[s, x], argTypes := #[t, t] })
    (base : Nat) (e : TypeId) (i : TypeInfo) (z : Value) (size bytes : Nat) (ht : P.underlying t = some (.slice e)) (hi : P.info? e = some i) (hz : i.zero = some z)
    (hsize : i.size = size) (hby : i.bytes = bytes) (hzs : z.cells.size = size) (hsz : 0 < size)
    (v : Value) (n : Nat) (xs : List Value) (hs : a.eval s = v) (hown : w.ownsRow base e size v n xs)
    (B : Nat) (A : Option Addr) (m c : Nat) (news : List Value) (hx : a.eval x = .slice A m c) (hr : Rd w B size A m news) (h1 : ∀ u ∈ news, u.oneCell' = true)
    (N : Nat) (hN : n + m = N) (ys : List Value) (hys : xs ++ news = ys) (h63 : n + m ≤ maxLen) (hbytes : (n + m) * bytes ≤ 140737488355328) (hbase : base ≤ w.heap.size)
    (h : ∀ A' c' w', N ≤ c' → w'.ownsRow base e size (.slice A' N c') N ys → w.grownBy w' v.ownBlock → ((Value.slice A' N c').ownBlock = v.ownBlock ∨ (Value.slice A' N c').ownBlock = some w.heap.size) → wpList P ops Q rest (a.put o.dst (.slice A' N c')) w') : wpList P ops Q (o :: rest) a w :=
  wpList_plain hgd fun _ hK => wp_append_rd w s x t ho base e i z size bytes ht hi hz hsize hby hzs hsz v n xs hs hown B A m c news hx hr h1 N hN ys hys h63 hbytes hbase fun A' c' w' hc' h2 h3 h4 => hK _ _ (h A' c' w' hc' h2 h3 h4)

theorem step_append_rd {ops : Array Oper} {o : Oper} {a : Act} {K : Act → World → Prop} {Q : Exit → Act → World → Prop} {E : Prop} (hgd : o.guard = none) (s x : Operand) (t : TypeId)
    (ho : o.op = .call { callee := .builtin .append, args := #[s, x], argTypes := #[t, t] })
    (base : Nat) (e : TypeId) (i : TypeInfo) (z : Value) (size bytes : Nat) (ht : P.underlying t = some (.slice e)) (hi : P.info? e = some i) (hz : i.zero = some z)
    (hsize : i.size = size) (hby : i.bytes = bytes) (hzs : z.cells.size = size) (hsz : 0 < size)
    (v : Value) (n : Nat) (xs : List Value) (hs : a.eval s = v) (hown : w.ownsRow base e size v n xs)
    (B : Nat) (A : Option Addr) (m c : Nat) (news : List Value) (hx : a.eval x = .slice A m c) (hr : Rd w B size A m news) (h1 : ∀ u ∈ news, u.oneCell' = true)
    (N : Nat) (hN : n + m = N) (ys : List Value) (hys : xs ++ news = ys) (h63 : n + m ≤ maxLen) (hbytes : (n + m) * bytes ≤ 140737488355328) (hbase : base ≤ w.heap.size)
    (h : ∀ A' c' w', N ≤ c' → w'.ownsRow base e size (.slice A' N c') N ys → w.grownBy w' v.ownBlock → ((Value.slice A' N c').ownBlock = v.ownBlock ∨ (Value.slice A' N c').ownBlock = some w.heap.size) → K (a.put o.dst (.slice A' N c')) w') :
    if Region.wanted o (yielded ops a.tmps) = true then Oper.wp P o a w K Q else E := by
  have hw : Region.wanted o (yielded ops a.tmps) = true := by simp [Region.wanted, hgd]
  rw [if_pos hw]
  exact wp_append_rd w s x t ho base e i z size bytes ht hi hz hsize hby hzs hsz v n xs hs hown B A m c news hx hr h1 N hN ys hys h63 hbytes hbase h
end

/-- The ways that an append may have turned memory. -/
theorem grown_only {w w' : World} {v : Value} {base : Nat} {e : TypeId} {size n : Nat} {xs : List Value} (hown : w.ownsRow base e size v n xs) (hg : w.grownBy w' v.ownBlock) : Only (fun x => base ≤ x) w w' :=
  ⟨hg.os, hg.tape, hg.output, hg.size, fun k hk hn => hg.block k hk fun e1 => hn (ownBlock_ge hown e1.symm)⟩

end Go.Proofs.Ytbhgaaendekghaa
