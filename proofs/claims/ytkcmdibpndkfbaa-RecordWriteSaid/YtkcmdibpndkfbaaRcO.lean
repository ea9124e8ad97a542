/-
  A row of bytes that is the call's own, or that is full and carries the mark of a constant's conversion; append to it.
  No conditions: general laws.
-/
import Derived.Test.YtkcmdibpndkfbaaRcP
import Derived.Test.YtkcmdibpndkfbaaClone
import Derived.Test.YtkcmdibpndkfbaaInv
namespace Go.Proofs.Ytkcmdibpndkfbaa
open Go.RowKit

/-- The slice of bytes lies in a row of its own; or it fills a row that is marked behind its last cell. -/
def OwnX (w : World) (base : Nat) (A : Option Addr) (c : Nat) (l : List UInt8) : Prop :=
  w.ownsRow base 5 1 (.slice A l.length c) l.length (bcells l) ∨
  ∃ g fz, A = some ⟨g, 0, none⟩ ∧ c = l.length ∧ base ≤ g ∧ w.heap[g]? = some (.cells (bcells l).toArray 5 fz) ∧ l.length ≤ fz.1 ∧ 0 < l.length ∧ l.length ≤ maxLen

section
variable {w w' : World} {base : Nat} {A : Option Addr} {c : Nat} {l : List UInt8}

theorem heap_lt {g : Nat} {o : Obj} (h : w.heap[g]? = some o) : g < w.heap.size := (Array.getElem?_eq_some_iff.1 h).1
theorem OwnX.lt (h : OwnX w base A c l) {q : Nat} (hq : (Value.slice A l.length c).ownBlock = some q) : q < w.heap.size := by
  rcases h with h | ⟨g, fz, rfl, rfl, hb, hg, _⟩
  · exact own_lt h hq
  · injection hq with hq
    subst hq
    exact heap_lt hg
theorem OwnX.ge (h : OwnX w base A c l) {q : Nat} (hq : (Value.slice A l.length c).ownBlock = some q) : base ≤ q := by
  rcases h with h | ⟨g, fz, rfl, rfl, hb, hg, _⟩
  · exact ownBlock_ge h hq
  · injection hq with hq
    subst hq
    exact hb
theorem OwnX.only {S : Nat → Prop} (h : OwnX w base A c l) (hO : Only S w w') (hS : ∀ q, (Value.slice A l.length c).ownBlock = some q → ¬ S q) : OwnX w' base A c l := by
  rcases h with h | ⟨g, fz, rfl, rfl, hb, hg, h1⟩
  · exact .inl (own_only h hO hS)
  · exact .inr ⟨g, fz, rfl, rfl, hb, (hO.block g (heap_lt hg) (hS g rfl)).trans hg, h1⟩
theorem OwnX.onlyNil (h : OwnX w base A c l) (hO : Only Nil w w') : OwnX w' base A c l := h.only hO fun _ _ hx => hx
theorem OwnX.blk_ne {g : Nat} {t : TypeId} {cs : Array Value} (h : OwnX w base A c l) (hk : Blk w g t cs) (hne : 5 ≠ t) : (Value.slice A l.length c).ownBlock ≠ some g := by
  rcases h with h | ⟨g', fz, rfl, rfl, hb, hg, _⟩
  · exact own_blk_ne h hk hne
  · intro e
    injection e with e
    subst e
    have h1 : some (Obj.cells (bcells l).toArray 5 fz) = some (Obj.cells cs t (0, 0)) := hg.symm.trans hk
    injection h1 with h1
    injection h1 with _ h2
    exact hne h2
theorem OwnX.blk {g : Nat} {t : TypeId} {cs : Array Value} (h : OwnX w base A c l) (hk : Blk w g t cs) (hne : 5 ≠ t) (hO : Only (One g) w w') : OwnX w' base A c l :=
  h.only hO fun q hq hx => h.blk_ne hk hne (by unfold One at hx; rw [hq, hx])
theorem OwnX.cells (h : OwnX w base A c l) {g : Nat} (hq : (Value.slice A l.length c).ownBlock = some g) : ∀ j u, (bcells l)[j]? = some u → w.cell? ((⟨g, 0, none⟩ : Addr).add j) = some u := by
  rcases h with h | ⟨g', fz, rfl, rfl, hb, hg, _⟩
  · exact h.cells hq
  · injection hq with hq
    subst hq
    intro j u hj
    rw [add_at, Nat.zero_add, cell_of_row w g' j _ _ _ hg, ← hj]
    simp
theorem OwnX.form (h : OwnX w base A c l) : l.length ≤ c ∧ c ≤ maxLen ∧ (0 < l.length → ∃ g, A = some ⟨g, 0, none⟩) := by
  rcases h with h | ⟨g', fz, rfl, rfl, hb, hg, h1, h2, h3⟩
  · rcases h.2 with ⟨e, h0⟩ | ⟨g, cap, cur, hv, _, _, h1, h2, _⟩
    · injection e with _ e2 e3
      exact ⟨by omega, by rw [e3]; exact Nat.zero_le _, fun h => by omega⟩
    · injection hv with hA _ hc
      subst hA hc
      exact ⟨h1, h2, fun _ => ⟨g, rfl⟩⟩
  · exact ⟨Nat.le_refl _, h3, fun _ => ⟨g', rfl⟩⟩
theorem OwnX.bs (h : OwnX w base A c l) : Bs w w.heap.size A l := by
  refine ⟨by rw [bcells_length]; omega, fun hn => ?_⟩
  obtain ⟨g, rfl⟩ := h.form.2.2 hn
  refine ⟨g, 0, rfl, h.lt rfl, fun j u hj => ?_⟩
  rw [← add_at]
  exact h.cells rfl j u hj

theorem run_append_x (t ty : TypeId) (i : TypeInfo) (ht : Try.prog.underlying t = some (.slice 5)) (hi : Try.prog.info? 5 = some i) (hz : i.zero = some (.int .u8 0)) (hsize : i.size = 1) (hby : i.bytes = 1)
    (h : OwnX w base A c l) (B : Nat) (A' : Option Addr) (m c' : Nat) (news : List Value) (hr : Rd w B 1 A' m news) (h1 : ∀ u ∈ news, u.oneCell' = true) (hm : 0 < m)
    (hbytes : l.length + m ≤ 140737488355328) (hbase : base ≤ w.heap.size) :
    ∃ A2 c2 w2, l.length + m ≤ c2 ∧ (Builtin.append_ #[t, t] ty #[.slice A l.length c, .slice A' m c']).run Try.prog w = .ok (.slice A2 (l.length + m) c2) w2 ∧ w2.ownsRow base 5 1 (.slice A2 (l.length + m) c2) (l.length + m) (bcells l ++ news) ∧ w.grownBy w2 (Value.slice A l.length c).ownBlock ∧
      ((Value.slice A2 (l.length + m) c2).ownBlock = (Value.slice A l.length c).ownBlock ∨ (Value.slice A2 (l.length + m) c2).ownBlock = some w.heap.size) := by
  have h63 : l.length + m ≤ maxLen := by unfold maxLen; omega
  rcases h with h | ⟨g, fz, rfl, rfl, hb, hg, hf1, hf2, hf3⟩
  · exact run_append_rd (P := Try.prog) w base t ty 5 i _ 1 1 ht hi hz hsize hby rfl (by decide) _ _ _ h B A' m c' news hr h1 h63 (by omega) hbase
  · obtain ⟨b, off, rfl, _, hc⟩ := hr.2 hm
    have hnews : ∀ j u, news[j]? = some u → w.cell? ((⟨b, off, none⟩ : Addr).add j) = some u := fun j u hj => by rw [add_at]; exact hc j u hj
    have holds : ∀ j u, (bcells l)[j]? = some u → w.cell? ((⟨g, 0, none⟩ : Addr).add j) = some u := OwnX.cells (w := w) (base := base) (c := l.length) (.inr ⟨g, fz, rfl, rfl, hb, hg, hf1, hf2, hf3⟩) rfl
    have hrg := run_append_grow (P := Try.prog) w t ty 5 i _ ht hi hz ⟨g, 0, none⟩ l.length l.length (bcells l) (by rw [hsize, bcells_length, Nat.mul_one]) holds ⟨b, off, none⟩ m c' news (by rw [hsize]; exact hr.1) hnews (by omega) (by simp only [maxLen] at h63; omega) (growslice_fits (by omega) (by rw [hby]; omega))
    refine ⟨_, _, _, ?_, hrg, ⟨?_, .inr ⟨w.heap.size, _, _, rfl, hbase, heap_alloc_new w.drew _, grownCap_ge _ _ _ _, grownCap_le_maxLen w _ _ _ h63, ?_, ?_⟩⟩, ⟨rfl, rfl, rfl, by simp, fun k hk _ => heap_alloc_old w.drew _ hk⟩, .inr rfl⟩
    · exact grownCap_ge _ _ _ _
    · rw [List.length_append, bcells_length, hr.1, Nat.mul_one, Nat.mul_one]
    · have := grownCap_ge w (l.length + m) l.length 5
      have h2 := hr.1
      simp only [Array.size_append, List.size_toArray, size_zeroCells, bcells_length, h2]
      have e1 : (Value.int IntKind.u8 0).cells.size = 1 := rfl
      rw [e1]
      omega
    · have h2 : (bcells l ++ news).length = (l.length + m) * 1 := by rw [List.length_append, bcells_length, hr.1, Nat.mul_one, Nat.mul_one]
      simp only [Array.toList_append, List.append_assoc]
      rw [← List.append_assoc, ← h2]
      exact List.take_left

theorem wpList_append_x {ops : Array Oper} {rest : List Oper} {o : Oper} {a : Act} {Q : Exit → Act → World → Prop} (hgd : o.guard = none) (s x : Operand) (t : TypeId)
    (ho : o.op = .call { callee := .builtin .append, args := #[s, x], argTypes := #[t, t] })
    (i : TypeInfo) (ht : Try.prog.underlying t = some (.slice 5)) (hi : Try.prog.info? 5 = some i) (hz : i.zero = some (.int .u8 0)) (hsize : i.size = 1) (hby : i.bytes = 1)
    (N : Nat) (hN : l.length = N) (hs : a.eval s = .slice A N c) (hown : OwnX w base A c l) (B : Nat) (A' : Option Addr) (m c' : Nat) (news : List Value) (hx : a.eval x = .slice A' m c') (hr : Rd w B 1 A' m news) (h1 : ∀ u ∈ news, u.oneCell' = true) (hm : 0 < m)
    (N2 : Nat) (hN2 : N + m = N2) (ys : List Value) (hys : bcells l ++ news = ys) (hbytes : N + m ≤ 140737488355328) (hbase : base ≤ w.heap.size)
    (h : ∀ A2 c2 w2, N2 ≤ c2 → w2.ownsRow base 5 1 (.slice A2 N2 c2) N2 ys → w.grownBy w2 (Value.slice A N c).ownBlock →
      ((Value.slice A2 N2 c2).ownBlock = (Value.slice A N c).ownBlock ∨ (Value.slice A2 N2 c2).ownBlock = some w.heap.size) → wpList Try.prog ops Q rest (a.put o.dst (.slice A2 N2 c2)) w2) : wpList Try.prog ops Q (o :: rest) a w := by
  subst hN hN2 hys
  refine wpList_plain hgd fun _ hK => ?_
  obtain ⟨A2, c2, w2, hc2, hrun, q2, q3, q4⟩ := run_append_x t o.type i ht hi hz hsize hby hown B A' m c' news hr h1 hm hbytes hbase
  unfold Oper.wp execOp
  simp only [ho, resolve, invoke, builtin, Sem.run_bind, Sem.run_pure, Result.andThen_ok, List.map_toArray, List.map_cons, List.map_nil, hs, hx, hrun]
  exact hK _ _ (h A2 c2 w2 hc2 q2 q3 q4)
end

end Go.Proofs.Ytkcmdibpndkfbaa
