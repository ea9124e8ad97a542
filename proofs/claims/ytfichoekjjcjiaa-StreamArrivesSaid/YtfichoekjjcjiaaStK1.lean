/-
  Two ends in one box, with the packets that each has sent: how they lie in memory; append of a packet.
  No conditions: definitions and general laws.
-/
import Derived.Test.YtfichoekjjcjiaaStA
import Derived.Test.YtfichoekjjcjiaaStQ5
import Derived.Test.YtfichoekjjcjiaaInv
import Derived.Deep.RegionLaw
namespace Go.Proofs.Ytfichoekjjcjiaa
open Go.RowKit

/-- Not a byte. -/
def NU (v : Value) : Prop := ∀ k : Int, v ≠ .int .u8 k
theorem NoU8.of {cs : Array Value} (h : ∀ v ∈ cs, NU v) : NoU8 cs := fun i z hz => h _ (Array.mem_of_getElem? hz) z rfl
/-- In the block of an owned row there are no bytes. -/
def NoB (w : World) (v : Value) : Prop := ∀ q, v.ownBlock = some q → ∀ cs t m, w.heap[q]? = some (.cells cs t m) → ∀ u ∈ cs, NU u
theorem NoB.nil (w : World) : NoB w (.slice none 0 0) := fun q hq => by cases hq
theorem NoB.only {S : Nat → Prop} {w w' : World} {base : Nat} {e : TypeId} {size n : Nat} {v : Value} {xs : List Value} (h : NoB w v) (hown : w.ownsRow base e size v n xs) (hO : Only S w w') (hS : ∀ q, v.ownBlock = some q → ¬ S q) : NoB w' v := fun q hq cs t m hc => by
  rw [hO.block q (own_lt hown hq) (hS q hq)] at hc
  exact h q hq cs t m hc

theorem zeroCells_no {z : Array Value} (hz : ∀ u ∈ z, NU u) (hp : 0 < z.size) (n : Nat) : ∀ u ∈ Builtin.zeroCells z n, NU u := by
  intro u hu
  unfold Builtin.zeroCells at hu
  obtain ⟨i, _, rfl⟩ := Array.mem_map.1 hu
  have hlt : i % z.size < z.size := Nat.mod_lt _ hp
  rw [getElem!_pos z (i % z.size) hlt]
  exact hz _ (Array.getElem_mem hlt)

section
variable {P : Program} (w : World)
theorem run_append1_no (base : Nat) (t ty e : TypeId) (i : TypeInfo) (z : Value) (size bytes : Nat) (ht : P.underlying t = some (.slice e)) (hi : P.info? e = some i) (hz : i.zero = some z)
    (hsize : i.size = size) (hby : i.bytes = bytes) (hzs : z.cells.size = size) (hsz : 0 < size)
    (v : Value) (n : Nat) (xs : List Value) (hown : w.ownsRow base e size v n xs) (hno : NoB w v)
    (ad : Addr) (c : Nat) (news : List Value) (hl : news.length = 1 * size) (hnews : ∀ j u, news[j]? = some u → w.cell? (ad.add j) = some u) (h1 : ∀ u ∈ news, u.oneCell' = true) (hn : ∀ u ∈ news, NU u) (hzn : ∀ u ∈ z.cells, NU u)
    (h63 : n + 1 ≤ maxLen) (hbytes : (n + 1) * bytes ≤ 140737488355328) (hbase : base ≤ w.heap.size) :
    ∃ A' c' w', n + 1 ≤ c' ∧ (Builtin.append_ #[t, t] ty #[v, .slice (some ad) 1 c]).run P w = .ok (.slice A' (n + 1) c') w' ∧ w'.ownsRow base e size (.slice A' (n + 1) c') (n + 1) (xs ++ news) ∧ w.grownBy w' v.ownBlock ∧
      ((Value.slice A' (n + 1) c').ownBlock = v.ownBlock ∨ (Value.slice A' (n + 1) c').ownBlock = some w.heap.size) ∧ NoB w' (.slice A' (n + 1) c') := by
  subst hsize hby
  obtain ⟨v', w', hrun, h2, h3, _, h5⟩ := run_append_own_at (P := P) w base t ty e i z i.size i.bytes ht hi hz rfl rfl hzs hsz v n xs hown ad 1 c news hl hnews h1 h63 hbytes hbase
  have hsmall : n + 1 ≤ 9223372036854775807 := by simp only [maxLen] at h63; omega
  have hfin : NoB w' v' := by
    rcases hown.2 with ⟨rfl, rfl⟩ | ⟨g, cap, cur, rfl, hbg, hg, hnc, hcm, hcs, htake⟩
    · have hr := run_append_nil (P := P) w t ty e i z ht hi hz ad 1 c news hl hnews (by omega) (by omega) (by simp only [Nat.zero_add] at hbytes; omega)
      rw [hrun] at hr
      injection hr with e1 e2
      subst e1 e2
      intro q hq cs t' m hc u hu
      have hq : w.heap.size = q := by injection hq
      subst hq
      rw [show ∀ o, (w.drew.alloc o).heap[w.heap.size]? = some o from fun o => heap_alloc_new w.drew o] at hc
      injection hc with hc
      injection hc with hc _ _
      subst hc
      rcases Array.mem_append.1 hu with hu | hu
      · exact hn u (by simpa using hu)
      · exact zeroCells_no hzn (by omega) _ u hu
    · by_cases hroom : n + 1 ≤ cap
      · have hfit : n * i.size + news.length ≤ cur.size := by rw [hl, hcs, ← Nat.add_mul]; exact Nat.mul_le_mul_right _ hroom
        have hr := run_append_room (P := P) w t ty e i ht hi g n cap cur hg ad 1 c news hl hnews h1 hroom hfit
        rw [hrun] at hr
        injection hr with e1 e2
        subst e1 e2
        have hold := hno g rfl cur e (0, 0) hg
        intro q hq cs t' m hc u hu
        have hq : g = q := by injection hq
        subst hq
        rw [setRow_heap w g cur _ e _ hg] at hc
        injection hc with hc
        injection hc with hc _ _
        subst hc
        have hu : u ∈ cur.toList.take (n * i.size) ++ news ++ cur.toList.drop (n * i.size + news.length) := by simpa using hu
        rcases List.mem_append.1 hu with hu | hu
        · rcases List.mem_append.1 hu with hu | hu
          · exact hold u (by simpa using List.mem_of_mem_take hu)
          · exact hn u hu
        · exact hold u (by simpa using List.mem_of_mem_drop hu)
      · have hold := hno g rfl cur e (0, 0) hg
        have holds : ∀ j u, xs[j]? = some u → w.cell? ((⟨g, 0, none⟩ : Addr).add j) = some u := by
          intro j u hj
          rw [add_at, Nat.zero_add, cell_of_row w g j cur e (0, 0) hg]
          rw [← htake] at hj
          have hjl : j < n * i.size := by
            have := (List.getElem?_eq_some_iff.1 hj).1
            simp only [List.length_take] at this
            omega
          rw [List.getElem?_take_of_lt hjl] at hj
          simpa using hj
        have hr := run_append_grow (P := P) w t ty e i z ht hi hz ⟨g, 0, none⟩ n cap xs hown.1 holds ad 1 c news hl hnews (by omega) (by omega) (growslice_fits (by omega) hbytes)
        rw [hrun] at hr
        injection hr with e1 e2
        subst e1 e2
        intro q hq cs t' m hc u hu
        have hq : w.heap.size = q := by injection hq
        subst hq
        rw [show ∀ o, (w.drew.alloc o).heap[w.heap.size]? = some o from fun o => heap_alloc_new w.drew o] at hc
        injection hc with hc
        injection hc with hc _ _
        subst hc
        rcases Array.mem_append.1 hu with hu | hu
        · rcases Array.mem_append.1 hu with hu | hu
          · rw [← htake] at hu
            exact hold u (Array.mem_def.2 (List.mem_of_mem_take (by simpa using hu)))
          · exact hn u (by simpa using hu)
        · exact zeroCells_no hzn (by omega) _ u hu
  obtain ⟨A', c', rfl, hc'⟩ := own_form h2
  exact ⟨A', c', w', hc', hrun, h2, h3, h5, hfin⟩

theorem step_append1_no {ops : Array Oper} {o : Oper} {a : Act} {K : Act → World → Prop} {Q : Exit → Act → World → Prop} {E : Prop} (hgd : o.guard = none) (s x : Operand) (t : TypeId)
    (ho : o.op = .call { callee := .builtin .append, args := #[s, x], argTypes := #[t, t] })
    (base : Nat) (e : TypeId) (i : TypeInfo) (z : Value) (size bytes : Nat) (ht : P.underlying t = some (.slice e)) (hi : P.info? e = some i) (hz : i.zero = some z)
    (hsize : i.size = size) (hby : i.bytes = bytes) (hzs : z.cells.size = size) (hsz : 0 < size)
    (v : Value) (n : Nat) (xs : List Value) (hs : a.eval s = v) (hown : w.ownsRow base e size v n xs) (hno : NoB w v)
    (ad : Addr) (c : Nat) (news : List Value) (hx : a.eval x = .slice (some ad) 1 c) (hl : news.length = 1 * size) (hnews : ∀ j u, news[j]? = some u → w.cell? (ad.add j) = some u) (h1 : ∀ u ∈ news, u.oneCell' = true) (hn : ∀ u ∈ news, NU u) (hzn : ∀ u ∈ z.cells, NU u)
    (N : Nat) (hN : n + 1 = N) (h63 : n + 1 ≤ maxLen) (hbytes : (n + 1) * bytes ≤ 140737488355328) (hbase : base ≤ w.heap.size)
    (h : ∀ A' c' w', N ≤ c' → w'.ownsRow base e size (.slice A' N c') N (xs ++ news) → w.grownBy w' v.ownBlock → ((Value.slice A' N c').ownBlock = v.ownBlock ∨ (Value.slice A' N c').ownBlock = some w.heap.size) → NoB w' (.slice A' N c') → K (a.put o.dst (.slice A' N c')) w') :
    if Region.wanted o (yielded ops a.tmps) = true then Oper.wp P o a w K Q else E := by
  have hw : Region.wanted o (yielded ops a.tmps) = true := by simp [Region.wanted, hgd]
  rw [if_pos hw]
  subst hN
  obtain ⟨A', c', w', hc', hrun, h2, h3, h4, h5⟩ := run_append1_no (P := P) w base t o.type e i z size bytes ht hi hz hsize hby hzs hsz v n xs hown hno ad c news hl hnews h1 hn hzn h63 hbytes hbase
  unfold Oper.wp execOp
  simp only [ho, resolve, invoke, builtin, Sem.run_bind, Sem.run_pure, Result.andThen_ok, List.map_toArray, List.map_cons, List.map_nil, hs, hx, hrun]
  exact h A' c' w' hc' h2 h3 h4 h5
end

/-- A packet and where its Data lies. -/
structure PR where
  A : Option Addr
  c : Nat
  p : Pk
def PR.cells (r : PR) : List Value := pcells r.A r.c r.p
theorem PR.cells_len (r : PR) : r.cells.length = 6 := rfl
theorem PR.cells_one (r : PR) : ∀ u ∈ r.cells, u.oneCell' = true := by
  intro u hu
  simp only [PR.cells, pcells, List.mem_cons, List.not_mem_nil, or_false] at hu
  rcases hu with rfl | rfl | rfl | rfl | rfl | rfl <;> rfl
theorem PR.cells_nu (r : PR) : ∀ u ∈ r.cells, NU u := by
  intro u hu k
  simp only [PR.cells, pcells, List.mem_cons, List.not_mem_nil, or_false] at hu
  rcases hu with rfl | rfl | rfl | rfl | rfl | rfl <;> simp

/-- Where one side lies: the slices of its end, the row of its packets. -/
structure SC where
  l : Loc
  P : Option Addr
  c : Nat
  rows : List PR
/-- One side in memory: all that it owns lies from B0 on. -/
structure Side (w : World) (B0 : Nat) (x : Sd) (s : SC) : Prop where
  eb : EB w w.heap.size s.l x.e
  row : w.ownsRow B0 33 6 (.slice s.P x.sent.length s.c) x.sent.length (s.rows.flatMap PR.cells)
  no : NoB w (.slice s.P x.sent.length s.c)
  map : s.rows.map PR.p = x.sent
  pb : ∀ r ∈ s.rows, PB w w.heap.size r.A r.c r.p
theorem Side.onlyNil {w w' : World} {B0 : Nat} {x : Sd} {s : SC} (h : Side w B0 x s) (hO : Only Nil w w') : Side w' B0 x s :=
  ⟨h.eb.next hO, own_onlyNil h.row hO, h.no.only h.row hO (fun _ _ hx => hx), h.map, fun r hr => (h.pb r hr).next hO⟩
/-- A box without bytes has turned. -/
theorem Side.box {w w' : World} {B0 g : Nat} {x : Sd} {s : SC} {t : TypeId} {cs : Array Value} (h : Side w B0 x s) (hg : Blk w g t cs) (hcs : NoU8 cs) (hne : 33 ≠ t) (hO : Only (One g) w w') : Side w' B0 x s :=
  ⟨(h.eb.box hg hcs hO (Nat.le_refl _)).up hO.size, own_blk h.row hg hne hO, h.no.only h.row hO (fun q hq hx => own_blk_ne h.row hg hne (by rw [hq]; unfold One at hx; rw [hx])), h.map, fun r hr => ⟨((h.pb r hr).data.box hg hcs hO (Nat.le_refl _)).up hO.size, (h.pb r hr).c⟩⟩

/-- The cells of the box: x is the side i, y the other one. -/
def larr (i : Nat) (x : Sd) (sx : SC) (y : Sd) (sy : SC) (wrong : Bool) : Array Value :=
  if i = 0 then
    #[.slice sx.l.Ao x.e.out.length sx.l.co, .int .i64 x.e.base, .bool x.e.closed, .bool x.e.done, .slice sx.l.Ai x.e.inn.length sx.l.ci, .int .i64 x.e.next, .bool x.e.ended, .bool x.e.due,
      .slice sy.l.Ao y.e.out.length sy.l.co, .int .i64 y.e.base, .bool y.e.closed, .bool y.e.done, .slice sy.l.Ai y.e.inn.length sy.l.ci, .int .i64 y.e.next, .bool y.e.ended, .bool y.e.due,
      .slice sx.P x.sent.length sx.c, .slice sy.P y.sent.length sy.c, .string ⟨x.wr.toArray⟩, .string ⟨y.wr.toArray⟩, .string ⟨x.rd.toArray⟩, .string ⟨y.rd.toArray⟩, .bool x.over, .bool y.over, .bool wrong]
  else
    #[.slice sy.l.Ao y.e.out.length sy.l.co, .int .i64 y.e.base, .bool y.e.closed, .bool y.e.done, .slice sy.l.Ai y.e.inn.length sy.l.ci, .int .i64 y.e.next, .bool y.e.ended, .bool y.e.due,
      .slice sx.l.Ao x.e.out.length sx.l.co, .int .i64 x.e.base, .bool x.e.closed, .bool x.e.done, .slice sx.l.Ai x.e.inn.length sx.l.ci, .int .i64 x.e.next, .bool x.e.ended, .bool x.e.due,
      .slice sy.P y.sent.length sy.c, .slice sx.P x.sent.length sx.c, .string ⟨y.wr.toArray⟩, .string ⟨x.wr.toArray⟩, .string ⟨y.rd.toArray⟩, .string ⟨x.rd.toArray⟩, .bool y.over, .bool x.over, .bool wrong]
theorem larr_no (i : Nat) (x : Sd) (sx : SC) (y : Sd) (sy : SC) (wrong : Bool) : NoU8 (larr i x sx y sy wrong) := by
  refine NoU8.of fun v hv k => ?_
  unfold larr at hv
  split at hv
  · simp only [List.mem_toArray, List.mem_cons, List.not_mem_nil, or_false] at hv
    rcases hv with rfl | rfl | rfl | rfl | rfl | rfl | rfl | rfl | rfl | rfl | rfl | rfl | rfl | rfl | rfl | rfl | rfl | rfl | rfl | rfl | rfl | rfl | rfl | rfl | rfl <;> simp
  · simp only [List.mem_toArray, List.mem_cons, List.not_mem_nil, or_false] at hv
    rcases hv with rfl | rfl | rfl | rfl | rfl | rfl | rfl | rfl | rfl | rfl | rfl | rfl | rfl | rfl | rfl | rfl | rfl | rfl | rfl | rfl | rfl | rfl | rfl | rfl | rfl <;> simp
/-- The two rows of packets do not share memory. -/
def Apart (x : Sd) (sx : SC) (y : Sd) (sy : SC) : Prop := ∀ q, (Value.slice sx.P x.sent.length sx.c).ownBlock = some q → (Value.slice sy.P y.sent.length sy.c).ownBlock ≠ some q
/-- The link in memory: its box at g. -/
structure LK (w : World) (B0 g i : Nat) (x : Sd) (sx : SC) (y : Sd) (sy : SC) (wrong : Bool) : Prop where
  box : Blk w g 68 (larr i x sx y sy wrong)
  new : B0 ≤ g
  fx : Side w B0 x sx
  fy : Side w B0 y sy
  ap : Apart x sx y sy
theorem LK.onlyNil {w w' : World} {B0 g i : Nat} {x y : Sd} {sx sy : SC} {wrong : Bool} (h : LK w B0 g i x sx y sy wrong) (hO : Only Nil w w') : LK w' B0 g i x sx y sy wrong :=
  ⟨h.box.onlyNil hO, h.new, h.fx.onlyNil hO, h.fy.onlyNil hO, h.ap⟩
theorem LK.swap0 {w : World} {B0 g : Nat} {x y : Sd} {sx sy : SC} {wrong : Bool} (h : LK w B0 g 0 x sx y sy wrong) : LK w B0 g 1 y sy x sx wrong :=
  ⟨h.box, h.new, h.fy, h.fx, fun q hq he => h.ap q he hq⟩
theorem LK.swap1 {w : World} {B0 g : Nat} {x y : Sd} {sx sy : SC} {wrong : Bool} (h : LK w B0 g 1 x sx y sy wrong) : LK w B0 g 0 y sy x sx wrong :=
  ⟨h.box, h.new, h.fy, h.fx, fun q hq he => h.ap q he hq⟩
/-- The end of the acting side is another one, and other fields of its are. -/
theorem LK.turn {w w' : World} {B0 g i : Nat} {x x' y : Sd} {sx sx' sy : SC} {wrong wrong' : Bool} (h : LK w B0 g i x sx y sy wrong) (hO : Only (One g) w w') (hb : Blk w' g 68 (larr i x' sx' y sy wrong'))
    (hP : sx'.P = sx.P) (hc : sx'.c = sx.c) (hr : sx'.rows = sx.rows) (hs : x'.sent = x.sent) (he : EB w w.heap.size sx'.l x'.e) : LK w' B0 g i x' sx' y sy wrong' := by
  have hx := h.fx.box h.box (larr_no _ _ _ _ _ _) (by decide) hO
  refine ⟨hb, h.new, ⟨(he.box h.box (larr_no _ _ _ _ _ _) hO (Nat.le_refl _)).up hO.size, ?_, ?_, by rw [hr, hs]; exact hx.map, by rw [hr]; exact hx.pb⟩, h.fy.box h.box (larr_no _ _ _ _ _ _) (by decide) hO, ?_⟩
  · rw [hP, hc, hr, hs]; exact hx.row
  · rw [hP, hc, hs]; exact hx.no
  · unfold Apart; rw [hP, hc, hs]; exact h.ap

end Go.Proofs.Ytfichoekjjcjiaa
