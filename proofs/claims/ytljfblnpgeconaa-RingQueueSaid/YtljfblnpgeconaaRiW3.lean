/-
  Walks of the message queue (ring.Queue): copied, NewQueue, Put, Len: the queue's content is a list of messages.
  Conditions: the queue is known whole.
-/
import Derived.Test.YtljfblnpgeconaaClone
import Derived.Test.YtljfblnpgeconaaMsgP
import Derived.Deep.RegionHeld3
import Derived.Deep.QuietTactic
import Derived.BigQuiet
import Derived.Deep.RegionWith
import Derived.Deep.RegionLaw
namespace Go.Proofs.Ytljfblnpgeconaa
open Go.RowKit

theorem msg_info : (Try.prog.info? 48).map (fun i => (i.zero, i.size, i.bytes)) = some (some (.agg #[.int .i64 0, .int .i64 0, .int .i64 0, .int .i64 0, .int .i64 0, .int .i64 0, .int .i64 0, .int .i64 0, .slice none 0 0]), 9, 88) := by kernel_rfl

/-- A copy of the message is returned, its Data in new memory. -/
def CopyPost (m : M) (w : World) (e : Ending) (w' : World) : Prop :=
  ∃ A c, e = .returned (.agg #[.int .i64 m.src, .int .i64 m.dst, .int .i64 m.kind, .int .i64 m.seq, .int .i64 m.a0, .int .i64 m.a1, .int .i64 m.a2, .int .i64 m.a3, .slice A m.data.length c]) ∧ m.data.length ≤ c ∧ w'.ownsRow w.heap.size 5 1 (.slice A m.data.length c) m.data.length (bcells m.data) ∧ Only Nil w w'

set_option maxRecDepth 100000 in
set_option maxHeartbeats 400000 in
theorem copied_any (A : Option Addr) (c : Nat) (m : M) (w : World) (h : Bs w w.heap.size A m.data) (hl : m.data.length ≤ 1099511627776) :
    Calls Try.prog 49 #[.agg (mcells A c m).toArray] w (CopyPost m w) := by
  have H := Lib.hid h
  have HL := Lib.hid hl
  clear h hl
  unfold mcells
  go_enter Try.func49, Try.ntmps49
  go_wp2_with fail
  refine (clone_any A c m.data _ (H.out.onlyNil (((Only.refl _ _).alloc _).alloc _) (Nat.le_refl _) |>.up (by simp; omega)) HL.out).mono ?_
  rintro e w1 ⟨A1, c1, rfl, hc1, hown, hO⟩
  have hb0 := ((Blk.new w 48 (mcells A c m).toArray).alloc (.cells (mcells none 0 zM).toArray 48)).onlyNil hO
  have hb1 := (Blk.new (w.alloc (.cells (mcells A c m).toArray 48)) 48 (mcells none 0 zM).toArray).onlyNil hO
  have k0 : ∀ i, w1.cell? ⟨w.heap.size, i, none⟩ = (mcells A c m).toArray[i]? := fun i => hb0.cell i
  have k1 : ∀ i, w1.cell? ⟨w.heap.size + 1, i, none⟩ = (mcells none 0 zM).toArray[i]? := fun i => by simpa using hb1.cell i
  have f0 : ∀ i, w1.frozen? ⟨w.heap.size, i, none⟩ = false := fun i => hb0.frozen i
  have f1 : ∀ i, w1.frozen? ⟨w.heap.size + 1, i, none⟩ = false := fun i => by simpa using hb1.frozen i
  unfold mcells at k0 k1
  unfold zM at k1
  have HO := Lib.hid hO
  have HW := Lib.hid hown
  clear hO hown hb0 hb1
  go_wp2_with fail
  refine bodyPost_ret (v := .agg #[.int .i64 m.src, .int .i64 m.dst, .int .i64 m.kind, .int .i64 m.seq, .int .i64 m.a0, .int .i64 m.a1, .int .i64 m.a2, .int .i64 m.a3, .slice A1 m.data.length c1]) (by simp [results, Try.results49, go_sem, k1]) rfl ?_
  have hOX : ∀ (S : Nat → Prop), S w.heap.size → S (w.heap.size + 1) → Only S w1 _ := fun S s0 s1 =>
    ((((((((((Only.refl S w1).setCell (p := ⟨w.heap.size, 8, none⟩) (.inl s0) (.slice A1 m.data.length c1)).setCell (p := ⟨w.heap.size + 1, 0, none⟩) (.inl s1) (.int .i64 m.src)).setCell (p := ⟨w.heap.size + 1, 1, none⟩) (.inl s1) (.int .i64 m.dst)).setCell (p := ⟨w.heap.size + 1, 2, none⟩) (.inl s1) (.int .i64 m.kind)).setCell (p := ⟨w.heap.size + 1, 3, none⟩) (.inl s1) (.int .i64 m.seq)).setCell (p := ⟨w.heap.size + 1, 4, none⟩) (.inl s1) (.int .i64 m.a0)).setCell (p := ⟨w.heap.size + 1, 5, none⟩) (.inl s1) (.int .i64 m.a1)).setCell (p := ⟨w.heap.size + 1, 6, none⟩) (.inl s1) (.int .i64 m.a2)).setCell (p := ⟨w.heap.size + 1, 7, none⟩) (.inl s1) (.int .i64 m.a3)).setCell (p := ⟨w.heap.size + 1, 8, none⟩) (.inl s1) (.slice A1 m.data.length c1)
  have hw1 := own_only HW.out (hOX (fun x => x < w.heap.size + 2) (by omega) (by omega)) (fun q hq hx => by have := ownBlock_ge HW.out hq; simp at this; omega)
  exact ⟨A1, c1, rfl, hc1, own_base hw1 (by simp; omega), ((((Only.refl Nil w).alloc _).alloc _).thenNil HO.out).trans (hOX (fun x => w.heap.size ≤ x) (by omega) (by omega)) (fun x hx => .inr hx)⟩


/-- A row of messages in memory: their values, each with its Data in a row of its own; all in the blocks F. -/
structure MRow (w : World) (F : Nat → Prop) (A : Option Addr) (c : Nat) (ms : List M) : Prop where
  row : ∃ rs : List (Option Addr × Nat × M), ms.length ≤ c ∧ rs.map (fun r => r.2.2) = ms ∧
    w.ownsRow 0 48 9 (.slice A ms.length c) ms.length (rs.flatMap fun r => mcells r.1 r.2.1 r.2.2) ∧
    (∀ q, (Value.slice A ms.length c).ownBlock = some q → F q) ∧
    ∀ r ∈ rs, r.2.2.data.length ≤ r.2.1 ∧ r.2.2.data.length ≤ 1536 ∧ w.ownsRow 0 5 1 (.slice r.1 r.2.2.data.length r.2.1) r.2.2.data.length (bcells r.2.2.data) ∧
      ∀ q, (Value.slice r.1 r.2.2.data.length r.2.1).ownBlock = some q → F q
/-- The message queue at block p: of this size, with these messages; its memory is in the blocks F. -/
structure QU (w : World) (F : Nat → Prop) (p size : Nat) (ms : List M) : Prop where
  row : ∃ (A : Option Addr) (c : Nat), Blk w p 88 #[.int .i64 size, .slice A ms.length c] ∧ MRow w F A c ms
  room : ms.length ≤ size
  pos : 1 ≤ size
  most : size ≤ 200
  foot : F p
  bound : ∀ x, F x → x < w.heap.size

/-- The blocks of F and those that are new between two worlds. -/
def Fnew (F : Nat → Prop) (w w' : World) : Nat → Prop := fun x => F x ∨ (w.heap.size ≤ x ∧ x < w'.heap.size)

theorem MRow.only {w w' : World} {F S : Nat → Prop} {A : Option Addr} {c : Nat} {ms : List M} (h : MRow w F A c ms) (hO : Only S w w') (hS : ∀ x, F x → ¬ S x) : MRow w' F A c ms := by
  obtain ⟨rs, h1, h2, h3, h4, h5⟩ := h
  exact ⟨rs, h1, h2, own_only h3 hO (fun q hq => hS q (h4 q hq)), h4, fun r hr => by
    obtain ⟨g1, g2, g3, g4⟩ := h5 r hr
    exact ⟨g1, g2, own_only g3 hO (fun q hq => hS q (g4 q hq)), g4⟩⟩
theorem MRow.more {w : World} {F F' : Nat → Prop} {A : Option Addr} {c : Nat} {ms : List M} (h : MRow w F A c ms) (hF : ∀ x, F x → F' x) : MRow w F' A c ms := by
  obtain ⟨rs, h1, h2, h3, h4, h5⟩ := h
  exact ⟨rs, h1, h2, h3, fun q hq => hF q (h4 q hq), fun r hr => by
    obtain ⟨g1, g2, g3, g4⟩ := h5 r hr
    exact ⟨g1, g2, g3, fun q hq => hF q (g4 q hq)⟩⟩
theorem QU.only {w w' : World} {F S : Nat → Prop} {p size : Nat} {ms : List M} (h : QU w F p size ms) (hO : Only S w w') (hS : ∀ x, F x → ¬ S x) : QU w' F p size ms := by
  obtain ⟨A, c, h1, h2⟩ := h.row
  exact ⟨⟨A, c, h1.only hO (hS p h.foot), h2.only hO hS⟩, h.room, h.pos, h.most, h.foot, fun x hx => Nat.lt_of_lt_of_le (h.bound x hx) hO.size⟩
theorem QU.onlyNil {w w' : World} {F : Nat → Prop} {p size : Nat} {ms : List M} (h : QU w F p size ms) (hO : Only Nil w w') : QU w' F p size ms := h.only hO fun _ _ hx => hx

theorem newQueue_no (n : Int) (w : World) (h : n < 1 ∨ 200 < n) :
    Calls Try.prog 20 #[.int .i64 n] w fun e w' => e = .returned (.tuple #[.pointer none, .int .i64 2]) ∧ w' = w := by
  rcases h with h | h
  · go_enter Try.func20, Try.ntmps20
    go_wp2
    go_ret2
    exact ⟨rfl, rfl⟩
  · have h' : ¬ n < 1 := by omega
    go_enter Try.func20, Try.ntmps20
    go_wp2
    go_ret2
    exact ⟨rfl, rfl⟩
theorem newQueue_any (n : Nat) (w : World) (h0 : 1 ≤ n) (h1 : n ≤ 200) :
    Calls Try.prog 20 #[.int .i64 n] w fun e w' => e = .returned (.tuple #[.pointer (some ⟨w.heap.size, 0, none⟩), .int .i64 0]) ∧ QU w' (One w.heap.size) w.heap.size n [] ∧ Only Nil w w' := by
  go_enter Try.func20, Try.ntmps20
  go_wp2
  go_ret2
  refine ⟨rfl, ⟨⟨none, 0, Blk.new w _ _, ⟨[], Nat.le_refl _, rfl, World.ownsRow_nil _ _ _ _, ?_, fun r hr => absurd hr (by simp)⟩⟩, by simp, h0, h1, rfl, ?_⟩, (Only.refl _ _).alloc _⟩
  · intro q hq; cases hq
  · intro x hx; unfold One at hx; subst hx; simp

theorem qput_nil (m : M) (A : Option Addr) (c : Nat) (w : World) :
    Calls Try.prog 22 #[.pointer none, .agg (mcells A c m).toArray] w fun e w' => e = .returned (.int .i64 7) ∧ Only Nil w w' := by
  unfold mcells
  go_enter Try.func22, Try.ntmps22
  go_wp2_with fail
  go_ret
  exact ⟨rfl, (Only.refl _ _).alloc _⟩

/-- What Put of a message answers. -/
def qputE (size : Nat) (ms : List M) (m : M) : Int := if size ≤ ms.length ∨ 1536 < m.data.length then 6 else 0
def qputL (size : Nat) (ms : List M) (m : M) : List M := if size ≤ ms.length ∨ 1536 < m.data.length then ms else ms ++ [m]
def QPutPost (F : Nat → Prop) (p size : Nat) (ms : List M) (m : M) (w : World) (e : Ending) (w' : World) : Prop :=
  e = .returned (.int .i64 (qputE size ms m)) ∧ QU w' (Fnew F w w') p size (qputL size ms m) ∧ Only F w w'

theorem qput_end {F : Nat → Prop} {p size : Nat} {ms : List M} {m : M} {Aq A1 A5 : Option Addr} {cq c1 c5 : Nat} {rs : List (Option Addr × Nat × M)} {w w0 w1 w5 w' : World} {o : Obj}
    (hq : QU w F p size ms) (hblk : Blk w p 88 #[.int .i64 size, .slice Aq ms.length cq]) (hc : ¬ (size ≤ ms.length ∨ 1536 < m.data.length)) (hd : m.data.length ≤ 1536)
    (r2 : rs.map (fun r => r.2.2) = ms) (r3 : w.ownsRow 0 48 9 (.slice Aq ms.length cq) ms.length (rs.flatMap fun r => mcells r.1 r.2.1 r.2.2))
    (r4 : ∀ q, (Value.slice Aq ms.length cq).ownBlock = some q → F q)
    (r5 : ∀ r ∈ rs, r.2.2.data.length ≤ r.2.1 ∧ r.2.2.data.length ≤ 1536 ∧ w.ownsRow 0 5 1 (.slice r.1 r.2.2.data.length r.2.1) r.2.2.data.length (bcells r.2.2.data) ∧
      ∀ q, (Value.slice r.1 r.2.2.data.length r.2.1).ownBlock = some q → F q)
    (hO0 : Only Nil w w0) (hO1 : Only Nil w0 w1) (hc1 : m.data.length ≤ c1) (hown1 : w1.ownsRow w0.heap.size 5 1 (.slice A1 m.data.length c1) m.data.length (bcells m.data))
    (hc5 : ms.length + 1 ≤ c5) (hown5 : w5.ownsRow 0 48 9 (.slice A5 (ms.length + 1) c5) (ms.length + 1) ((rs.flatMap fun r => mcells r.1 r.2.1 r.2.2) ++ mcells A1 c1 m))
    (hgr : (w1.alloc o).grownBy w5 (Value.slice Aq ms.length cq).ownBlock)
    (hat : (Value.slice A5 (ms.length + 1) c5).ownBlock = (Value.slice Aq ms.length cq).ownBlock ∨ (Value.slice A5 (ms.length + 1) c5).ownBlock = some (w1.alloc o).heap.size)
    (hOp : Only (One p) w5 w') (hb' : Blk w' p 88 #[.int .i64 size, .slice A5 (ms.length + 1) c5]) :
    QPutPost F p size ms m w (.returned (.int .i64 0)) w' := by
  have hO1w : Only Nil w w1 := hO0.thenNil hO1
  have hg := Only.of_grown hgr
  have hOg : Only (fun x => (Value.slice Aq ms.length cq).ownBlock = some x) w w5 := (hO1w.alloc o).any.then_ hg
  have hs1 := hO1w.size
  have hs5 := hg.size
  have hs' := hOp.size
  have hs0 := hO0.size
  simp at hs5
  have hlen : (ms ++ [m]).length = ms.length + 1 := by simp
  have hn5 : ∀ q, (Value.slice A5 (ms.length + 1) c5).ownBlock = some q → q ≠ p := by
    rintro q e rfl
    rcases hat with h1 | h1
    · exact own_blk_ne r3 hblk (by decide) (h1 ▸ e)
    · rw [h1] at e
      injection e with e
      have := hblk.lt
      simp at e
      omega
  have hF5 : ∀ q, (Value.slice A5 (ms.length + 1) c5).ownBlock = some q → Fnew F w w' q := by
    intro q e
    have := own_lt hown5 e
    rcases hat with h1 | h1
    · exact .inl (r4 q (h1 ▸ e))
    · rw [h1] at e
      injection e with e
      simp at e
      exact .inr ⟨by omega, by omega⟩
  have hlt1 : ∀ q, (Value.slice A1 m.data.length c1).ownBlock = some q → w.heap.size ≤ q ∧ q < w1.heap.size := fun q e => ⟨by have := ownBlock_ge hown1 e; omega, own_lt hown1 e⟩
  have hp := hblk.lt
  have hO5' : Only (One p) w5 w' := hOp
  refine ⟨by unfold qputE; rw [if_neg hc], ?_, ?_⟩
  · unfold qputL
    rw [if_neg hc]
    refine ⟨⟨A5, c5, ?_, rs ++ [(A1, c1, m)], ?_, ?_, ?_, ?_, ?_⟩, ?_, hq.pos, hq.most, ?_, ?_⟩
    · rw [hlen]; exact hb'
    · rw [hlen]; exact hc5
    · simp [r2]
    · rw [hlen, List.flatMap_append]
      simp only [List.flatMap_cons, List.flatMap_nil, List.append_nil]
      exact own_only hown5 hOp (fun q hq hx => hn5 q hq hx)
    · rw [hlen]; exact hF5
    · intro r hr
      rcases List.mem_append.1 hr with h1 | h1
      · obtain ⟨g1, g2, g3, g4⟩ := r5 r h1
        have g5 := own_only g3 hOg (fun q hq hx => own_own_ne g3 r3 (by decide) hq hx)
        exact ⟨g1, g2, own_only g5 hOp (fun q hq hx => own_blk_ne g3 hblk (by decide) (by rw [hq]; unfold One at hx; rw [hx])), fun q hq => .inl (g4 q hq)⟩
      · have : r = (A1, c1, m) := by simpa using h1
        subst this
        have g5 := own_only hown1 (((Only.refl Nil w1).alloc o).any.then_ hg) (fun q hq hx => by have := (hlt1 q hq).1; have := own_lt r3 hx; omega)
        refine ⟨hc1, hd, own_base (own_only g5 hOp (fun q hq hx => by have := (hlt1 q hq).1; unfold One at hx; omega)) (Nat.zero_le _), fun q hq => .inr ⟨(hlt1 q hq).1, by have := (hlt1 q hq).2; omega⟩⟩
    · rw [hlen]; omega
    · exact .inl hq.foot
    · rintro x (hx | hx)
      · have := hq.bound x hx; omega
      · exact hx.2
  · exact (hOg.more fun x hx => r4 x hx).trans hOp (fun x hx => by unfold One at hx; subst hx; exact .inl hq.foot)

set_option maxRecDepth 100000 in
set_option maxHeartbeats 1000000 in
theorem qput_any {F : Nat → Prop} {p size : Nat} {ms : List M} (m : M) (A : Option Addr) (c : Nat) (w : World) (h : QU w F p size ms) (hb : Bs w w.heap.size A m.data) :
    Calls Try.prog 22 #[.pointer (some ⟨p, 0, none⟩), .agg (mcells A c m).toArray] w (QPutPost F p size ms m w) := by
  obtain ⟨Aq, cq, hblk, hrow⟩ := h.row
  have hr := h.room
  have hp0 := hblk.lt
  have hmost := h.most
  have q0 : ∀ x, (w.alloc x).cell? ⟨p, 0, none⟩ = some (.int .i64 size) := fun x => (hblk.alloc x).cell 0
  have q1 : ∀ x, (w.alloc x).cell? ⟨p, 1, none⟩ = some (.slice Aq ms.length cq) := fun x => (hblk.alloc x).cell 1
  have HH := Lib.hid h
  have HB := Lib.hid hb
  have HR := Lib.hid hrow
  have HK := Lib.hid hblk
  clear h hb hrow hblk
  have hE : qputE size ms m = if size ≤ ms.length ∨ 1536 < m.data.length then 6 else 0 := rfl
  have hL : qputL size ms m = if size ≤ ms.length ∨ 1536 < m.data.length then ms else ms ++ [m] := rfl
  have HE := Lib.hid hE
  have HL := Lib.hid hL
  clear hE hL
  by_cases hfull : (size : Int) ≤ ms.length ∨ (1536 : Int) < m.data.length
  · have hpost : ∀ w', Only Nil w w' → QPutPost F p size ms m w (.returned (.int .i64 6)) w' := fun w' hO => by
      have hc : size ≤ ms.length ∨ 1536 < m.data.length := by omega
      refine ⟨by rw [HE.out, if_pos hc], ?_, hO.any⟩
      rw [HL.out, if_pos hc]
      have h2 := HH.out.onlyNil hO
      obtain ⟨A2, c2, k1, k2⟩ := h2.row
      exact ⟨⟨A2, c2, k1, k2.more fun x hx => .inl hx⟩, h2.room, h2.pos, h2.most, .inl h2.foot, fun x hx => by rcases hx with hx | hx; exact h2.bound x hx; exact hx.2⟩
    have HP := Lib.hid hpost
    clear hpost
    unfold mcells
    rcases hfull with hf | hf
    · have hd : decide ((size : Int) ≤ ms.length) = true := by simpa using hf
      have hd2 : decide (size ≤ ms.length) = true := by simpa using hf
      go_enter Try.func22, Try.ntmps22
      go_wp2_with fail
      go_quiet (fail)
      go_wp2_with fail
      go_ret
      exact HP.out _ (((Only.refl _ _).alloc _).drewN _)
    · by_cases hf2 : (size : Int) ≤ ms.length
      · have hd : decide ((size : Int) ≤ ms.length) = true := by simpa using hf2
        have hd2 : decide (size ≤ ms.length) = true := by simpa using hf2
        go_enter Try.func22, Try.ntmps22
        go_wp2_with fail
        go_quiet (fail)
        go_wp2_with fail
        go_ret
        exact HP.out _ (((Only.refl _ _).alloc _).drewN _)
      · have hd2 : decide (size ≤ ms.length) = false := by simp; omega
        have hd : decide (1536 < m.data.length) = true := by simp; omega
        have hd3 : decide ((1536 : Int) < m.data.length) = true := by simpa using hf
        go_enter Try.func22, Try.ntmps22
        go_wp2_with fail
        go_quiet (fail)
        go_wp2_with fail
        go_ret
        exact HP.out _ (((Only.refl _ _).alloc _).drewN _)
  · have hd2 : decide (size ≤ ms.length) = false := by simp; omega
    have hd : decide (1536 < m.data.length) = false := by simp; omega
    have hd3 : decide ((1536 : Int) < m.data.length) = false := by simp; omega
    have hc : ¬ (size ≤ ms.length ∨ 1536 < m.data.length) := by omega
    have hms : ms.length < 200 := by omega
    have hdl : m.data.length ≤ 1536 := by omega
    have hdl2 : m.data.length ≤ 1099511627776 := by omega
    have HDL := Lib.hid hdl2
    have HC := Lib.hid hc
    clear hfull hc hdl2
    obtain ⟨rs, r1, r2, r3, r4, r5⟩ := HR.out
    obtain ⟨i0, hi0, hz0, hz1, hz2⟩ := info_parts msg_info
    obtain ⟨W0, hW0⟩ : ∃ W0, W0 = w.alloc (.cells (mcells A c m).toArray 48) := ⟨_, rfl⟩
    have hsW : W0.heap.size = w.heap.size + 1 := by rw [hW0]; simp
    have hOW : Only Nil w W0 := by rw [hW0]; exact (Only.refl _ _).alloc _
    have bx : ∀ n, Bs (W0.drewN n) (W0.drewN n).heap.size A m.data := fun n => (HB.out.onlyNil (hOW.drewN n) (Nat.le_refl _)).up (hOW.size)
    have ox : ∀ n w1, Only Nil (W0.drewN n) w1 → ∀ o, (w1.alloc o).ownsRow 0 48 9 (.slice Aq ms.length cq) ms.length (rs.flatMap fun r => mcells r.1 r.2.1 r.2.2) := fun n w1 h1 o => own_onlyNil r3 (((hOW.drewN n).thenNil h1).alloc o)
    have hne : ∀ q, (Value.slice Aq ms.length cq).ownBlock = some q → q ≠ p := fun q hq e => own_blk_ne r3 HK.out (by decide) (by rw [hq, e])
    have kx : ∀ n w1 o w2, Only Nil (W0.drewN n) w1 → (w1.alloc o).grownBy w2 (Value.slice Aq ms.length cq).ownBlock → Only (fun x => (Value.slice Aq ms.length cq).ownBlock = some x) w w2 ∧ Blk w2 p 88 #[.int .i64 size, .slice Aq ms.length cq] := fun n w1 o w2 h1 h2 => by
      have hO : Only (fun x => (Value.slice Aq ms.length cq).ownBlock = some x) w w2 := (((hOW.drewN n).thenNil h1).alloc o).any.then_ (Only.of_grown h2)
      exact ⟨hO, HK.out.only hO (fun e => hne p e rfl)⟩
    have kb : ∀ n w1, Only Nil (W0.drewN n) w1 → Blk w1 p 88 #[.int .i64 size, .slice Aq ms.length cq] := fun n w1 h1 => HK.out.onlyNil ((hOW.drewN n).thenNil h1)
    have KB := Lib.hid kb
    clear kb
    have m1 : ms.length + 1 ≤ maxLen := by unfold maxLen; omega
    have m2 : (ms.length + 1) * 88 ≤ 140737488355328 := by omega
    have BX := Lib.hid bx
    have OX := Lib.hid ox
    have KX := Lib.hid kx
    have M1 := Lib.hid m1
    have M2 := Lib.hid m2
    have HW0 := Lib.hid hW0
    have HOW := Lib.hid hOW
    have R5 := Lib.hid r5
    have R4 := Lib.hid r4
    have R3 := Lib.hid r3
    have R2 := Lib.hid r2
    clear bx ox kx m1 m2 hOW r5 r4 r3 r2 hsW hne
    unfold mcells at hW0
    subst hW0
    unfold mcells
    go_enter Try.func22, Try.ntmps22
    go_wp2_with fail
    go_quiet (fail)
    go_wp2_with fail
    go_region_law (first
      | (refine step_append_rd _ (by rfl) (.tmp 29) (.tmp 32) _ (by rfl) 0 48 i0 _ 9 88 Try.underlying45 hi0 hz0 hz1 hz2 rfl (by decide) (.slice Aq ms.length cq) ms.length _ (by simp [Act.eval]) (OX.out _ _ hO1 _) (w1.heap.size + 1) (some ⟨w1.heap.size, 0, none⟩) 1 1 _ (by simp [Act.eval]) (Rd.newBlock w1 (mcells A1 c1 m).toArray _ 9 1 rfl rfl) (mcells_one A1 c1 m) (ms.length + 1) rfl _ rfl M1.out M2.out (Nat.zero_le _) ?_; intro A5 c5 w5 hc5 hown5 hgr5 hat5; have kx5 := KX.out _ _ _ _ hO1 hgr5; have kc5 := kx5.2.cell 1; have kf5 := kx5.2.frozen 1)
      | (go_simp; go_at_call 49; refine (copied_any _ _ m _ (BX.out _) HDL.out).mono ?_; rintro e w1 ⟨A1, c1, rfl, hc1, hown1, hO1⟩; have kb1 := KB.out _ _ hO1; have kc1 := kb1.cell 1; have kd1 := fun o => (kb1.alloc o).cell 1))
    all_goals (
      go_wp2_with fail
      go_ret
      exact qput_end HH.out HK.out HC.out hdl R2.out R3.out R4.out R5.out (HOW.out.drewN _) hO1 hc1 hown1 hc5 hown5 hgr5 hat5 ((Only.refl (One p) w5).setCell (p := ⟨p, 1, none⟩) (.inl rfl) _) (kx5.2.set_ 1 _))

end Go.Proofs.Ytljfblnpgeconaa
