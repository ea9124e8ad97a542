/-
  Walks of the message queue: Len, First, Take, Drop.
  Conditions: the queue is known whole.
-/
import Derived.Test.YtljfblnpgeconaaRiD1
import Derived.Deep.OwnShut
namespace Go.Proofs.Ytljfblnpgeconaa
open Go.RowKit

theorem qlen_any {F : Nat → Prop} {p size : Nat} {ms : List M} (w : World) (h : QU w F p size ms) : Calls Try.prog 24 #[.pointer (some ⟨p, 0, none⟩)] w fun e w' => e = .returned (.int .i64 ms.length) ∧ w' = w := by
  obtain ⟨A, c, hb, _⟩ := h.row
  have k1 : w.cell? ⟨p, 1, none⟩ = some (.slice A ms.length c) := hb.cell 1
  clear h hb
  go_enter Try.func24, Try.ntmps24
  go_wp2_with fail
  go_ret
  exact ⟨rfl, rfl⟩

/-- The row of a queue that is not empty. -/
theorem QU.parts {w : World} {F : Nat → Prop} {p size : Nat} {ms : List M} (h : QU w F p size ms) (hn : 0 < ms.length) :
    ∃ (g c : Nat) (rs : List (Option Addr × Nat × M)), Blk w p 88 #[.int .i64 size, .slice (some ⟨g, 0, none⟩) ms.length c] ∧ rs.map (fun r => r.2.2) = ms ∧ DR w g c rs ∧ F g ∧ g ≠ p ∧
      ∀ r ∈ rs, r.2.2.data.length ≤ r.2.1 ∧ r.2.2.data.length ≤ 1536 ∧ w.ownsRow 0 5 1 (.slice r.1 r.2.2.data.length r.2.1) r.2.2.data.length (bcells r.2.2.data) ∧ ∀ q, (Value.slice r.1 r.2.2.data.length r.2.1).ownBlock = some q → F q := by
  obtain ⟨A, c, hb, rs, h1, h2, h3, h4, h5⟩ := h.row
  have hl : rs.length = ms.length := by rw [← h2, List.length_map]
  obtain ⟨g, rfl, _, hD⟩ := DR.of_own (ss := rs) h3 hn
  exact ⟨g, c, rs, hb, h2, hD, h4 g rfl, (fun e => own_blk_ne h3 hb (by decide) (by rw [e]; rfl)), h5⟩

def QFirstPost (ms : List M) (w : World) (e : Ending) (w' : World) : Prop :=
  (ms = [] → e = .returned (.tuple #[.agg #[.int .i64 0, .int .i64 0, .int .i64 0, .int .i64 0, .int .i64 0, .int .i64 0, .int .i64 0, .int .i64 0, .slice none 0 0], .bool false])) ∧
  (∀ m ms', ms = m :: ms' → ∃ A c, e = .returned (.tuple #[.agg #[.int .i64 m.src, .int .i64 m.dst, .int .i64 m.kind, .int .i64 m.seq, .int .i64 m.a0, .int .i64 m.a1, .int .i64 m.a2, .int .i64 m.a3, .slice A m.data.length c], .bool true]) ∧ m.data.length ≤ c ∧
    w'.ownsRow w.heap.size 5 1 (.slice A m.data.length c) m.data.length (bcells m.data)) ∧ Only Nil w w'

set_option maxRecDepth 100000 in
set_option maxHeartbeats 2000000 in
theorem qfirst_any {F : Nat → Prop} {p size : Nat} {ms : List M} (w : World) (h : QU w F p size ms) : Calls Try.prog 27 #[.pointer (some ⟨p, 0, none⟩)] w (QFirstPost ms w) := by
  have HL := Lib.hid (fun u (hu : Only Nil w u) => qlen_any u (h.onlyNil hu))
  rcases Nat.eq_zero_or_pos ms.length with hz | hz
  · obtain rfl : ms = [] := List.eq_nil_of_length_eq_zero hz
    clear h hz
    go_enter Try.func27, Try.ntmps27
    go_wp2_with fail
    refine (HL.out _ ((Only.refl _ _).alloc _)).mono ?_
    rintro e w1 ⟨rfl, rfl⟩
    go_wp2_with fail
    refine bodyPost_ret (v := .tuple #[.agg #[.int .i64 0, .int .i64 0, .int .i64 0, .int .i64 0, .int .i64 0, .int .i64 0, .int .i64 0, .int .i64 0, .slice none 0 0], .bool false]) (by simp [results, Try.results27, go_sem]) rfl ?_
    refine ⟨fun _ => rfl, fun m ms' he => (by cases he), (Only.refl Nil w).trans (S' := fun x => w.heap.size ≤ x) ?_ (fun x hx => .inr hx)⟩
    (repeat' (first | with_reducible exact Only.refl _ _ | with_reducible refine Only.setCell ?_ (Or.inl ?_) _ | with_reducible refine Only.drewN ?_ _ | with_reducible refine Only.drew ?_ | with_reducible refine Only.alloc ?_ _ | (exact Nat.le_refl _)))
  · obtain ⟨g, c, rs, hb, hm, hD, hF, hgp, hd⟩ := h.parts hz
    obtain ⟨m, ms', rfl⟩ : ∃ m ms', ms = m :: ms' := by
      cases ms with
      | nil => simp at hz
      | cons m ms' => exact ⟨m, ms', rfl⟩
    obtain ⟨⟨A0, c0, m0⟩, rs', rfl⟩ : ∃ r rs', rs = r :: rs' := by
      cases rs with
      | nil => simp at hm
      | cons r rs' => exact ⟨r, rs', rfl⟩
    have hmm : m0 = m := by simp at hm; exact hm.1
    subst hmm
    obtain ⟨_, d2, d3, _⟩ := hd (A0, c0, m0) (by simp)
    dsimp only at d2 d3
    have hCP := fun u (hu : Only Nil w u) => copied_any A0 c0 m0 u (Bs.of_own (own_onlyNil d3 hu)).1 (by omega)
    have HCP := Lib.hid hCP
    obtain ⟨N, hN⟩ : ∃ N, (m0 :: ms').length = N := ⟨_, rfl⟩
    rw [hN] at HL hb
    have HB := Lib.hid hb
    have HD := Lib.hid hD
    have hN1 : 0 < N := by rw [← hN]; exact hz
    clear h hz hm hF hgp hd d2 d3 hCP hN hb hD
    go_enter Try.func27, Try.ntmps27
    go_upto_region 0 with fail
    go_cut [2] (fun q wd => ∃ gr, q = .pointer (some ⟨gr, 0, none⟩) ∧ w.heap.size ≤ gr ∧ Blk wd gr 48 (mcells none 0 zM).toArray ∧ Only Nil w wd)
    case first =>
      go_wp2_with fail
      go_meet
      case rel => exact ⟨_, rfl, Nat.le_refl _, Blk.new _ _ _, by (repeat' (first | with_reducible exact Only.refl _ _ | with_reducible refine Only.setCell ?_ (Or.inl ?_) _ | with_reducible refine Only.drewN ?_ _ | with_reducible refine Only.drew ?_ | with_reducible refine Only.alloc ?_ _ | (fail)))⟩
    case rest =>
    obtain ⟨gr, rfl, hgr, hbr, hO⟩ := hcut
    have HR := Lib.hid hbr
    have HO := Lib.hid hO
    have HD2 := Lib.hid (HD.out.onlyNil hO)
    have kq : wc.cell? ⟨p, 1, none⟩ = some (.slice (some ⟨g, 0, none⟩) N c) := (HB.out.onlyNil hO).cell 1
    clear hbr hO
    go_wp2_with fail
    refine (HL.out _ HO.out).mono ?_
    rintro e w1 ⟨rfl, rfl⟩
    have hc := fun j hj => HD2.out.cell (k := 0) (r := (A0, c0, m0)) rfl j hj
    have HCW := Lib.hid (HCP.out w1 HO.out)
    have hb1 : ((N : Int) == 0) = false := beq_false_of_ne (by omega)
    have hN0 : (0 : Int) < N := by omega
    obtain ⟨s, d, kd, sq, a0, a1, a2, a3, dat⟩ := m0
    unfold mcells CopyPost at HCW
    dsimp only at HCW
    unfold QFirstPost
    have c0' : w1.cell? ⟨g, 0, none⟩ = some (.int .i64 s) := hc 0 (by omega)
    have c1 : w1.cell? ⟨g, 1, none⟩ = some (.int .i64 d) := hc 1 (by omega)
    have c2 : w1.cell? ⟨g, 2, none⟩ = some (.int .i64 kd) := hc 2 (by omega)
    have c3 : w1.cell? ⟨g, 3, none⟩ = some (.int .i64 sq) := hc 3 (by omega)
    have c4 : w1.cell? ⟨g, 4, none⟩ = some (.int .i64 a0) := hc 4 (by omega)
    have c5 : w1.cell? ⟨g, 5, none⟩ = some (.int .i64 a1) := hc 5 (by omega)
    have c6 : w1.cell? ⟨g, 6, none⟩ = some (.int .i64 a2) := hc 6 (by omega)
    have c7 : w1.cell? ⟨g, 7, none⟩ = some (.int .i64 a3) := hc 7 (by omega)
    have c8 : w1.cell? ⟨g, 8, none⟩ = some (.slice A0 dat.length c0) := hc 8 (by omega)
    obtain ⟨D, hDl⟩ : ∃ D, dat.length = D := ⟨_, rfl⟩
    rw [hDl] at HCW c8
    have HDL := Lib.hid hDl
    clear hc hDl
    go_wp2_with fail
    refine HCW.out.mono ?_
    rintro e w2 ⟨A1, d1, rfl, hd1, hown, hO2⟩
    have hb2 := HR.out.onlyNil hO2
    have k2 : ∀ i, w2.cell? ⟨gr, i, none⟩ = #[Value.int .i64 0, .int .i64 0, .int .i64 0, .int .i64 0, .int .i64 0, .int .i64 0, .int .i64 0, .int .i64 0, .slice none 0 0][i]? := fun i => hb2.cell i
    have f2 : ∀ i, w2.frozen? ⟨gr, i, none⟩ = false := fun i => hb2.frozen i
    have HB2 := Lib.hid hb2
    have HW := Lib.hid hown
    have HD1 := Lib.hid hd1
    have HO2 := Lib.hid (HO.out.thenNil hO2)
    have HS2 := Lib.hid (show w.heap.size ≤ w1.heap.size from HO.out.size)
    have HLT := Lib.hid (HR.out.lt)
    clear hb2 hown hd1 hO2 c0' c1 c2 c3 c4 c5 c6 c7 c8 kq
    go_wp2_with fail
    refine bodyPost_ret (v := .tuple #[.agg #[.int .i64 s, .int .i64 d, .int .i64 kd, .int .i64 sq, .int .i64 a0, .int .i64 a1, .int .i64 a2, .int .i64 a3, .slice A1 D d1], .bool true]) (by simp [results, Try.results27, go_sem, k2]) rfl ?_
    refine ⟨fun he => (by cases he), fun m ms'' he => ?_, HO2.out.trans (S' := fun x => w.heap.size ≤ x) (by (repeat' (first | with_reducible exact Only.refl _ _ | with_reducible refine Only.setCell ?_ (Or.inl ?_) _ | with_reducible refine Only.drewN ?_ _ | with_reducible refine Only.drew ?_ | with_reducible refine Only.alloc ?_ _ | (exact hgr)))) (fun x hx => .inr hx)⟩
    injection he with he _
    subst he
    dsimp only
    rw [HDL.out]
    refine ⟨A1, d1, rfl, HD1.out, own_base (own_only HW.out (S := One gr) (by (repeat' (first | with_reducible exact Only.refl _ _ | with_reducible refine Only.setCell ?_ (Or.inl ?_) _ | with_reducible refine Only.drewN ?_ _ | with_reducible refine Only.drew ?_ | with_reducible refine Only.alloc ?_ _ | (exact rfl)))) (fun q hq hx => own_blk_ne HW.out HB2.out (by decide) (by rw [hq, hx]))) HS2.out⟩

set_option maxRecDepth 100000 in
set_option maxHeartbeats 400000 in
/-- slices.Clone of messages. -/
theorem mclone_any (a : Addr) (n c : Nat) (xs : List Value) (w : World) (h : Rd w w.heap.size 9 (some a) n xs) (h1 : ∀ u ∈ xs, u.oneCell' = true) (hl : n ≤ 1000) :
    Calls Try.prog 52 #[.slice (some a) n c] w fun e w' => ∃ A2 c2, e = .returned (.slice A2 n c2) ∧ n ≤ c2 ∧ w'.ownsRow w.heap.size 48 9 (.slice A2 n c2) n xs ∧ Only Nil w w' := by
  obtain ⟨i0, hi0, hz0, hz1, hz2⟩ := info_parts msg_info
  have hee : ∀ w : World, (binOp .eql 45 (.slice (some a) n c) (.slice none 0 0)).run Try.prog w = .ok (.bool false) w := fun w => Lib.run_eql_slice_nil (P := Try.prog) w 45 48 (some a) n c 0 0 Try.underlying45
  have H := Lib.hid h
  have H1 := Lib.hid h1
  clear h h1
  go_enter Try.func52, Try.ntmps52
  go_wp2_with (at_builtin; go_must (refine wpList_append_rd _ rfl (.tmp 5) (.tmp 6) _ rfl w.heap.size 48 i0 _ 9 88 Try.underlying45 hi0 hz0 hz1 hz2 rfl (by omega) (.slice (some ⟨w.heap.size, 0, none⟩) 0 0) 0 [] rfl ?qown w.heap.size (some a) n c xs rfl ?qrd H1.out n (by omega) _ rfl ?q63 ?qby ?qbase ?_))
  case qown => exact World.ownsRow_lit w #[] 0 (Nat.le_refl _) (by unfold maxLen; omega) rfl
  case qrd => exact Rd.onlyNil H.out ((Only.refl _ _).alloc _) (Nat.le_refl _)
  case q63 => unfold maxLen; omega
  case qby => omega
  case qbase => simp
  intro A4 c4 w4 hc4 hown4 hgr4 hat4
  go_wp2_with fail
  go_ret
  exact ⟨A4, c4, rfl, hc4, by simpa using hown4, ((Only.refl _ _).alloc _).grown hgr4 (fun q hq => .inr (Nat.le_of_eq (by simpa [Value.ownBlock] using hq)))⟩

/-- What Take answers. -/
def QTakePost (F : Nat → Prop) (p size : Nat) (ms : List M) (w : World) (e : Ending) (w' : World) : Prop :=
  (ms = [] → e = .returned (.tuple #[.agg #[.int .i64 0, .int .i64 0, .int .i64 0, .int .i64 0, .int .i64 0, .int .i64 0, .int .i64 0, .int .i64 0, .slice none 0 0], .bool false])) ∧
  (∀ m ms', ms = m :: ms' → ∃ A c, e = .returned (.tuple #[.agg #[.int .i64 m.src, .int .i64 m.dst, .int .i64 m.kind, .int .i64 m.seq, .int .i64 m.a0, .int .i64 m.a1, .int .i64 m.a2, .int .i64 m.a3, .slice A m.data.length c], .bool true]) ∧ m.data.length ≤ c ∧
    Bs w' w'.heap.size A m.data) ∧ QU w' (Fnew F w w') p size ms.tail ∧ Only F w w'

/-- The queue with a new row behind its first message. -/
theorem qtake_end {F : Nat → Prop} {p size : Nat} {m : M} {ms : List M} {g c A2c : Nat} {A2 : Option Addr} {r : Option Addr × Nat × M} {rs : List (Option Addr × Nat × M)} {w w2 w3 w4 : World} {S : Nat → Prop}
    (hq : QU w F p size (m :: ms)) (hb : Blk w p 88 #[.int .i64 size, .slice (some ⟨g, 0, none⟩) (m :: ms).length c]) (hm : (r :: rs).map (fun r => r.2.2) = m :: ms)
    (hd : ∀ x ∈ r :: rs, x.2.2.data.length ≤ x.2.1 ∧ x.2.2.data.length ≤ 1536 ∧ w.ownsRow 0 5 1 (.slice x.1 x.2.2.data.length x.2.1) x.2.2.data.length (bcells x.2.2.data) ∧ ∀ q, (Value.slice x.1 x.2.2.data.length x.2.1).ownBlock = some q → F q)
    (hO2 : Only Nil w w2) (hO3 : Only Nil w2 w3) (hc2 : ms.length ≤ A2c) (hown : w3.ownsRow w2.heap.size 48 9 (.slice A2 ms.length A2c) ms.length (rs.flatMap rcells))
    (hO4 : Only S w3 w4) (hS : ∀ x, S x → x = p ∨ (w.heap.size ≤ x ∧ x < w2.heap.size)) (hb4 : Blk w4 p 88 #[.int .i64 size, .slice A2 ms.length A2c]) :
    QU w4 (Fnew F w w4) p size ms ∧ Only F w w4 := by
  have hpw := hb.lt
  have hO23 := hO2.thenNil hO3
  have s2 := hO2.size
  have s3 := hO3.size
  have s4 := hO4.size
  refine ⟨⟨⟨A2, A2c, hb4, rs, hc2, (by simp at hm; exact hm.2), ?_, ?_, ?_⟩, by have := hq.room; simp only [List.length_cons] at this; omega, hq.pos, hq.most, .inl hq.foot, ?_⟩, hO23.any.trans hO4 (fun x hx => ?_)⟩
  · refine own_base (own_only hown hO4 (fun q hqq hx => ?_)) (Nat.zero_le _)
    have h1 := ownBlock_ge hown hqq
    rcases hS q hx with h2 | h2 <;> omega
  · intro q hqq
    have h1 := ownBlock_ge hown hqq
    have h2 := own_lt hown hqq
    exact .inr ⟨by omega, by omega⟩
  · intro x hx
    obtain ⟨e1, e2, e3, e4⟩ := hd x (List.mem_cons_of_mem _ hx)
    refine ⟨e1, e2, own_only (own_onlyNil e3 hO23) hO4 (fun q hqq hx => ?_), fun q hqq => .inl (e4 q hqq)⟩
    have h1 := own_lt e3 hqq
    rcases hS q hx with h2 | h2
    · exact own_blk_ne e3 hb (by decide) (by rw [hqq, h2])
    · omega
  · rintro x (hx | hx)
    · have := hq.bound x hx; omega
    · exact hx.2
  · rcases hS x hx with h2 | h2
    · exact .inl (by rw [h2]; exact hq.foot)
    · exact .inr h2.1

set_option maxRecDepth 100000 in
set_option maxHeartbeats 4000000 in
theorem qtake_any {F : Nat → Prop} {p size : Nat} {ms : List M} (w : World) (h : QU w F p size ms) : Calls Try.prog 25 #[.pointer (some ⟨p, 0, none⟩)] w (QTakePost F p size ms w) := by
  have HQ := Lib.hid h
  have HFI := Lib.hid (fun u (hu : Only Nil w u) => qfirst_any u (h.onlyNil hu))
  clear h
  go_enter Try.func25, Try.ntmps25
  go_upto_region 0 with fail
  go_cut [2] (fun q wd => ∃ gr, q = .pointer (some ⟨gr, 0, none⟩) ∧ w.heap.size ≤ gr ∧ Blk wd gr 48 (mcells none 0 zM).toArray ∧ Only Nil w wd)
  case first =>
    go_wp2_with fail
    go_meet
    case rel => exact ⟨_, rfl, Nat.le_refl _, Blk.new _ _ _, by (repeat' (first | with_reducible exact Only.refl _ _ | with_reducible refine Only.setCell ?_ (Or.inl ?_) _ | with_reducible refine Only.drewN ?_ _ | with_reducible refine Only.drew ?_ | with_reducible refine Only.alloc ?_ _ | (fail)))⟩
  case rest =>
  obtain ⟨gr, rfl, hgr, hbr, hO⟩ := hcut
  have HR := Lib.hid hbr
  have HO := Lib.hid hO
  clear hbr hO
  obtain ⟨w1, rfl⟩ : ∃ w1, w1 = wc := ⟨_, rfl⟩
  go_upto_region 1 with fail
  go_cut [4, 5] (fun q b wd => ∃ gm, q = .pointer (some ⟨gm, 0, none⟩) ∧ w1.heap.size ≤ gm ∧ Only Nil w1 wd ∧
    (ms = [] → b = .bool false ∧ Blk wd gm 48 (mcells none 0 zM).toArray) ∧
    (∀ m ms', ms = m :: ms' → b = .bool true ∧ ∃ A c, m.data.length ≤ c ∧ Blk wd gm 48 #[.int .i64 m.src, .int .i64 m.dst, .int .i64 m.kind, .int .i64 m.seq, .int .i64 m.a0, .int .i64 m.a1, .int .i64 m.a2, .int .i64 m.a3, .slice A m.data.length c] ∧ wd.ownsRow w1.heap.size 5 1 (.slice A m.data.length c) m.data.length (bcells m.data)))
  case first =>
    go_wp2_with fail
    refine (HFI.out _ HO.out).mono ?_
    rintro e w2 ⟨hz, hy, hO2⟩
    have HO2 := Lib.hid hO2
    cases ms with
    | nil =>
      obtain rfl := hz rfl
      clear hz hy hO2
      go_wp2_with fail
      go_meet
      case rel => exact ⟨_, rfl, HO2.out.size, by (repeat' (first | with_reducible exact Only.refl _ _ | with_reducible refine Only.setCell ?_ (Or.inl ?_) _ | with_reducible refine Only.drewN ?_ _ | with_reducible refine Only.drew ?_ | with_reducible refine Only.alloc ?_ _ | (exact HO2.out))), fun _ => ⟨rfl, Blk.new _ _ _⟩, fun m ms' he => by cases he⟩
    | cons m ms' =>
      obtain ⟨A, c, rfl, hc, hown⟩ := hy m ms' rfl
      have HC := Lib.hid hc
      have HW := Lib.hid hown
      obtain ⟨s, d, kd, sq, a0, a1, a2, a3, dat⟩ := m
      dsimp only at HC HW
      clear hz hy hO2 hc hown
      go_wp2_with fail
      go_meet
      case rel =>
        refine ⟨_, rfl, HO2.out.size, by (repeat' (first | with_reducible exact Only.refl _ _ | with_reducible refine Only.setCell ?_ (Or.inl ?_) _ | with_reducible refine Only.drewN ?_ _ | with_reducible refine Only.drew ?_ | with_reducible refine Only.alloc ?_ _ | (exact HO2.out))), fun he => (by cases he), fun m ms'' he => ?_⟩
        injection he with he _
        subst he
        exact ⟨rfl, A, c, HC.out, Blk.new _ _ _, own_onlyNil HW.out ((Only.refl _ _).alloc _)⟩
  case rest =>
  obtain ⟨gm, rfl, hgm, hO2, hz, hy⟩ := hcut
  cases ms with
  | nil =>
    obtain ⟨rfl, hbm⟩ := hz rfl
    have km : ∀ i, wc.cell? ⟨gm, i, none⟩ = #[Value.int .i64 0, .int .i64 0, .int .i64 0, .int .i64 0, .int .i64 0, .int .i64 0, .int .i64 0, .int .i64 0, .slice none 0 0][i]? := fun i => hbm.cell i
    have hbr2 := HR.out.onlyNil hO2
    have kr : ∀ i, wc.cell? ⟨gr, i, none⟩ = #[Value.int .i64 0, .int .i64 0, .int .i64 0, .int .i64 0, .int .i64 0, .int .i64 0, .int .i64 0, .int .i64 0, .slice none 0 0][i]? := fun i => hbr2.cell i
    have fr : ∀ i, wc.frozen? ⟨gr, i, none⟩ = false := fun i => hbr2.frozen i
    have HO2 := Lib.hid (HO.out.thenNil hO2)
    clear hz hy hbm hbr2 hO2
    go_wp2_with fail
    refine bodyPost_ret (v := .tuple #[.agg #[.int .i64 0, .int .i64 0, .int .i64 0, .int .i64 0, .int .i64 0, .int .i64 0, .int .i64 0, .int .i64 0, .slice none 0 0], .bool false]) (by simp [results, Try.results25, go_sem, kr]) rfl ?_
    have hfin : ∀ u, Only (One gr) wc u → QTakePost F p size [] w (.returned (.tuple #[.agg #[.int .i64 0, .int .i64 0, .int .i64 0, .int .i64 0, .int .i64 0, .int .i64 0, .int .i64 0, .int .i64 0, .slice none 0 0], .bool false])) u := fun u hu => by
      have hOu : Only Nil w u := HO2.out.trans hu (fun x hx => .inr (by unfold One at hx; omega))
      have h2 := HQ.out.onlyNil hOu
      obtain ⟨A2, c2, k1, k2⟩ := h2.row
      exact ⟨fun _ => rfl, fun m ms' he => (by cases he), ⟨⟨A2, c2, k1, k2.more fun x hx => .inl hx⟩, h2.room, h2.pos, h2.most, .inl h2.foot, fun x hx => by rcases hx with hx | hx; exact h2.bound x hx; exact hx.2⟩, hOu.any⟩
    refine hfin _ ?_
    (repeat' (first | with_reducible exact Only.refl _ _ | with_reducible refine Only.setCell ?_ (Or.inl ?_) _ | with_reducible refine Only.drewN ?_ _ | with_reducible refine Only.drew ?_ | with_reducible refine Only.alloc ?_ _ | (exact rfl)))
  | cons m ms' =>
    obtain ⟨rfl, A, c, hc, hbm, hown⟩ := hy m ms' rfl
    obtain ⟨g, cq, rs, hb, hm, hD, hF, hgp, hd⟩ := HQ.out.parts (by simp)
    obtain ⟨r, rs', rfl⟩ : ∃ r rs', rs = r :: rs' := by
      cases rs with
      | nil => simp at hm
      | cons r rs' => exact ⟨r, rs', rfl⟩
    have hO02 := HO.out.thenNil hO2
    have hb2 := hb.onlyNil hO02
    have hD2 := hD.onlyNil hO02
    have hbr2 := HR.out.onlyNil hO2
    have hrl : (r :: rs').length = (m :: ms').length := by rw [← hm, List.length_map]
    have hN40 : (m :: ms').length ≤ 200 := Nat.le_trans HQ.out.room HQ.out.most
    obtain ⟨Ax, hAx⟩ : ∃ Ax, (if cq = 1 then (⟨g, 0, none⟩ : Addr) else ⟨g, 9, none⟩) = Ax := ⟨_, rfl⟩
    have hif : (if cq = 1 then some (⟨g, 0, none⟩ : Addr) else some ⟨g, 9, none⟩) = some Ax := by rw [← hAx]; split <;> rfl
    have hrd : Rd wc wc.heap.size 9 (some Ax) ms'.length (rs'.flatMap rcells) := by
      have h1 := (Rd.of_own hD2.own).cut (k := 1) (cap := cq) (by simp) hD2.le
      have h2 : (if cq = 1 then some (⟨g, 0, none⟩ : Addr) else Option.map (fun x : Addr => x.add (1 * 9)) (some (⟨g, 0, none⟩ : Addr))) = some Ax := by rw [← hAx]; split <;> rfl
      rw [h2, flat_drop rcells_len] at h1
      have h3 : (r :: rs').length - 1 = ms'.length := by rw [hrl]; rfl
      rw [h3] at h1
      exact h1
    have HCN := Lib.hid (fun C => mclone_any Ax ms'.length C (rs'.flatMap rcells) wc hrd (flat_one (fun x => mcells_one _ _ _) rs') (by simp at hN40; omega))
    obtain ⟨s, d, kd, sq, a0, a1, a2, a3, dat⟩ := m
    dsimp only at hc hbm hown
    have km : ∀ i, wc.cell? ⟨gm, i, none⟩ = #[Value.int .i64 s, .int .i64 d, .int .i64 kd, .int .i64 sq, .int .i64 a0, .int .i64 a1, .int .i64 a2, .int .i64 a3, .slice A dat.length c][i]? := fun i => hbm.cell i
    have HBM := Lib.hid hbm
    have HBR := Lib.hid hbr2
    have HB0 := Lib.hid hb
    have HB2 := Lib.hid hb2
    have HM := Lib.hid hm
    have HDT := Lib.hid hd
    have HC := Lib.hid hc
    have HW := Lib.hid hown
    have HO02 := Lib.hid hO02
    have HGM := Lib.hid (show w.heap.size ≤ gm from Nat.le_trans HO.out.size hgm)
    have HGP := Lib.hid hgp
    have HLM := Lib.hid hbm.lt
    have HLR := Lib.hid (Nat.lt_of_lt_of_le HR.out.lt hO2.size)
    have HRM : Hid (gr ≠ gm) := Lib.hid (by have := HR.out.lt; omega)
    have HPW := Lib.hid hb.lt
    have kq : wc.cell? ⟨p, 1, none⟩ = some (.slice (some ⟨g, 0, none⟩) (ms'.length + 1) cq) := hb2.cell 1
    have hcq1 : (1 : Int) ≤ cq := by have := hD.le; simp at this; omega
    obtain ⟨N, hN⟩ : ∃ N, ms'.length = N := ⟨_, rfl⟩
    rw [hN] at HCN kq
    have HN := Lib.hid hN
    have hn1 : (1 : Int) ≤ ((N + 1 : Nat) : Int) := by omega
    have hn2 : (((N + 1 : Nat) : Int) - 1).toNat = N := by omega
    clear hz hy hc hbm hown hb hm hD hd hO02 hb2 hD2 hbr2 hrl hN40 hrd hgp hF hgm hN hO2 hAx
    go_wp2_with fail
    refine (HCN.out _).mono ?_
    rintro e w3 ⟨A2, c2, rfl, hc2, hown3, hO3⟩
    have hb3 := HB2.out.onlyNil hO3
    have hbm3 := HBM.out.onlyNil hO3
    have hbr3 := HBR.out.onlyNil hO3
    have fp : ∀ i, w3.frozen? ⟨p, i, none⟩ = false := fun i => hb3.frozen i
    have kp : w3.cell? ⟨p, 1, none⟩ = some (.slice (some ⟨g, 0, none⟩) (N + 1) cq) := by rw [← HN.out]; exact hb3.cell 1
    have km3 : ∀ i, w3.cell? ⟨gm, i, none⟩ = #[Value.int .i64 s, .int .i64 d, .int .i64 kd, .int .i64 sq, .int .i64 a0, .int .i64 a1, .int .i64 a2, .int .i64 a3, .slice A dat.length c][i]? := fun i => hbm3.cell i
    have kr3 : ∀ i, w3.cell? ⟨gr, i, none⟩ = #[Value.int .i64 0, .int .i64 0, .int .i64 0, .int .i64 0, .int .i64 0, .int .i64 0, .int .i64 0, .int .i64 0, .slice none 0 0][i]? := fun i => hbr3.cell i
    have fr3 : ∀ i, w3.frozen? ⟨gr, i, none⟩ = false := fun i => hbr3.frozen i
    have n1 : p ≠ gm := by have := HPW.out; have := HGM.out; omega
    have n2 : gm ≠ p := n1.symm
    have n3 : p ≠ gr := by have := HPW.out; omega
    have n4 : gr ≠ p := n3.symm
    have n5 : gr ≠ gm := HRM.out
    have n6 : gm ≠ gr := n5.symm
    have HB3 := Lib.hid hb3
    have HC2 := Lib.hid hc2
    have HW3 := Lib.hid hown3
    have HO3 := Lib.hid hO3
    clear hb3 hbm3 hbr3 hc2 hown3 hO3 km kq hcq1 hif
    go_wp2_with fail
    refine bodyPost_ret (v := .tuple #[.agg #[.int .i64 s, .int .i64 d, .int .i64 kd, .int .i64 sq, .int .i64 a0, .int .i64 a1, .int .i64 a2, .int .i64 a3, .slice A dat.length c], .bool true]) (by simp [results, Try.results25, go_sem, kr3, n3, n4]) rfl ?_
    have hfin : ∀ u, Only (fun x => x = p ∨ x = gr) w3 u → Blk u p 88 #[.int .i64 size, .slice A2 N c2] → QTakePost F p size (⟨s, d, kd, sq, a0, a1, a2, a3, dat⟩ :: ms') w (.returned (.tuple #[.agg #[.int .i64 s, .int .i64 d, .int .i64 kd, .int .i64 sq, .int .i64 a0, .int .i64 a1, .int .i64 a2, .int .i64 a3, .slice A dat.length c], .bool true])) u := fun u hu hb4 => by
      have hc2 := HC2.out
      have hown3 := HW3.out
      rw [← HN.out] at hc2 hown3 hb4
      obtain ⟨e1, e2⟩ := qtake_end HQ.out HB0.out HM.out HDT.out HO02.out HO3.out hc2 hown3 hu (fun x hx => by
        rcases hx with hx | hx
        · exact .inl hx
        · rw [hx]; exact .inr ⟨hgr, HLR.out⟩) hb4
      refine ⟨fun he => (by cases he), fun m ms'' he => ?_, e1, e2⟩
      injection he with he _
      subst he
      refine ⟨A, c, rfl, HC.out, (Bs.of_own (own_only (own_onlyNil HW.out HO3.out) hu (fun q hq hx => ?_))).1⟩
      have h1 := ownBlock_ge HW.out hq
      have h2 := HR.out.lt
      have h3 := HPW.out
      have h4 := HO.out.size
      rcases hx with hx | hx <;> omega
    refine hfin _ ?_ (((((((((((HB3.out.set_ 1 _).far n3 _).far n3 _).far n3 _).far n3 _).far n3 _).far n3 _).far n3 _).far n3 _).far n3 _))
    (repeat' (first | with_reducible exact Only.refl _ _ | with_reducible refine Only.setCell ?_ (Or.inl ?_) _ | with_reducible refine Only.drewN ?_ _ | with_reducible refine Only.drew ?_ | with_reducible refine Only.alloc ?_ _ | (first | exact Or.inl rfl | exact Or.inr rfl)))

/-- What Drop answers. -/
def QDropPost (F : Nat → Prop) (p size : Nat) (ms : List M) (src : Int) (w : World) (e : Ending) (w' : World) : Prop :=
  e = .returned (.int .i64 ((ms.length : Int) - (ms.filter fun m => !(m.src == src)).length)) ∧ QU w' F p size (ms.filter fun m => !(m.src == src)) ∧ Only F w w'

theorem filter_rows (src : Int) (rs : List (Option Addr × Nat × M)) : (rs.filter (keepR src)).map (fun r => r.2.2) = (rs.map (fun r => r.2.2)).filter fun m => !(m.src == src) := by
  induction rs with
  | nil => rfl
  | cons r rs ih =>
    rw [List.map_cons]
    cases h : r.2.2.src == src
    · rw [List.filter_cons_of_pos (by unfold keepR; rw [h]; rfl), List.filter_cons_of_pos (by rw [h]; rfl), List.map_cons, ih]
    · rw [List.filter_cons_of_neg (by unfold keepR; rw [h]; simp), List.filter_cons_of_neg (by rw [h]; simp), ih]

set_option maxRecDepth 100000 in
set_option maxHeartbeats 2000000 in
theorem qdrop_any {F : Nat → Prop} {p size : Nat} {ms : List M} (src : Int) (w : World) (h : QU w F p size ms) : Calls Try.prog 23 #[.pointer (some ⟨p, 0, none⟩), .int .i64 src] w (QDropPost F p size ms src w) := by
  have HQ := Lib.hid h
  have HLN := Lib.hid (fun u (hu : Only Nil w u) => qlen_any u (h.onlyNil hu))
  have hN200 : ms.length ≤ 200 := Nat.le_trans h.room h.most
  obtain ⟨N, hN⟩ : ∃ N, ms.length = N := ⟨_, rfl⟩
  rw [hN] at HLN hN200
  have HN := Lib.hid hN
  clear h hN
  go_enter Try.func23, Try.ntmps23
  go_upto_region 0 with fail
  go_cut [3] (fun q wd => ∃ bx, q = .pointer (some ⟨bx, 0, none⟩) ∧ w.heap.size ≤ bx ∧ Blk wd bx 3 #[.int .i64 src] ∧ Only Nil w wd)
  case first =>
    go_wp2_with fail
    go_meet
    case rel => exact ⟨_, rfl, Nat.le_refl _, Blk.new _ _ _, by (repeat' (first | with_reducible exact Only.refl _ _ | with_reducible refine Only.setCell ?_ (Or.inl ?_) _ | with_reducible refine Only.drewN ?_ _ | with_reducible refine Only.drew ?_ | with_reducible refine Only.alloc ?_ _ | (fail)))⟩
  case rest =>
  obtain ⟨bx, rfl, hbx, hbb, hO⟩ := hcut
  have HB := Lib.hid hbb
  have HO := Lib.hid hO
  clear hbb hO
  go_wp2_with fail
  refine (HLN.out _ HO.out).mono ?_
  rintro e w1 ⟨rfl, rfl⟩
  rcases Nat.eq_zero_or_pos N with hz | hz
  · subst hz
    have hms : ms = [] := List.eq_nil_of_length_eq_zero HN.out
    go_wp2_with fail
    refine (HLN.out _ HO.out).mono ?_
    rintro e w2 ⟨rfl, rfl⟩
    go_wp2_with fail
    go_ret
    subst hms
    exact ⟨rfl, HQ.out.onlyNil HO.out, HO.out.any⟩
  · obtain ⟨g, c, rs, hb, hm, hD, hF, hgp, hd⟩ := HQ.out.parts (by rw [HN.out]; exact hz)
    have hrl : rs.length = N := by rw [← HN.out, ← hm, List.length_map]
    have hpw := hb.lt
    have hDE := delete_any src bx g c rs w1 (hD.onlyNil HO.out) HB.out (by omega) (by have := hD.lt; omega)
    unfold DelPost at hDE
    rw [hrl] at hDE
    have HDE := Lib.hid hDE
    have hb1 := hb.onlyNil HO.out
    have kq : w1.cell? ⟨p, 1, none⟩ = some (.slice (some ⟨g, 0, none⟩) N c) := by rw [← HN.out]; exact hb1.cell 1
    have HB1 := Lib.hid hb1
    have HM := Lib.hid hm
    have HDT := Lib.hid hd
    have HF := Lib.hid hF
    have HGP := Lib.hid hgp
    have HB0 := Lib.hid hb
    have HD0 := Lib.hid hD
    have hzi : (0 : Int) < N := by omega
    obtain ⟨fs, hfs⟩ : ∃ fs, rs.filter (keepR src) = fs := ⟨_, rfl⟩
    rw [hfs] at HDE
    obtain ⟨K, hK⟩ : ∃ K, fs.length = K := ⟨_, rfl⟩
    rw [hK] at HDE
    have HFS := Lib.hid hfs
    have HK := Lib.hid hK
    have hKN : K ≤ N := by
      have := List.length_filter_le (keepR src) rs
      rw [hfs, hK, hrl] at this
      exact this
    clear hb hm hD hF hgp hd hrl hDE hb1 hfs hK hpw
    go_wp2_with fail
    refine HDE.out.mono ?_
    rintro e w2 ⟨rfl, hD2, hO2⟩
    have hb2 := HB1.out.only hO2 HGP.out.symm
    have kq2 : w2.cell? ⟨p, 1, none⟩ = some (.slice (some ⟨g, 0, none⟩) N c) := by rw [← HN.out]; exact hb2.cell 1
    have fq2 : ∀ i, w2.frozen? ⟨p, i, none⟩ = false := fun i => hb2.frozen i
    have hfin : ∀ u, Only (One p) w2 u → Blk u p 88 #[.int .i64 size, .slice (some ⟨g, 0, none⟩) K c] → QU u F p size (ms.filter fun m => !(m.src == src)) ∧ Only F w u := fun u hu hbu => by
      have hfm : fs.map (fun r => r.2.2) = ms.filter fun m => !(m.src == src) := by rw [← HFS.out, filter_rows, HM.out]
      have hfl : (ms.filter fun m => !(m.src == src)).length = K := by rw [← hfm, List.length_map, HK.out]
      have hOF : Only F w u := (HO.out.any.trans hO2 (fun x hx => by unfold One at hx; rw [hx]; exact .inl HF.out)).trans hu (fun x hx => by unfold One at hx; rw [hx]; exact .inl HQ.out.foot)
      have hD3 : DR u g c fs := hD2.only hu (fun hx => HGP.out (by unfold One at hx; exact hx))
      refine ⟨⟨⟨some ⟨g, 0, none⟩, c, by rw [hfl]; exact hbu, fs, ?_, hfm, ?_, ?_, ?_⟩, ?_, HQ.out.pos, HQ.out.most, HQ.out.foot, fun x hx => Nat.lt_of_lt_of_le (HQ.out.bound x hx) hOF.size⟩, hOF⟩
      · rw [hfl, ← HK.out]; exact hD3.le
      · rw [hfl, ← HK.out]; exact hD3.own
      · intro q hq
        have : g = q := by simpa [Value.ownBlock] using hq
        rw [← this]; exact HF.out
      · intro r hr
        rw [← HFS.out] at hr
        obtain ⟨e1, e2, e3, e4⟩ := HDT.out r (List.mem_filter.1 hr).1
        refine ⟨e1, e2, ?_, e4⟩
        have e5 := own_only (own_onlyNil e3 HO.out) hO2 (fun q hq hx => own_own_ne e3 HD0.out.own (by decide) hq (by unfold One at hx; rw [hx]; rfl))
        exact own_only e5 hu (fun q hq hx => own_blk_ne e3 HB0.out (by decide) (by unfold One at hx; rw [hq, hx]))
      · rw [hfl]
        have := HQ.out.room
        rw [HN.out] at this
        omega
    have HFIN := Lib.hid hfin
    have HB2 := Lib.hid hb2
    have hfl2 : (ms.filter fun m => !(m.src == src)).length = K := by
      have : fs.map (fun r => r.2.2) = ms.filter fun m => !(m.src == src) := by rw [← HFS.out, filter_rows, HM.out]
      rw [← this, List.length_map, HK.out]
    have HFL := Lib.hid hfl2
    have hsub : IntKind.i64.wrap ((N : Int) - K) = (N : Int) - K := IntWalk.i64_in _ (by omega)
    clear hD2 hO2 hb2 hfin kq hfl2
    go_wp2_with fail
    obtain ⟨hQ3, hO3⟩ := HFIN.out _ ((Only.refl (One p) w2).setCell (p := ⟨p, 1, none⟩) (.inl rfl) (.slice (some ⟨g, 0, none⟩) K c)) (HB2.out.set_ 1 _)
    have hln := qlen_any _ hQ3
    rw [HFL.out] at hln
    have HLN3 := Lib.hid hln
    have HQ3 := Lib.hid hQ3
    have HO3 := Lib.hid hO3
    clear hln hQ3 hO3
    refine HLN3.out.mono ?_
    rintro e w3 ⟨rfl, rfl⟩
    go_wp2_with fail
    go_ret
    unfold QDropPost
    rw [HFL.out, HN.out]
    exact ⟨rfl, HQ3.out, HO3.out⟩

end Go.Proofs.Ytljfblnpgeconaa
