/-
  The law RingDrop: messages are taken out in order; after Drop, only those of other senders are left.
  No conditions.
-/
import Derived.Test.YtljfblnpgeconaaRiA
import Derived.Test.YtljfblnpgeconaaRiD2
import Derived.Test.YtljfblnpgeconaaRiD3
import Derived.Test.YtljfblnpgeconaaMsgS
import Derived.StillTailTactics
namespace Go.Proofs.Ytljfblnpgeconaa
open Go.ChangeShapes Go.WideShapes Go.ChangeAt Go.RowKit Go.Deep

def wcells (r : QC) : List Value := mcells r.A r.c r.m
theorem wcells_len (r : QC) : (wcells r).length = 9 := rfl
/-- The calls whose message is put in. -/
def puts (rs : List QC) : List QC := rs.filter fun r => decide (r.m.data.length ≤ 1536)
/-- .. and those of other senders. -/
def wants (z : Int) (rs : List QC) : List QC := (puts rs).filter fun r => !(r.m.src == z)
theorem puts_add {rs : List QC} {r : QC} (h : r.m.data.length ≤ 1536) : puts (rs ++ [r]) = puts rs ++ [r] := by
  unfold puts
  rw [List.filter_append, List.filter_cons_of_pos (by simpa using h), List.filter_nil]
theorem puts_skip {rs : List QC} {r : QC} (h : ¬ r.m.data.length ≤ 1536) : puts (rs ++ [r]) = puts rs := by
  unfold puts
  rw [List.filter_append, List.filter_cons_of_neg (by simpa using h), List.filter_nil, List.append_nil]
theorem wants_skip {z : Int} {rs : List QC} {r : QC} (h : ¬ r.m.data.length ≤ 1536) : wants z (rs ++ [r]) = wants z rs := by unfold wants; rw [puts_skip h]
theorem wants_same {z : Int} {rs : List QC} {r : QC} (h : r.m.data.length ≤ 1536) (hs : r.m.src = z) : wants z (rs ++ [r]) = wants z rs := by
  unfold wants
  rw [puts_add h, List.filter_append, List.filter_cons_of_neg (by simp [hs]), List.filter_nil, List.append_nil]
theorem wants_diff {z : Int} {rs : List QC} {r : QC} (h : r.m.data.length ≤ 1536) (hs : r.m.src ≠ z) : wants z (rs ++ [r]) = wants z rs ++ [r] := by
  unfold wants
  rw [puts_add h, List.filter_append, List.filter_cons_of_pos (by simp [hs]), List.filter_nil]
theorem wants_map (z : Int) (rs : List QC) : (wants z rs).map QC.m = ((puts rs).map QC.m).filter fun m => !(m.src == z) := by
  unfold wants
  rw [List.filter_map]
  rfl
theorem puts_len (rs : List QC) : (puts rs).length ≤ rs.length := List.length_filter_le _ _
theorem wants_len (z : Int) (rs : List QC) : (wants z rs).length ≤ rs.length := Nat.le_trans (List.length_filter_le _ _) (puts_len rs)

/-- What is known behind k puts. -/
structure DI (w wr : World) (z : Int) (rs : List QC) (k p : Nat) (Aw : Option Addr) (cw ns : Nat) (F : Nat → Prop) : Prop where
  q : QU wr F p 60 ((puts (rs.take k)).map QC.m)
  row : wr.ownsRow w.heap.size 48 9 (.slice Aw (wants z (rs.take k)).length cw) (wants z (rs.take k)).length ((wants z (rs.take k)).flatMap wcells)
  apart : ∀ x, (Value.slice Aw (wants z (rs.take k)).length cw).ownBlock = some x → ¬ F x
  low : ∀ x, F x → w.heap.size ≤ x
  only : Only Nil w wr
  cnt : ns + (wants z (rs.take k)).length = (puts (rs.take k)).length

theorem QC.take_succ {rs : List QC} {k : Nat} {r : QC} (hr : rs[k]? = some r) : rs.take (k + 1) = rs.take k ++ [r] := by
  obtain ⟨hk, e⟩ := List.getElem?_eq_some_iff.1 hr
  rw [List.take_succ_eq_append_getElem hk, e]

section
variable {w wr w1 w2 : World} {z : Int} {rs : List QC} {k p : Nat} {Aw : Option Addr} {cw ns : Nat} {F : Nat → Prop} {r : QC}
theorem DI.qlen (h : DI w wr z rs k p Aw cw ns F) : ((puts (rs.take k)).map QC.m).length ≤ k := by
  rw [List.length_map]
  have := puts_len (rs.take k)
  rw [List.length_take] at this
  omega
/-- The row and the queue behind a put. -/
theorem DI.after (h : DI w wr z rs k p Aw cw ns F) (hO1 : Only Nil wr w1) (hO : Only F w1 w2) :
    w2.ownsRow w.heap.size 48 9 (.slice Aw (wants z (rs.take k)).length cw) (wants z (rs.take k)).length ((wants z (rs.take k)).flatMap wcells) ∧
      (∀ x, (Value.slice Aw (wants z (rs.take k)).length cw).ownBlock = some x → ¬ Fnew F w1 w2 x) ∧ (∀ x, Fnew F w1 w2 x → w.heap.size ≤ x) ∧ Only Nil w w2 := by
  have hs := h.only.size
  have hs1 := hO1.size
  refine ⟨own_only (own_onlyNil h.row hO1) hO (fun q hq hx => h.apart q hq hx), fun x hx => ?_, fun x hx => ?_, ?_⟩
  · rintro (h1 | h1)
    · exact h.apart x hx h1
    · have := own_lt h.row hx; omega
  · rcases hx with hx | hx
    · exact h.low x hx
    · omega
  · exact (h.only.thenNil hO1).trans hO (fun x hx => .inr (h.low x hx))
theorem DI.skip (h : DI w wr z rs k p Aw cw ns F) (hr : rs[k]? = some r) (hd : ¬ r.m.data.length ≤ 1536) (hO1 : Only Nil wr w1) (hO : Only F w1 w2) (hQ : QU w2 (Fnew F w1 w2) p 60 ((puts (rs.take k)).map QC.m)) : DI w w2 z rs (k + 1) p Aw cw ns (Fnew F w1 w2) := by
  obtain ⟨h1, h2, h3, h4⟩ := h.after hO1 hO
  have e1 : puts (rs.take (k + 1)) = puts (rs.take k) := by rw [QC.take_succ hr, puts_skip hd]
  have e2 : wants z (rs.take (k + 1)) = wants z (rs.take k) := by rw [QC.take_succ hr, wants_skip hd]
  exact ⟨by rw [e1]; exact hQ, by rw [e2]; exact h1, by rw [e2]; exact h2, h3, h4, by rw [e1, e2]; exact h.cnt⟩
theorem DI.same (h : DI w wr z rs k p Aw cw ns F) (hr : rs[k]? = some r) (hd : r.m.data.length ≤ 1536) (hs : r.m.src = z) (hO1 : Only Nil wr w1) (hO : Only F w1 w2) (hQ : QU w2 (Fnew F w1 w2) p 60 ((puts (rs.take k)).map QC.m ++ [r.m])) : DI w w2 z rs (k + 1) p Aw cw (ns + 1) (Fnew F w1 w2) := by
  obtain ⟨h1, h2, h3, h4⟩ := h.after hO1 hO
  have e1 : puts (rs.take (k + 1)) = puts (rs.take k) ++ [r] := by rw [QC.take_succ hr, puts_add hd]
  have e2 : wants z (rs.take (k + 1)) = wants z (rs.take k) := by rw [QC.take_succ hr, wants_same hd hs]
  exact ⟨by rw [e1, List.map_append]; exact hQ, by rw [e2]; exact h1, by rw [e2]; exact h2, h3, h4, by rw [e1, e2, List.length_append, List.length_singleton, ← h.cnt]; omega⟩
theorem DI.diff {w4 : World} {o : Obj} {A4 : Option Addr} {c4 : Nat} (h : DI w wr z rs k p Aw cw ns F) (hr : rs[k]? = some r) (hd : r.m.data.length ≤ 1536) (hs : r.m.src ≠ z) (hO1 : Only Nil wr w1) (hO : Only F w1 w2) (hQ : QU w2 (Fnew F w1 w2) p 60 ((puts (rs.take k)).map QC.m ++ [r.m]))
    (hown : w4.ownsRow w.heap.size 48 9 (.slice A4 ((wants z (rs.take k)).length + 1) c4) ((wants z (rs.take k)).length + 1) ((wants z (rs.take k)).flatMap wcells ++ wcells r))
    (hgr : (w2.alloc o).grownBy w4 (Value.slice Aw (wants z (rs.take k)).length cw).ownBlock)
    (hat : (Value.slice A4 ((wants z (rs.take k)).length + 1) c4).ownBlock = (Value.slice Aw (wants z (rs.take k)).length cw).ownBlock ∨ (Value.slice A4 ((wants z (rs.take k)).length + 1) c4).ownBlock = some (w2.alloc o).heap.size) :
    DI w w4 z rs (k + 1) p A4 c4 ns (Fnew F w1 w2) := by
  obtain ⟨h1, h2, h3, h4⟩ := h.after hO1 hO
  have e1 : puts (rs.take (k + 1)) = puts (rs.take k) ++ [r] := by rw [QC.take_succ hr, puts_add hd]
  have e2 : wants z (rs.take (k + 1)) = wants z (rs.take k) ++ [r] := by rw [QC.take_succ hr, wants_diff hd hs]
  have e3 : (wants z (rs.take (k + 1))).length = (wants z (rs.take k)).length + 1 := by rw [e2, List.length_append, List.length_singleton]
  have hg : Only (fun x => (Value.slice Aw (wants z (rs.take k)).length cw).ownBlock = some x) w2 w4 := ((Only.refl Nil w2).alloc o).any.then_ (Only.of_grown hgr)
  refine ⟨?_, ?_, ?_, h3, h4.trans hg (fun x hx => .inr (ownBlock_ge h1 hx)), ?_⟩
  · rw [e1, List.map_append]
    exact hQ.only hg (fun x hx hy => h2 x hy hx)
  · rw [e3, e2, List.flatMap_append]
    simp only [List.flatMap_cons, List.flatMap_nil, List.append_nil]
    exact hown
  · rw [e3]
    intro x hx hF
    rcases hat with h5 | h5
    · exact h2 x (h5 ▸ hx) hF
    · rw [h5] at hx
      injection hx with hx
      have := hQ.bound x hF
      simp at hx
      omega
  · rw [e3, e1, List.length_append, List.length_singleton, ← h.cnt]
    omega
end

/-- What is known while messages are taken out. -/
structure DT (w wr : World) (z : Int) (rs : List QC) (k p : Nat) (Aw : Option Addr) (cw : Nat) (F : Nat → Prop) : Prop where
  q : QU wr F p 60 (((wants z rs).map QC.m).drop k)
  row : wr.ownsRow w.heap.size 48 9 (.slice Aw (wants z rs).length cw) (wants z rs).length ((wants z rs).flatMap wcells)
  apart : ∀ x, (Value.slice Aw (wants z rs).length cw).ownBlock = some x → ¬ F x
  low : ∀ x, F x → w.heap.size ≤ x
  only : Only Nil w wr
theorem DT.nil {w wr w1 : World} {z : Int} {rs : List QC} {k p : Nat} {Aw : Option Addr} {cw : Nat} {F : Nat → Prop} (h : DT w wr z rs k p Aw cw F) (hO : Only Nil wr w1) : DT w w1 z rs k p Aw cw F :=
  ⟨h.q.onlyNil hO, own_onlyNil h.row hO, h.apart, h.low, h.only.thenNil hO⟩
theorem DT.next {w wr w2 : World} {z : Int} {rs : List QC} {k p : Nat} {Aw : Option Addr} {cw : Nat} {F : Nat → Prop} (h : DT w wr z rs k p Aw cw F) (hO : Only F wr w2) (hQ : QU w2 (Fnew F wr w2) p 60 (((wants z rs).map QC.m).drop k).tail) : DT w w2 z rs (k + 1) p Aw cw (Fnew F wr w2) := by
  have hs := h.only.size
  refine ⟨by rw [List.tail_drop] at hQ; exact hQ, own_only h.row hO (fun q hq hx => h.apart q hq hx), fun x hx => ?_, fun x hx => ?_, h.only.trans hO (fun x hx => .inr (h.low x hx))⟩
  · rintro (h1 | h1)
    · exact h.apart x hx h1
    · have := own_lt h.row hx; omega
  · rcases hx with hx | hx
    · exact h.low x hx
    · omega

namespace ringDrop
set_option maxRecDepth 100000 in
set_option maxHeartbeats 8000000 in
theorem walk (A : Option Addr) (cap : Nat) (rs : List QC) (z : Int) (w : World) (h : QCs w A rs) (hl : rs.length ≤ maxLen) :
    Calls Try.prog 5 #[.slice A rs.length cap, .int .i64 z] w (LawPost w) := by
  obtain ⟨i0, hi0, hz0, hz1, hz2⟩ := info_parts msg_info
  have HFW := Lib.hid (fun u (hu : Only Nil w u) => qfew_any A cap rs u (h.next hu) hl)
  unfold QFewPost at HFW
  have H := Lib.hid h
  obtain ⟨N, hN⟩ : ∃ N, rs.length = N := ⟨_, rfl⟩
  rw [hN] at HFW ⊢
  have HN := Lib.hid hN
  clear h hl hN
  go_enter Try.func5, Try.ntmps5
  go_wp2_with fail
  refine (awake_any _).mono ?_
  rintro e w1 ⟨rfl, hO1⟩
  have HO1 := Lib.hid hO1
  clear hO1
  go_wp2_with fail
  refine (newQueue_any 60 _ (by omega) (by omega)).mono ?_
  rintro e w2 ⟨rfl, hQ, hO2⟩
  obtain ⟨p, hp⟩ : ∃ p, w1.heap.size = p := ⟨_, rfl⟩
  rw [hp] at hQ ⊢
  have HQ := Lib.hid hQ
  have HP := Lib.hid (show w.heap.size ≤ p by rw [← hp]; exact HO1.out.size)
  have HO2 := Lib.hid (HO1.out.thenNil hO2)
  clear hQ hO2 hp
  go_wp2_with fail
  refine (HFW.out _ HO2.out).mono ?_
  rintro e w3 ⟨b, rfl, hb, rfl⟩
  cases b
  · go_wp2_with fail
    go_ret
    exact ⟨rfl, HO2.out⟩
  have hN40 : N ≤ 40 := hb rfl
  clear hb
  go_wp2_with fail
  go_loopw [9, 7, 8] (fun i v n wr => ∃ (k ns : Nat) (Aw : Option Addr) (cw : Nat) (F : Nat → Prop), k ≤ N ∧ i = .int .i64 k ∧ v = .slice Aw (wants z (rs.take k)).length cw ∧ n = .int .i64 ns ∧ DI w wr z rs k p Aw cw ns F) (fun i _ _ _ => N - (intOf i).toNat)
  case atStart => exact ⟨0, 0, none, 0, One p, Nat.zero_le _, rfl, rfl, rfl, HQ.out, World.ownsRow_nil _ _ _ _, fun x hx => (by cases hx), fun x hx => (by unfold One at hx; have := HP.out; omega), HO2.out, rfl⟩
  case round =>
    obtain ⟨k, ns, Aw, cw, F, hk, rfl, rfl, rfl, hD⟩ := hrel
    have HD := Lib.hid hD
    have hcn := hD.cnt
    have hpl := hD.qlen
    rw [List.length_map] at hpl
    clear hD
    obtain ⟨L, hL⟩ : ∃ L, (wants z (rs.take k)).length = L := ⟨_, rfl⟩
    have hLk : L ≤ k := by
      have := wants_len z (rs.take k)
      rw [List.length_take, hL] at this
      omega
    rw [hL] at hcn ⊢
    have hnk : ns ≤ 40 := by omega
    have HL := Lib.hid hL
    clear hL hcn hpl
    by_cases hlt : k < N
    · obtain ⟨r, hr⟩ : ∃ r, rs[k]? = some r := ⟨rs[k]'(by rw [HN.out]; exact hlt), List.getElem?_eq_getElem _⟩
      obtain ⟨b, off, rfl, _, hc⟩ := (H.out.next HD.out.only).at_ hr
      have hmok := fun u (hu : Only Nil w u) => ((H.out.next hu).ok r (List.mem_of_getElem? hr)).msg.data
      have HMOK := Lib.hid hmok
      have HX := Lib.hid hr
      clear hr hmok
      obtain ⟨kd0, sr0, Ad, cd, m⟩ := r
      obtain ⟨s, d, kd, sq, a0, a1, a2, a3, dat⟩ := m
      dsimp only at HMOK
      have c2 : wr.cell? ⟨b, off + k * 11 + 2, none⟩ = some (.int .i64 s) := hc 2 _ rfl
      have c3 : wr.cell? ⟨b, off + k * 11 + 2 + 1, none⟩ = some (.int .i64 d) := hc 3 _ rfl
      have c4 : wr.cell? ⟨b, off + k * 11 + 2 + 2, none⟩ = some (.int .i64 kd) := hc 4 _ rfl
      have c5 : wr.cell? ⟨b, off + k * 11 + 2 + 3, none⟩ = some (.int .i64 sq) := hc 5 _ rfl
      have c6 : wr.cell? ⟨b, off + k * 11 + 2 + 4, none⟩ = some (.int .i64 a0) := hc 6 _ rfl
      have c7 : wr.cell? ⟨b, off + k * 11 + 2 + 5, none⟩ = some (.int .i64 a1) := hc 7 _ rfl
      have c8 : wr.cell? ⟨b, off + k * 11 + 2 + 6, none⟩ = some (.int .i64 a2) := hc 8 _ rfl
      have c9 : wr.cell? ⟨b, off + k * 11 + 2 + 7, none⟩ = some (.int .i64 a3) := hc 9 _ rfl
      have c10 : wr.cell? ⟨b, off + k * 11 + 2 + 8, none⟩ = some (.slice Ad dat.length cd) := hc 10 _ rfl
      have d3 : wr.cell? ⟨b, off + k * 11 + 3, none⟩ = some (.int .i64 d) := hc 3 _ rfl
      have d4 : wr.cell? ⟨b, off + k * 11 + 4, none⟩ = some (.int .i64 kd) := hc 4 _ rfl
      have d5 : wr.cell? ⟨b, off + k * 11 + 5, none⟩ = some (.int .i64 sq) := hc 5 _ rfl
      have d6 : wr.cell? ⟨b, off + k * 11 + 6, none⟩ = some (.int .i64 a0) := hc 6 _ rfl
      have d7 : wr.cell? ⟨b, off + k * 11 + 7, none⟩ = some (.int .i64 a1) := hc 7 _ rfl
      have d8 : wr.cell? ⟨b, off + k * 11 + 8, none⟩ = some (.int .i64 a2) := hc 8 _ rfl
      have d9 : wr.cell? ⟨b, off + k * 11 + 9, none⟩ = some (.int .i64 a3) := hc 9 _ rfl
      have d10 : wr.cell? ⟨b, off + k * 11 + 10, none⟩ = some (.slice Ad dat.length cd) := hc 10 _ rfl
      have hki : (k : Int) < N := by omega
      clear hc
      obtain ⟨w4, rfl⟩ : ∃ w4, w4 = wr := ⟨_, rfl⟩
      go_upto_region 11 with fail
      go_cut [10] from 31 to 59 (fun q wd => ∃ gm, q = .pointer (some ⟨gm, 0, none⟩) ∧ w4.heap.size ≤ gm ∧ Blk wd gm 48 #[.int .i64 s, .int .i64 d, .int .i64 kd, .int .i64 sq, .int .i64 a0, .int .i64 a1, .int .i64 a2, .int .i64 a3, .slice Ad dat.length cd] ∧ Only Nil w4 wd)
      case first =>
        go_wp2_with fail
        go_meet
        case rel => exact ⟨_, rfl, Nat.le_refl _, Blk.new _ _ _, by (repeat' (first | with_reducible exact Only.refl _ _ | with_reducible refine Only.setCell ?_ (Or.inl ?_) _ | with_reducible refine Only.drewN ?_ _ | with_reducible refine Only.drew ?_ | with_reducible refine Only.alloc ?_ _ | (fail)))⟩
      case rest =>
      obtain ⟨gm, rfl, hgm, hbm, hO11⟩ := hcut
      clear c2 c3 c4 c5 c6 c7 c8 c9 c10 d3 d4 d5 d6 d7 d8 d9 d10
      have km : ∀ i, wc.cell? ⟨gm, i, none⟩ = #[Value.int .i64 s, .int .i64 d, .int .i64 kd, .int .i64 sq, .int .i64 a0, .int .i64 a1, .int .i64 a2, .int .i64 a3, .slice Ad dat.length cd][i]? := fun i => hbm.cell i
      have HBM := Lib.hid hbm
      have HO11 := Lib.hid hO11
      have HGF : Hid (¬ F gm) := Lib.hid (fun hx => by have := HD.out.q.bound gm hx; omega)
      have hput := qput_any ⟨s, d, kd, sq, a0, a1, a2, a3, dat⟩ Ad cd wc (HD.out.q.onlyNil hO11) (HMOK.out _ (HD.out.only.thenNil hO11))
      have hql := HD.out.qlen
      have hput2 : Calls Try.prog 22 #[.pointer (some ⟨p, 0, none⟩), .agg #[.int .i64 s, .int .i64 d, .int .i64 kd, .int .i64 sq, .int .i64 a0, .int .i64 a1, .int .i64 a2, .int .i64 a3, .slice Ad dat.length cd]] wc fun e w' => (1536 < dat.length → e = .returned (.int .i64 6) ∧ QU w' (Fnew F wc w') p 60 ((puts (rs.take k)).map QC.m)) ∧ (¬ 1536 < dat.length → e = .returned (.int .i64 0) ∧ QU w' (Fnew F wc w') p 60 ((puts (rs.take k)).map QC.m ++ [⟨s, d, kd, sq, a0, a1, a2, a3, dat⟩])) ∧ Only F wc w' := by
        refine hput.mono ?_
        rintro e w' ⟨rfl, h2, h3⟩
        unfold qputE
        unfold qputL at h2
        dsimp only at h2 ⊢
        refine ⟨fun hd => ?_, fun hd => ?_, h3⟩
        · rw [if_pos (.inr hd)] at h2 ⊢
          exact ⟨rfl, h2⟩
        · rw [if_neg (by omega)] at h2 ⊢
          exact ⟨rfl, h2⟩
      have HPUT := Lib.hid hput2
      clear hbm hO11 hput hput2 hql hgm
      go_wp2_with fail
      refine HPUT.out.mono ?_
      rintro e w5 ⟨hbig, hsm, hO5⟩
      have hbm5 := HBM.out.only hO5 HGF.out
      have km5 : ∀ i, w5.cell? ⟨gm, i, none⟩ = #[Value.int .i64 s, .int .i64 d, .int .i64 kd, .int .i64 sq, .int .i64 a0, .int .i64 a1, .int .i64 a2, .int .i64 a3, .slice Ad dat.length cd][i]? := fun i => hbm5.cell i
      have HO5 := Lib.hid hO5
      clear hbm5 hO5 km
      by_cases hd : 1536 < dat.length
      · obtain ⟨rfl, hQ5⟩ := hbig hd
        have HNX := Lib.hid (HD.out.skip HX.out (by dsimp only; omega) HO11.out HO5.out hQ5)
        have hdi : ¬ (dat.length : Int) ≤ 1536 := by omega
        have HL2 := Lib.hid (show (wants z (rs.take (k + 1))).length = L by rw [QC.take_succ HX.out, wants_skip (by dsimp only; omega)]; exact HL.out)
        clear hbig hsm hQ5
        go_wp2_with fail
        go_roundw
        case rel => exact ⟨k + 1, ns, Aw, cw, _, by omega, by go_num, by rw [HL2.out], rfl, HNX.out⟩
        case measure => simp [intOf]; omega
      · obtain ⟨rfl, hQ5⟩ := hsm hd
        have HQ5 := Lib.hid hQ5
        clear hbig hsm hQ5
        by_cases hs : s = z
        · have hb1 : (s == z) = true := by simp [hs]
          have HNX := Lib.hid (HD.out.same HX.out (by dsimp only; omega) hs HO11.out HO5.out HQ5.out)
          have HL2 := Lib.hid (show (wants z (rs.take (k + 1))).length = L by rw [QC.take_succ HX.out, wants_same (by dsimp only; omega) hs]; exact HL.out)
          clear hs
          go_wp2_with fail
          go_roundw
          case rel => exact ⟨k + 1, ns + 1, Aw, cw, _, by omega, by go_num, by rw [HL2.out], by go_num, HNX.out⟩
          case measure => simp [intOf]; omega
        · have hb1 : (s == z) = false := beq_false_of_ne hs
          have HDI := Lib.hid (HD.out.after HO11.out HO5.out)
          have HL2 := Lib.hid (show (wants z (rs.take (k + 1))).length = L + 1 by rw [QC.take_succ HX.out, wants_diff (by dsimp only; omega) hs, List.length_append, HL.out]; rfl)
          have HS := Lib.hid hs
          have HRW := Lib.hid (fun o => own_onlyNil HDI.out.1 ((Only.refl Nil w5).alloc o))
          rw [HL.out] at HRW
          have HSZ := Lib.hid (Nat.le_trans HDI.out.2.2.2.size (Nat.le_succ w5.heap.size))
          clear hs
          go_wp2_with (at_builtin; go_must (refine wpList_append_rd _ rfl (.tmp 56) (.tmp 58) _ rfl w.heap.size 48 i0 _ 9 88 Try.underlying45 hi0 hz0 hz1 hz2 rfl (by omega) (.slice Aw L cw) L ((wants z (rs.take k)).flatMap wcells) rfl ?qown (w5.heap.size + 1) (some ⟨w5.heap.size, 0, none⟩) 1 1 [.int .i64 s, .int .i64 d, .int .i64 kd, .int .i64 sq, .int .i64 a0, .int .i64 a1, .int .i64 a2, .int .i64 a3, .slice Ad dat.length cd] rfl ?qrd ?qone (L + 1) rfl _ rfl ?q63 ?qby ?qbase ?_))
          case qown => exact HRW.out _
          case qrd => exact Rd.newBlock w5 #[.int .i64 s, .int .i64 d, .int .i64 kd, .int .i64 sq, .int .i64 a0, .int .i64 a1, .int .i64 a2, .int .i64 a3, .slice Ad dat.length cd] _ 9 1 rfl rfl
          case qone => first | exact mcells_one Ad cd ⟨s, d, kd, sq, a0, a1, a2, a3, dat⟩ | exact ⟨rfl, rfl, rfl, rfl, rfl, rfl, rfl, rfl, rfl⟩
          case q63 => unfold maxLen; omega
          case qby => omega
          case qbase => have := HSZ.out; simp; omega
          intro A6 c6 w6 hc6 hown6 hgr6 hat6
          have hnx := HD.out.diff HX.out (by dsimp only; omega) HS.out HO11.out HO5.out HQ5.out (w4 := w6) (A4 := A6) (c4 := c6) (by rw [HL.out]; exact hown6) (by rw [HL.out]; exact hgr6) (by rw [HL.out, World.size_alloc]; exact hat6)
          have HNX := Lib.hid hnx
          clear hnx hown6 hgr6 hat6 hc6
          go_wp2_with fail
          go_roundw
          case rel => exact ⟨k + 1, ns, A6, c6, _, by omega, by go_num, by rw [HL2.out], rfl, HNX.out⟩
          case measure => simp [intOf]; omega
    · have hkN : k = N := by omega
      subst hkN
      have htk : rs.take k = rs := List.take_of_length_le (by rw [HN.out]; exact Nat.le_refl _)
      have hD := HD.out
      have hLL := HL.out
      rw [htk] at hLL
      have hq := hD.q
      have hrow := hD.row
      have hap := hD.apart
      have hcn := hD.cnt
      rw [htk] at hq hrow hap hcn
      have hfl : (((puts rs).map QC.m).filter fun m => !(m.src == z)).length = L := by rw [← wants_map, List.length_map, hLL]
      have hpl : ((puts rs).map QC.m).length = ns + L := by rw [List.length_map, ← hcn, hLL]
      have hdr := qdrop_any z wr hq
      unfold QDropPost at hdr
      rw [hfl, hpl] at hdr
      have HDR := Lib.hid hdr
      have HROW := Lib.hid hrow
      have HAP := Lib.hid hap
      have HLO := Lib.hid hD.low
      have HON := Lib.hid hD.only
      have HLL := Lib.hid hLL
      have hsn : ((ns + L : Nat) : Int) - (L : Int) = (ns : Int) := by omega
      rw [hsn] at HDR
      clear hD hLL hq hrow hap hcn hfl hpl hdr htk hsn hlt
      go_wp2_with fail
      refine HDR.out.mono ?_
      rintro e w5 ⟨rfl, hQ5, hO5⟩
      rw [← wants_map] at hQ5
      have hT : DT w w5 z rs 0 p Aw cw F := ⟨by rw [List.drop_zero]; exact hQ5, own_only HROW.out hO5 (fun q hq hx => HAP.out q hq hx), HAP.out, HLO.out, HON.out.trans hO5 (fun x hx => .inr (HLO.out x hx))⟩
      have hln := qlen_any w5 hQ5
      rw [List.length_map, HLL.out] at hln
      have HLN := Lib.hid hln
      have HT := Lib.hid hT
      clear hQ5 hO5 hT hln
      go_wp2_with fail
      refine HLN.out.mono ?_
      rintro e w6 ⟨rfl, rfl⟩
      go_wp2_with fail
      go_loopw [11] (fun i wr => ∃ (j : Nat) (F : Nat → Prop), j ≤ L ∧ i = .int .i64 j ∧ DT w wr z rs j p Aw cw F) (fun i _ => L - (intOf i).toNat)
      case atStart => exact ⟨0, F, Nat.zero_le _, rfl, HT.out⟩
      case round =>
        obtain ⟨j, F, hj, rfl, hD⟩ := hrel
        have HD := Lib.hid hD
        have HTK := Lib.hid (qtake_any wr hD.q)
        clear hD
        by_cases hlt : j < L
        · obtain ⟨r, hr⟩ : ∃ r, (wants z rs)[j]? = some r := ⟨(wants z rs)[j]'(by rw [HLL.out]; exact hlt), List.getElem?_eq_getElem _⟩
          have hmem : r ∈ rs := by
            have h1 := List.mem_of_getElem? hr
            unfold wants puts at h1
            exact (List.mem_filter.1 (List.mem_filter.1 h1).1).1
          have hdp : ((wants z rs).map QC.m).drop j = r.m :: ((wants z rs).map QC.m).drop (j + 1) := by
            obtain ⟨h1, h2⟩ := List.getElem?_eq_some_iff.1 hr
            rw [← List.map_drop, ← List.map_drop, List.drop_eq_getElem_cons h1, h2]
            rfl
          have HDP := Lib.hid hdp
          have HR := Lib.hid hr
          have HMEM := Lib.hid hmem
          clear hr hmem hdp
          go_wp2_with fail
          refine HTK.out.mono ?_
          rintro e w7 ⟨_, hy, hQ7, hO7⟩
          obtain ⟨A7, c7, rfl, hc7, hb7⟩ := hy _ _ HDP.out
          have hT7 := HD.out.next hO7 hQ7
          have HT7 := Lib.hid hT7
          have hrow7 := hT7.row
          have hrd7 := (Rd.of_own hrow7)
          obtain ⟨g7, off7, hA7, hg7, hc⟩ := Rd.row wcells_len hrd7 HR.out (by omega)
          have hdat := ((H.out.next hT7.only).ok r HMEM.out).msg.data
          have hsm := fun u (hu : Only Nil w7 u) => same_msg A7 c7 r.m r.A r.c r.m u ((hb7.onlyNil hu (Nat.le_refl _)).up hu.size) ((hdat.onlyNil hu (Nat.le_refl _)).up hu.size)
          rw [sameM_iff.2 rfl] at hsm
          have HSM := Lib.hid hsm
          subst hA7
          obtain ⟨kd0, sr0, Ad, cd, m⟩ := r
          obtain ⟨s, d, kd, sq, a0, a1, a2, a3, dat⟩ := m
          unfold mcells at HSM
          dsimp only at HSM
          have hcu : ∀ u, Only Nil w7 u → ∀ q v, (wcells ⟨kd0, sr0, Ad, cd, ⟨s, d, kd, sq, a0, a1, a2, a3, dat⟩⟩)[q]? = some v → u.cell? ⟨g7, off7 + (j * 9 + q), none⟩ = some v := fun u hu q v hq => (hu.cell (lt_of_cell (hc q v hq)) (fun h => h)).trans (hc q v hq)
          have HCU := Lib.hid hcu
          have hji : (j : Int) < L := by omega
          dsimp only
          clear hy hQ7 hO7 hc7 hb7 hT7 hrow7 hrd7 hg7 hc hdat hsm hcu
          go_upto_region 24 with fail
          obtain ⟨w8, hw8⟩ : ∃ w8, w7.alloc (.cells #[.int .i64 s, .int .i64 d, .int .i64 kd, .int .i64 sq, .int .i64 a0, .int .i64 a1, .int .i64 a2, .int .i64 a3, .slice A7 dat.length c7] 48) = w8 := ⟨_, rfl⟩
          have hO8 : Only Nil w7 w8 := by rw [← hw8]; exact (Only.refl _ _).alloc _
          have hb8 : Blk w8 w7.heap.size 48 #[.int .i64 s, .int .i64 d, .int .i64 kd, .int .i64 sq, .int .i64 a0, .int .i64 a1, .int .i64 a2, .int .i64 a3, .slice A7 dat.length c7] := by rw [← hw8]; exact Blk.new _ _ _
          obtain ⟨gm, hgm⟩ : ∃ gm, w7.heap.size = gm := ⟨_, rfl⟩
          rw [hgm] at hb8
          rw [hw8, hgm]
          have HB8 := Lib.hid hb8
          have HO8 := Lib.hid hO8
          have kb : ∀ i, w8.drew.cell? ⟨gm, i, none⟩ = #[Value.int .i64 s, .int .i64 d, .int .i64 kd, .int .i64 sq, .int .i64 a0, .int .i64 a1, .int .i64 a2, .int .i64 a3, .slice A7 dat.length c7][i]? := fun i => hb8.drew.cell i
          have hcu2 := HCU.out _ hO8.drew
          have e0 : w8.drew.cell? ⟨g7, off7 + j * 9, none⟩ = some (.int .i64 s) := hcu2 0 _ rfl
          have e1 : w8.drew.cell? ⟨g7, off7 + j * 9 + 1, none⟩ = some (.int .i64 d) := hcu2 1 _ rfl
          have e2 : w8.drew.cell? ⟨g7, off7 + j * 9 + 2, none⟩ = some (.int .i64 kd) := hcu2 2 _ rfl
          have e3 : w8.drew.cell? ⟨g7, off7 + j * 9 + 3, none⟩ = some (.int .i64 sq) := hcu2 3 _ rfl
          have e4 : w8.drew.cell? ⟨g7, off7 + j * 9 + 4, none⟩ = some (.int .i64 a0) := hcu2 4 _ rfl
          have e5 : w8.drew.cell? ⟨g7, off7 + j * 9 + 5, none⟩ = some (.int .i64 a1) := hcu2 5 _ rfl
          have e6 : w8.drew.cell? ⟨g7, off7 + j * 9 + 6, none⟩ = some (.int .i64 a2) := hcu2 6 _ rfl
          have e7 : w8.drew.cell? ⟨g7, off7 + j * 9 + 7, none⟩ = some (.int .i64 a3) := hcu2 7 _ rfl
          have e8 : w8.drew.cell? ⟨g7, off7 + j * 9 + 8, none⟩ = some (.slice Ad dat.length cd) := hcu2 8 _ rfl
          clear hw8 hgm hO8 hb8 hcu2
          go_still_tail 8, (by kernel_rfl)
          go_wp2_with fail
          refine (HSM.out _ HO8.out.drew).mono ?_
          rintro x w9 ⟨rfl, hO9⟩
          have HT9 := Lib.hid (HT7.out.nil (HO8.out.drew.thenNil hO9))
          clear hO9 kb e0 e1 e2 e3 e4 e5 e6 e7 e8
          go_wp2_with fail
          go_roundw
          case rel => exact ⟨j + 1, _, by omega, by go_num, HT9.out⟩
          case measure => simp [intOf]; omega
        · have hjL : j = L := by omega
          subst hjL
          have hdn : ((wants z rs).map QC.m).drop j = [] := List.drop_eq_nil_of_le (by rw [List.length_map, HLL.out]; exact Nat.le_refl _)
          have HDN := Lib.hid hdn
          have HDL := Lib.hid HD.out.low
          have HDO := Lib.hid HD.out.only
          clear hdn
          go_wp2_with fail
          refine HTK.out.mono ?_
          rintro e w7 ⟨hn, _, _, hO7⟩
          obtain rfl := hn HDN.out
          have HO7 := Lib.hid (HDO.out.trans hO7 (fun x hx => .inr (HDL.out x hx)))
          clear hn hO7
          go_wp2_with fail
          go_ret
          exact ⟨rfl, HO7.out.alloc _⟩

set_option maxRecDepth 100000 in
theorem from_args {H : Type} {enc : TypeId × Value → H} (W : World) (base : Nat) (args : Array Value) (ds : List (DataW H)) (ps : List MemPlace)
    (hval0 : ∀ (j : Nat) t v, Try.f5.params[j]? = some t → args[j]? = some v → Value.okWide Try.prog W .any base t v)
    (hA : DataW.TrodAll enc Try.prog W 0 (fun _ => true) true Try.f5.params.toList args.toList ds ps) (_hlt : ∀ x ∈ ps, x.block < W.heap.size)
    (hsz : (DataW.weightsEach Try.prog Try.f5.params.toList ds).all (· ≤ reachBytes) = true) : Calls Try.prog 5 args W (LawPost W) := by
  have hval := hval0
  rw [Try.params5] at hA hval hsz
  obtain ⟨v0, vs0, d0, ds0, p0, q0, hargs, rfl, rfl, h0, r0⟩ := trodAll_cons hA
  obtain ⟨v1, vs1, d1, ds1, p1, q1, rfl, rfl, rfl, h1, r1⟩ := trodAll_cons r0
  obtain ⟨rfl, rfl, rfl⟩ := trodAll_nil r1
  obtain rfl : args = #[v0, v1] := by cases args; simp_all
  obtain ⟨A, rs, ca, rfl, h1', h2', hE⟩ := open_calls (hval 0 _ v0 rfl rfl) h0
  obtain ⟨n, rfl, rfl, rfl, wn⟩ := open_int Try.underlying3 (hval 1 _ v1 rfl rfl) h1
  exact walk A ca rs n W hE (by omega)

set_option maxRecDepth 100000 in
theorem over : Rows.ringDropRow.holds Try.pinned (OpenSpec.ofChange Rows.ringDropSpec) :=
  OpenClaim.holds_of_wide 5 Try.f5 rfl rfl rfl rfl rfl rfl rfl ⟨rfl, rfl, rfl, rfl, rfl⟩ rfl rfl rfl rfl rfl (by kernel_rfl) Try.func5 (by kernel_rfl)
    (of_decide_eq_true (by kernel_rfl)) (by unfold Func.isWrapper; first | (rw [if_pos (by decide +kernel)]; kernel_rfl) | (rw [if_neg (by decide +kernel)]; exact ⟨rfl, rfl⟩))
    (fun os started H enc _ => law_lifted (f := 5) (F := Try.f5) (s := Rows.ringDropSpec) os started H enc (by kernel_rfl) Try.func5 rfl rfl (by kernel_rfl) (by kernel_rfl)
      (fun ds hd => by match ds, hd with | [_, _], _ => rfl)
      (ChangeSpec.witness6 (enc := enc) (C := Try.checked) false ⟨#[], #[.slice none 0 0, .int .i64 0], []⟩ 8 (by kernel_rfl) (by kernel_rfl) (by kernel_rfl) (by kernel_rfl))
      (fun W base args ds ps hv hA hlt hsz => from_args W base args ds ps hv hA hlt hsz))

/-- The statement. -/
theorem proved : Rows.RingDropSaid := over

end ringDrop
end Go.Proofs.Ytljfblnpgeconaa
