/-
  Walks of ref42: Valid, Equal; of ref43: Again.
  Conditions: the slices can be read.
-/
import Derived.Test.YtfichoekjjcjiaaStR3
import Derived.Test.YtfichoekjjcjiaaStRC
import Derived.Test.YtfichoekjjcjiaaStW8
namespace Go.Proofs.Ytfichoekjjcjiaa
open Go.RowKit
namespace Ref

set_option maxRecDepth 100000 in
set_option maxHeartbeats 2000000 in
theorem pvalid_any (A : Option Addr) (c : Nat) (p : Pk) (w : World) : Calls Try.prog 37 #[.agg (pcells A c p).toArray] w fun e' w' => e' = .returned (.bool (decide (VP p))) ∧ Only Nil w w' := by
  obtain ⟨r, hr⟩ : ∃ r, decide (VP p) = r := ⟨_, rfl⟩
  rw [hr]
  have hy : VP p → r = true := fun h => by rw [← hr, decide_eq_true h]
  have hn : ¬ VP p → r = false := fun h => by rw [← hr, decide_eq_false h]
  have HY := Lib.hid hy
  have HN := Lib.hid hn
  clear hy hn hr
  obtain ⟨pair, side, seq, ack, fin, data⟩ := p
  unfold pcells
  dsimp only
  by_cases c1 : 1 ≤ pair
  rotate_left
  · skip
    have d1 : ¬ ((1 : Int) ≤ pair) := by omega
    have C1 := Lib.hid c1
    clear c1
    go_enter Try.func37, Try.ntmps37
    go_wp2_with fail
    go_ret
    exact ⟨by rw [HN.out (fun h => by have h1 := C1.out; have h2 := h.1.1; dsimp only at h2; omega)]; rfl, (Only.refl _ _).alloc _⟩
  have d1 : (1 : Int) ≤ pair := by omega
  by_cases c2 : pair ≤ 1099511627776
  rotate_left
  · skip
    have d2 : ¬ (pair ≤ 1099511627776) := by omega
    have C2 := Lib.hid c2
    clear c2
    go_enter Try.func37, Try.ntmps37
    go_wp2_with fail
    go_ret
    exact ⟨by rw [HN.out (fun h => by have h1 := C2.out; have h2 := h.1.2; dsimp only at h2; omega)]; rfl, (Only.refl _ _).alloc _⟩
  have d2 : pair ≤ 1099511627776 := by omega
  have hside : side = 0 ∨ side = 1 ∨ ((side == 0) = false ∧ (side == 1) = false ∧ ¬ (side = 0 ∨ side = 1)) := by
    by_cases e0 : side = 0
    · exact .inl e0
    · by_cases e1 : side = 1
      · exact .inr (.inl e1)
      · exact .inr (.inr ⟨beq_false_of_ne e0, beq_false_of_ne e1, fun h => by rcases h with h | h; exact e0 h; exact e1 h⟩)
  rcases hside with rfl | rfl | ⟨e0, e1, e2⟩
  rotate_right
  · have C1 := Lib.hid c1
    have C2 := Lib.hid c2
    have E2 := Lib.hid e2
    clear c1 c2 e2
    go_enter Try.func37, Try.ntmps37
    go_wp2_with fail
    go_ret
    exact ⟨by rw [HN.out (fun h => E2.out h.2.1)]; rfl, (Only.refl _ _).alloc _⟩
  all_goals
    by_cases c3 : 0 ≤ seq
    rotate_left
    · skip
      have d3 : ¬ ((0 : Int) ≤ seq) := by omega
      have C3 := Lib.hid c3
      clear c3
      go_enter Try.func37, Try.ntmps37
      go_wp2_with fail
      go_ret
      exact ⟨by rw [HN.out (fun h => by have h1 := C3.out; have h2 := h.2.2.1.1; dsimp only at h2; omega)]; rfl, (Only.refl _ _).alloc _⟩
    have d3 : (0 : Int) ≤ seq := by omega
    by_cases c4 : seq ≤ 1099511627776
    rotate_left
    · skip
      have d4 : ¬ (seq ≤ 1099511627776) := by omega
      have C4 := Lib.hid c4
      clear c4
      go_enter Try.func37, Try.ntmps37
      go_wp2_with fail
      go_ret
      exact ⟨by rw [HN.out (fun h => by have h1 := C4.out; have h2 := h.2.2.1.2; dsimp only at h2; omega)]; rfl, (Only.refl _ _).alloc _⟩
    have d4 : seq ≤ 1099511627776 := by omega
    by_cases c5 : 0 ≤ ack
    rotate_left
    · skip
      have d5 : ¬ ((0 : Int) ≤ ack) := by omega
      have C5 := Lib.hid c5
      clear c5
      go_enter Try.func37, Try.ntmps37
      go_wp2_with fail
      go_ret
      exact ⟨by rw [HN.out (fun h => by have h1 := C5.out; have h2 := h.2.2.2.1.1; dsimp only at h2; omega)]; rfl, (Only.refl _ _).alloc _⟩
    have d5 : (0 : Int) ≤ ack := by omega
    by_cases c6 : ack ≤ 1099511627776
    rotate_left
    · skip
      have d6 : ¬ (ack ≤ 1099511627776) := by omega
      have C6 := Lib.hid c6
      clear c6
      go_enter Try.func37, Try.ntmps37
      go_wp2_with fail
      go_ret
      exact ⟨by rw [HN.out (fun h => by have h1 := C6.out; have h2 := h.2.2.2.1.2; dsimp only at h2; omega)]; rfl, (Only.refl _ _).alloc _⟩
    have d6 : ack ≤ 1099511627776 := by omega
    by_cases c7 : data.length ≤ 64
    rotate_left
    · skip
      have d7 : ¬ ((data.length : Int) ≤ 64) := by omega
      have C7 := Lib.hid c7
      clear c7
      go_enter Try.func37, Try.ntmps37
      go_wp2_with fail
      go_ret
      exact ⟨by rw [HN.out (fun h => by have h1 := C7.out; have h2 := h.2.2.2.2; dsimp only at h2; omega)]; rfl, (Only.refl _ _).alloc _⟩
    have d7 : (data.length : Int) ≤ 64 := by omega
    have C1 := Lib.hid c1
    have C2 := Lib.hid c2
    have C3 := Lib.hid c3
    have C4 := Lib.hid c4
    have C5 := Lib.hid c5
    have C6 := Lib.hid c6
    have C7 := Lib.hid c7
    clear c1 c2 c3 c4 c5 c6 c7
    go_enter Try.func37, Try.ntmps37
    go_wp2_with fail
    go_ret
    exact ⟨by rw [HY.out ⟨⟨C1.out, C2.out⟩, by first | exact .inl rfl | exact .inr rfl, ⟨C3.out, C4.out⟩, ⟨C5.out, C6.out⟩, C7.out⟩]; rfl, (Only.refl _ _).alloc _⟩

def PEqP (a b : Pk) (w : World) (x : Ending) (w' : World) : Prop := ∃ r : Bool, x = .returned (.bool r) ∧ (r = true ↔ a = b) ∧ Only Nil w w'
theorem PEqP.no {a b : Pk} {w w' : World} {r : Bool} {x : Ending} {T : Type} {u v : T} (h : u ≠ v) (f : Pk → T) (hu : f a = u) (hv : f b = v) (hO : Only Nil w w') (hr : r = false) (hx : x = .returned (.bool r) := by rfl) : PEqP a b w x w' :=
  ⟨r, hx, ⟨fun h1 => (by rw [hr] at h1; cases h1), fun h1 => absurd (by rw [← hu, ← hv, h1]) h⟩, hO⟩

set_option maxRecDepth 100000 in
set_option maxHeartbeats 2000000 in
theorem pequal_any (Aa Ab : Option Addr) (ca cb : Nat) (a b : Pk) (w : World) (ha : PB w w.heap.size Aa ca a) (hb : PB w w.heap.size Ab cb b) :
    Calls Try.prog 16 #[.agg (pcells Aa ca a).toArray, .agg (pcells Ab cb b).toArray] w (PEqP a b w) := by
  obtain ⟨w2, hw2⟩ : ∃ w2, w2 = (w.alloc (.cells (pcells Aa ca a).toArray 26)).alloc (.cells (pcells Ab cb b).toArray 26) := ⟨_, rfl⟩
  have hO2 : Only Nil w w2 := by rw [hw2]; exact ((Only.refl _ _).alloc _).alloc _
  have s1 := run_str (P := Try.prog) w2 22 9 5 Try.underlying22 Try.underlying5 Try.underlying9 (c := ca) (ha.data.onlyNil hO2 (Nat.le_refl _)) rfl
  have s2 := run_str (P := Try.prog) w2 22 9 5 Try.underlying22 Try.underlying5 Try.underlying9 (c := cb) (hb.data.onlyNil hO2 (Nat.le_refl _)) rfl
  obtain ⟨pair, side, seq, ack, fin, data⟩ := a
  obtain ⟨pair', side', seq', ack', fin', data'⟩ := b
  unfold pcells at hw2 ⊢
  dsimp only at hw2 s1 s2 ⊢
  rw [hw2] at s1 s2
  clear hw2 hO2 ha hb
  by_cases h1 : pair = pair'
  rotate_left
  · go_enter Try.func16, Try.ntmps16
    have H1 := Lib.hid h1
    go_wp2_with fail
    all_goals
      go_ret
      exact PEqP.no H1.out Pk.pair rfl rfl (((Only.refl _ _).alloc _).alloc _) (by first | rfl | (simpa using H1.out))
  subst h1
  by_cases h1 : side = side'
  rotate_left
  · go_enter Try.func16, Try.ntmps16
    have H1 := Lib.hid h1
    go_wp2_with fail
    all_goals
      go_ret
      exact PEqP.no H1.out Pk.side rfl rfl (((Only.refl _ _).alloc _).alloc _) (by first | rfl | (simpa using H1.out))
  subst h1
  by_cases h1 : seq = seq'
  rotate_left
  · go_enter Try.func16, Try.ntmps16
    have H1 := Lib.hid h1
    go_wp2_with fail
    all_goals
      go_ret
      exact PEqP.no H1.out Pk.seq rfl rfl (((Only.refl _ _).alloc _).alloc _) (by first | rfl | (simpa using H1.out))
  subst h1
  by_cases h1 : ack = ack'
  rotate_left
  · go_enter Try.func16, Try.ntmps16
    have H1 := Lib.hid h1
    go_wp2_with fail
    all_goals
      go_ret
      exact PEqP.no H1.out Pk.ack rfl rfl (((Only.refl _ _).alloc _).alloc _) (by first | rfl | (simpa using H1.out))
  subst h1
  by_cases h1 : fin = fin'
  rotate_left
  · go_enter Try.func16, Try.ntmps16
    have H1 := Lib.hid h1
    go_wp2_with fail
    all_goals
      go_ret
      exact PEqP.no H1.out Pk.fin rfl rfl (((Only.refl _ _).alloc _).alloc _) (by first | rfl | (simpa using H1.out))
  subst h1
  go_enter Try.func16, Try.ntmps16
  go_wp2_with fail
  go_ret
  refine ⟨_, rfl, ?_, ((Only.refl _ _).alloc _).alloc _⟩
  simp

set_option maxRecDepth 100000 in
set_option maxHeartbeats 4000000 in
theorem again_any (l : Loc) (e : E) (w : World) (h : EB w w.heap.size l e) (ho : e.out.length ≤ 1099511627776) (hi : e.inn.length ≤ 1099511627776) :
    Calls Try.prog 19 #[.agg (ecells l e).toArray] w (APost (againE e) w) := by
  obtain ⟨out, base, closed, done, inn, next, ended, due⟩ := e
  have hbx := Boxes.mk2 w l ⟨out, base, closed, done, inn, next, ended, due⟩
  obtain ⟨w2, hw2⟩ : ∃ w2, w2 = (w.alloc (.cells (ecells l ⟨out, base, closed, done, inn, next, ended, due⟩).toArray 24)).alloc (.cells (ecells nowhere zE).toArray 24) := ⟨_, rfl⟩
  rw [← hw2] at hbx
  have hC := copied_any l ⟨out, base, closed, done, inn, next, ended, due⟩ w2 (h.next hbx.only) ho hi
  have HX := Lib.hid hbx
  have HB := Lib.hid h
  clear hbx h
  unfold ecells at hw2 hC ⊢
  unfold nowhere zE at hw2
  dsimp only [List.length_nil] at hw2 hC ⊢
  have HC := Lib.hid hC
  clear hC ho hi
  obtain ⟨P, hP⟩ : ∃ P, (decide (0 < out.length) || (closed && !done)) = P := ⟨_, rfl⟩
  obtain ⟨D, hD⟩ : ∃ D, D = (due || P) := ⟨_, rfl⟩
  have hr : againE ⟨out, base, closed, done, inn, next, ended, due⟩ = ⟨out, base, closed, done, inn, next, ended, D⟩ := by unfold againE pend; rw [hP, hD]
  rw [hr]
  have HD := Lib.hid hD
  clear hD
  have HP := Lib.hid hP
  clear hP hr
  go_enter Try.func19, Try.ntmps19
  go_upto_region 1 with fail
  rw [← hw2]
  have HW2 := Lib.hid hw2
  clear hw2
  have k0 := HX.out.onlyNil (Only.refl _ w2)
  dsimp only at k0
  go_cut [15] (fun v wd => v = .bool P ∧ wd = w2)
  case first =>
    by_cases hz : out.length = 0
    · obtain rfl : out = [] := List.eq_nil_of_length_eq_zero hz
      cases closed <;> cases done
      all_goals
        have HPP := Lib.hid HP.out.symm
        go_wp2_with fail
        go_meet
        case rel => exact ⟨by rw [HPP.out]; rfl, rfl⟩
    · have hz' : 0 < out.length := by omega
      have hz1 : decide (0 < out.length) = true := decide_eq_true hz'
      have hPt : P = true := by rw [← HP.out, decide_eq_true (by omega : 0 < out.length)]; rfl
      have HPT := Lib.hid hPt
      clear hPt hz
      go_wp2_with fail
      go_meet
      case rel => exact ⟨by rw [HPT.out], rfl⟩
  case rest =>
    obtain ⟨rfl, rfl⟩ := hcut
    have f0 := HX.out.fr0 (Only.refl _ wc)
    have f1 := HX.out.fr1 (Only.refl _ wc)
    have k1 := HX.out.res (Only.refl _ wc)
    cases P
    · have hDD : D = due := by rw [HD.out, Bool.or_false]
      have HDD := Lib.hid hDD
      clear hDD
      go_wp2_with fail
      refine bodyPost_ret (v := .agg #[.slice l.Ao out.length l.co, .int .i64 base, .bool closed, .bool done, .slice l.Ai inn.length l.ci, .int .i64 next, .bool ended, .bool due]) (by simp [results, Try.results19, go_sem, k1]) rfl ?_
      have hfin : ∀ w', Only (fun x => x = w.heap.size + 1) wc w' → APost ⟨out, base, closed, done, inn, next, ended, D⟩ w (.returned (.agg #[.slice l.Ao out.length l.co, .int .i64 base, .bool closed, .bool done, .slice l.Ai inn.length l.ci, .int .i64 next, .bool ended, .bool due])) w' := fun w' hO => by
        rw [HDD.out]
        have hO' : Only Nil w w' := HX.out.only.trans hO (fun x hx => .inr (by omega))
        exact ⟨l, rfl, HB.out.next hO', hO'⟩
      refine hfin _ ?_
      (repeat' (first | with_reducible exact Only.refl _ _ | with_reducible refine Only.setCell ?_ (Or.inl ?_) _ | with_reducible refine Only.drewN ?_ _ | with_reducible refine Only.drew ?_ | with_reducible refine Only.alloc ?_ _ | (exact rfl)))
    · have hDD : D = true := by rw [HD.out, Bool.or_true]
      have HDD := Lib.hid hDD
      clear hDD
      clear k1 f1
      go_upto_region 2 with fail
      go_cut [] (fun wd => ∃ l3 : Loc, CMid l3 ⟨out, base, closed, done, inn, next, ended, due⟩ w wd ∧ Blk wd (w.heap.size + 1) 24 (ecells nowhere zE).toArray)
      case first =>
        go_wp2_with fail
        refine HC.out.mono ?_
        rintro x w3 ⟨l3, rfl, hco, hci, hown1, hown2, hsep, hO3⟩
        have k03 := HX.out.onlyNil hO3
        have f03 := HX.out.fr0 hO3
        dsimp only at k03
        have hR := And.intro (CMid.of_store (e := ⟨out, base, closed, done, inn, next, ended, due⟩) HX.out.only HX.out.b0 rfl hco hci hown1 hown2 hO3) (CMid.far (w := w) (HX.out.b1.onlyNil hO3) (by omega) (.slice l3.Ao out.length l3.co) (.int .i64 base) (.bool closed) (.bool done) (.slice l3.Ai inn.length l3.ci) (.int .i64 next) (.bool ended) (.bool due))
        have HR := Lib.hid hR
        clear hR hown1 hown2 hsep hO3 hco hci
        go_wp2_with fail
        go_meet
        case rel => exact ⟨l3, HR.out⟩
      case rest =>
        obtain ⟨l3, hM, hb1⟩ := hcut
        have k5 : ∀ i, wc.cell? ⟨w.heap.size, i, none⟩ = #[Value.slice l3.Ao out.length l3.co, .int .i64 base, .bool closed, .bool done, .slice l3.Ai inn.length l3.ci, .int .i64 next, .bool ended, .bool due][i]? := fun i => hM.b0.cell i
        have f5 : ∀ i, wc.frozen? ⟨w.heap.size, i, none⟩ = false := fun i => hM.b0.frozen i
        have k6 : ∀ i, wc.cell? ⟨w.heap.size + 1, i, none⟩ = #[Value.slice none 0 0, .int .i64 0, .bool false, .bool false, .slice none 0 0, .int .i64 0, .bool false, .bool false][i]? := fun i => hb1.cell i
        have f6 : ∀ i, wc.frozen? ⟨w.heap.size + 1, i, none⟩ = false := fun i => hb1.frozen i
        have hfin : ∀ w', Only (fun x => x = w.heap.size ∨ x = w.heap.size + 1) wc w' → APost ⟨out, base, closed, done, inn, next, ended, D⟩ w (.returned (.agg #[.slice l3.Ao out.length l3.co, .int .i64 base, .bool closed, .bool done, .slice l3.Ai inn.length l3.ci, .int .i64 next, .bool ended, .bool true])) w' := fun w' hO => by
          rw [HDD.out]
          obtain ⟨h1, h2, h3⟩ := hM.fin hO (fun x hx => by
            rcases hx with rfl | rfl
            · exact ⟨Nat.le_refl _, _, _, hM.b0, by decide⟩
            · exact ⟨by omega, _, _, hb1, by decide⟩)
          exact ⟨l3, rfl, ⟨h1, h2, hM.co, hM.ci⟩, h3⟩
        have HFIN := Lib.hid hfin
        clear hfin hM hb1
        go_wp2_with fail
        refine bodyPost_ret (v := .agg #[.slice l3.Ao out.length l3.co, .int .i64 base, .bool closed, .bool done, .slice l3.Ai inn.length l3.ci, .int .i64 next, .bool ended, .bool true]) (by simp [results, Try.results19, go_sem, k6]) rfl ?_
        refine HFIN.out _ ?_
        (repeat' (first | with_reducible exact Only.refl _ _ | with_reducible refine Only.setCell ?_ (Or.inl ?_) _ | with_reducible refine Only.drewN ?_ _ | with_reducible refine Only.drew ?_ | with_reducible refine Only.alloc ?_ _ | (first | exact .inl rfl | exact .inr rfl)))

end Ref
end Go.Proofs.Ytfichoekjjcjiaa
