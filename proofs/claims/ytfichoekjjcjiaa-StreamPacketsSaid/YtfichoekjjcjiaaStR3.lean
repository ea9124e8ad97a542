/-
  Walks of ref43: Write, Close.
  Conditions: the slices can be read.
-/
import Derived.Test.YtfichoekjjcjiaaStR2
import Derived.Test.YtfichoekjjcjiaaStRC
import Derived.Test.YtfichoekjjcjiaaStW9
namespace Go.Proofs.Ytfichoekjjcjiaa
open Go.RowKit
namespace Ref

/-- The blocks of an end given by value: its own box, and the result's. -/
structure Boxes (w w2 : World) (l : Loc) (e : E) : Prop where
  only : Only Nil w w2
  size : w2.heap.size = w.heap.size + 2
  b0 : Blk w2 w.heap.size 24 (ecells l e).toArray
  b1 : Blk w2 (w.heap.size + 1) 24 (ecells nowhere zE).toArray
theorem Boxes.mk2 (w : World) (l : Loc) (e : E) : Boxes w ((w.alloc (.cells (ecells l e).toArray 24)).alloc (.cells (ecells nowhere zE).toArray 24)) l e :=
  ⟨((Only.refl _ _).alloc _).alloc _, by simp, (Blk.new w _ _).alloc _, by simpa using Blk.new (w.alloc (.cells (ecells l e).toArray 24)) 24 (ecells nowhere zE).toArray⟩
section
variable {w w2 w' : World} {l : Loc} {e : E}
theorem Boxes.onlyNil (h : Boxes w w2 l e) (hO : Only Nil w2 w') (i : Nat) : w'.cell? ⟨w.heap.size, i, none⟩ = #[Value.slice l.Ao e.out.length l.co, .int .i64 e.base, .bool e.closed, .bool e.done, .slice l.Ai e.inn.length l.ci, .int .i64 e.next, .bool e.ended, .bool e.due][i]? := (h.b0.onlyNil hO).cell i
theorem Boxes.res (h : Boxes w w2 l e) (hO : Only Nil w2 w') (i : Nat) : w'.cell? ⟨w.heap.size + 1, i, none⟩ = #[Value.slice none 0 0, .int .i64 0, .bool false, .bool false, .slice none 0 0, .int .i64 0, .bool false, .bool false][i]? := (h.b1.onlyNil hO).cell i
theorem Boxes.fr0 (h : Boxes w w2 l e) (hO : Only Nil w2 w') (i : Nat) : w'.frozen? ⟨w.heap.size, i, none⟩ = false := (h.b0.onlyNil hO).frozen i
theorem Boxes.fr1 (h : Boxes w w2 l e) (hO : Only Nil w2 w') (i : Nat) : w'.frozen? ⟨w.heap.size + 1, i, none⟩ = false := (h.b1.onlyNil hO).frozen i
end

set_option maxRecDepth 100000 in
set_option maxHeartbeats 1000000 in
theorem write_any (l : Loc) (e : E) (A : Option Addr) (c : Nat) (d : List UInt8) (w : World) (h : EB w w.heap.size l e) (hd : Bs w w.heap.size A d) (hdl : d.length ≤ 1099511627776) :
    Calls Try.prog 22 #[.agg (ecells l e).toArray, .slice A d.length c] w (EPost (writeE e d) w) := by
  obtain ⟨i0, hi0, hz0, hz1, hz2⟩ := info_parts byte_info
  obtain ⟨out, base, closed, done, inn, next, ended, due⟩ := e
  have hbx := Boxes.mk2 w l ⟨out, base, closed, done, inn, next, ended, due⟩
  obtain ⟨w2, hw2⟩ : ∃ w2, w2 = (w.alloc (.cells (ecells l ⟨out, base, closed, done, inn, next, ended, due⟩).toArray 24)).alloc (.cells (ecells nowhere zE).toArray 24) := ⟨_, rfl⟩
  rw [← hw2] at hbx
  have HX := Lib.hid hbx
  have HB := Lib.hid h
  have HD := Lib.hid hd
  have HW2 := Lib.hid hw2
  clear hbx h hd
  have hV := valid_any l ⟨out, base, closed, done, inn, next, ended, due⟩
  have hC := copied_any l ⟨out, base, closed, done, inn, next, ended, due⟩
  unfold ecells at hw2 hV hC ⊢
  unfold nowhere zE at hw2
  dsimp only at hw2 hV hC
  by_cases hv : VE ⟨out, base, closed, done, inn, next, ended, due⟩
  rotate_left
  · have hr : writeE ⟨out, base, closed, done, inn, next, ended, due⟩ d = (zE, 1) := by unfold writeE; rw [if_pos hv]
    rw [hr]
    rw [decide_eq_false hv] at hV
    have HV := Lib.hid hV
    clear hV hC hr
    go_enter Try.func22, Try.ntmps22
    go_wp2_with fail
    refine (HV.out _).mono ?_
    rintro x w1 ⟨rfl, hO1⟩
    have k1 := HX.out.res (by rw [hw2]; exact hO1)
    have f1 := HX.out.fr1 (by rw [hw2]; exact hO1)
    go_wp2_with fail
    refine bodyPost_ret (v := .tuple #[.agg #[.slice none 0 0, .int .i64 0, .bool false, .bool false, .slice none 0 0, .int .i64 0, .bool false, .bool false], .int .i64 1]) (by simp [results, Try.results22, go_sem, k1]) rfl ?_
    refine EPost.err 1 (HX.out.only.thenNil (by rw [hw2]; exact hO1)) fun S s0 => ?_
    (repeat' (first | with_reducible exact Only.refl _ _ | with_reducible refine Only.setCell ?_ (Or.inl ?_) _ | with_reducible refine Only.drewN ?_ _ | with_reducible refine Only.drew ?_ | with_reducible refine Only.alloc ?_ _ | (exact s0 _ (by simp) (by simp))))
  rw [decide_eq_true hv] at hV
  have HV := Lib.hid hV
  clear hV
  cases closed
  rotate_left
  · have hr : writeE ⟨out, base, true, done, inn, next, ended, due⟩ d = (zE, 7) := by unfold writeE; rw [if_neg (by simpa using hv), if_pos rfl]
    rw [hr]
    clear hC hr
    go_enter Try.func22, Try.ntmps22
    go_wp2_with fail
    refine (HV.out _).mono ?_
    rintro x w1 ⟨rfl, hO1⟩
    have k0 := HX.out.onlyNil (by rw [hw2]; exact hO1)
    have k1 := HX.out.res (by rw [hw2]; exact hO1)
    have f1 := HX.out.fr1 (by rw [hw2]; exact hO1)
    dsimp only at k0
    go_wp2_with fail
    refine bodyPost_ret (v := .tuple #[.agg #[.slice none 0 0, .int .i64 0, .bool false, .bool false, .slice none 0 0, .int .i64 0, .bool false, .bool false], .int .i64 7]) (by simp [results, Try.results22, go_sem, k1]) rfl ?_
    refine EPost.err 7 (HX.out.only.thenNil (by rw [hw2]; exact hO1)) fun S s0 => ?_
    (repeat' (first | with_reducible exact Only.refl _ _ | with_reducible refine Only.setCell ?_ (Or.inl ?_) _ | with_reducible refine Only.drewN ?_ _ | with_reducible refine Only.drew ?_ | with_reducible refine Only.alloc ?_ _ | (exact s0 _ (by simp) (by simp))))
  have ho128 := hv.1
  have hi128 := hv.2.1
  dsimp only at ho128 hi128
  have hwr : IntKind.i64.wrap ((out.length : Int) + d.length) = (out.length : Int) + d.length := IntWalk.i64_in _ (by omega)
  by_cases hsp : 128 < out.length + d.length
  · have hr : writeE ⟨out, base, false, done, inn, next, ended, due⟩ d = (zE, 13) := by unfold writeE; rw [if_neg (by simpa using hv), if_neg (by simp), if_pos hsp]
    have hd1 : decide ((128 : Int) < (out.length : Int) + d.length) = true := by rw [decide_eq_true_eq]; omega
    rw [hr]
    clear hC hr
    go_enter Try.func22, Try.ntmps22
    go_wp2_with fail
    refine (HV.out _).mono ?_
    rintro x w1 ⟨rfl, hO1⟩
    have k0 := HX.out.onlyNil (by rw [hw2]; exact hO1)
    have k1 := HX.out.res (by rw [hw2]; exact hO1)
    have f1 := HX.out.fr1 (by rw [hw2]; exact hO1)
    dsimp only at k0
    go_wp2_with fail
    refine bodyPost_ret (v := .tuple #[.agg #[.slice none 0 0, .int .i64 0, .bool false, .bool false, .slice none 0 0, .int .i64 0, .bool false, .bool false], .int .i64 13]) (by simp [results, Try.results22, go_sem, k1]) rfl ?_
    refine EPost.err 13 (HX.out.only.thenNil (by rw [hw2]; exact hO1)) fun S s0 => ?_
    (repeat' (first | with_reducible exact Only.refl _ _ | with_reducible refine Only.setCell ?_ (Or.inl ?_) _ | with_reducible refine Only.drewN ?_ _ | with_reducible refine Only.drew ?_ | with_reducible refine Only.alloc ?_ _ | (exact s0 _ (by simp) (by simp))))
  · have hd1 : decide ((128 : Int) < (out.length : Int) + d.length) = false := by rw [decide_eq_false_iff_not]; omega
    have hC1 := fun w' hE => hC w' hE (by omega) (by omega)
    have HC := Lib.hid hC1
    clear hC hC1
    go_enter Try.func22, Try.ntmps22
    go_wp2_with fail
    refine (HV.out _).mono ?_
    rintro x w1 ⟨rfl, hO1⟩
    have k0 := HX.out.onlyNil (by rw [hw2]; exact hO1)
    dsimp only at k0
    have hOw1 : Only Nil w w1 := HX.out.only.thenNil (by rw [hw2]; exact hO1)
    go_wp2_with fail
    refine (HC.out _ (HB.out.next hOw1)).mono ?_
    rintro x w3 ⟨l3, rfl, hco3, hci3, ho3, hi3, hne3, hO3⟩
    have hO13 : Only Nil w2 w3 := (by rw [hw2]; exact hO1 : Only Nil w2 w1).thenNil hO3
    have j0 := HX.out.onlyNil hO13
    have j1 := HX.out.res hO13
    have g0 := HX.out.fr0 hO13
    have g1 := HX.out.fr1 hO13
    dsimp only at j0
    have HO3 := Lib.hid hO3
    have HI3 := Lib.hid hi3
    have HU3 := Lib.hid ho3
    have HN3 := Lib.hid hne3
    have HO1 := Lib.hid hOw1
    have hs1 : w.heap.size + 2 ≤ w1.heap.size := by rw [← HX.out.size, hw2]; exact hO1.size
    have HO1S := Lib.hid hs1
    have HB03 := Lib.hid (HX.out.b0.onlyNil hO13)
    have HB13 := Lib.hid (HX.out.b1.onlyNil hO13)
    clear hs1 hO13 hO3 hi3 ho3 hne3 hO1 hOw1 k0
    obtain ⟨o6, ho6⟩ : ∃ o6, o6 = out ++ d := ⟨_, rfl⟩
    have hNN : out.length + d.length = o6.length := by rw [ho6, List.length_append]
    have hy6 : bcells out ++ bcells d = bcells o6 := by rw [ho6, bcells_append]
    have how : ∀ w', Only (One w.heap.size) w3 w' → w'.ownsRow w.heap.size 5 1 (.slice l3.Ao out.length l3.co) out.length (bcells out) := fun w' hO =>
      own_base (own_only HU3.out hO (fun q hq hx => by have := ownBlock_ge HU3.out hq; have := HO1S.out; unfold One at hx; omega)) HO1.out.size
    have hrw : ∀ w', Only (One w.heap.size) w3 w' → Rd w' w.heap.size 1 A d.length (bcells d) := fun w' hO =>
      Rd.only (Rd.onlyNil HD.out (HO1.out.thenNil HO3.out) (Nat.le_refl _)) hO (HO1.out.thenNil HO3.out).size (fun x hx => by unfold One at hx; omega)
    have HOW := Lib.hid how
    have HRW := Lib.hid hrw
    have HNN := Lib.hid hNN
    have HY6 := Lib.hid hy6
    have H6 := Lib.hid ho6
    clear how hrw hNN hy6 ho6
    go_wp2_with (at_builtin; go_must (refine wpList_append_rd _ rfl (.tmp 27) (.tmp 28) _ rfl w.heap.size 5 i0 (.int .u8 0) 1 1 Try.underlying22 hi0 hz0 hz1 hz2 rfl (by omega) (.slice l3.Ao out.length l3.co) out.length (bcells out) rfl ?qown w.heap.size A d.length c (bcells d) rfl ?qrd (bcells_one d) o6.length HNN.out (bcells o6) HY6.out ?q63 ?qby ?qbase ?_))
    case qown => exact HOW.out _ (by (repeat' (first | with_reducible exact Only.refl _ _ | with_reducible refine Only.setCell ?_ (Or.inl ?_) _ | with_reducible refine Only.drewN ?_ _ | with_reducible refine Only.drew ?_ | with_reducible refine Only.alloc ?_ _ | (exact rfl))))
    case qrd => exact HRW.out _ (by (repeat' (first | with_reducible exact Only.refl _ _ | with_reducible refine Only.setCell ?_ (Or.inl ?_) _ | with_reducible refine Only.drewN ?_ _ | with_reducible refine Only.drew ?_ | with_reducible refine Only.alloc ?_ _ | (exact rfl))))
    case q63 => unfold maxLen; omega
    case qby => omega
    case qbase => have := (HO1.out.thenNil HO3.out).size; simp; omega
    intro A4 c4 w5 hc4 hown4 hgr4 hat4
    have hb0 := (Blk.all8 HB03.out rfl _ _ _ _ _ _ _ _).grown hgr4 (fun e => own_blk_ne HU3.out HB03.out (by decide) e.symm)
    have hb1 := (Blk.only HB13.out (S := One w.heap.size) (by (repeat' (first | with_reducible exact Only.refl _ _ | with_reducible refine Only.setCell ?_ (Or.inl ?_) _ | with_reducible refine Only.drewN ?_ _ | with_reducible refine Only.drew ?_ | with_reducible refine Only.alloc ?_ _ | (exact rfl)))) (by unfold One; omega)).grown hgr4 (fun e => own_blk_ne HU3.out HB13.out (by decide) e.symm)
    have k0 := fun i => hb0.cell i
    have k1 : ∀ i, w5.cell? ⟨w.heap.size + 1, i, none⟩ = #[Value.slice none 0 0, .int .i64 0, .bool false, .bool false, .slice none 0 0, .int .i64 0, .bool false, .bool false][i]? := fun i => hb1.cell i
    have f0 := fun i => hb0.frozen i
    have f1 := fun i => hb1.frozen i
    have hE : ∀ (due' : Bool) (w' : World), due' = (due || decide (0 < d.length)) → (∀ S : Nat → Prop, (∀ x, w.heap.size ≤ x → x < w.heap.size + 2 → S x) → Only S w5 w') →
        EPost (writeE ⟨out, base, false, done, inn, next, ended, due⟩ d) w (.returned (.tuple #[.agg #[.slice A4 o6.length c4, .int .i64 base, .bool false, .bool done, .slice l3.Ai inn.length l3.ci, .int .i64 next, .bool ended, .bool due'], .int .i64 0])) w' := by
      intro due' w' hdue hO
      have hr : writeE ⟨out, base, false, done, inn, next, ended, due⟩ d = (⟨o6, base, false, done, inn, next, ended, due'⟩, 0) := by
        unfold writeE
        rw [if_neg (by simpa using hv), if_neg (by simp), if_neg hsp, H6.out, hdue]
      rw [hr]
      have hOx := hO (fun x => w.heap.size ≤ x ∧ x < w.heap.size + 2) (fun x h1 h2 => ⟨h1, h2⟩)
      have hge : ∀ q, (Value.slice A4 o6.length c4).ownBlock = some q → w.heap.size + 2 ≤ q := fun q hq => by
        have h3s := HO3.out.size
        rcases hat4 with h1 | h1
        · have := ownBlock_ge HU3.out (h1 ▸ hq); have := HO1S.out; omega
        · rw [h1] at hq; injection hq with hq; have := HO1S.out; have hq' : w3.heap.size = q := by first | exact hq | simpa using hq
          omega
      have ho' := own_only hown4 hOx (fun q hq hx => by have := hge q hq; omega)
      have hic := own_only HI3.out (w' := w5) ((Only.then_ (b := _) (S := fun x => x = w.heap.size ∨ (Value.slice l3.Ao out.length l3.co).ownBlock = some x) (by (repeat' (first | with_reducible exact Only.refl _ _ | with_reducible refine Only.setCell ?_ (Or.inl ?_) _ | with_reducible refine Only.drewN ?_ _ | with_reducible refine Only.drew ?_ | with_reducible refine Only.alloc ?_ _ | (exact .inl rfl)))) ((Only.of_grown hgr4).more (fun x hx => .inr hx)))) (fun q hq hx => by
        rcases hx with hx | hx
        · have := ownBlock_ge HI3.out hq; have := HO1S.out; omega
        · exact HN3.out q hx hq)
      have hi' := own_only hic hOx (fun q hq hx => by have := ownBlock_ge HI3.out hq; have := HO1S.out; omega)
      refine ⟨⟨A4, c4, l3.Ai, l3.ci⟩, rfl, ⟨(Bs.of_own ho').1, (Bs.of_own hi').1, hc4, hci3⟩, ?_⟩
      refine ((HO1.out.thenNil HO3.out).trans (S' := fun x => w.heap.size ≤ x) (b := w3) ?_ (fun x hx => .inr hx))
      have h1 : Only (fun x => w.heap.size ≤ x) w3 w5 := Only.then_ (by (repeat' (first | with_reducible exact Only.refl _ _ | with_reducible refine Only.setCell ?_ (Or.inl ?_) _ | with_reducible refine Only.drewN ?_ _ | with_reducible refine Only.drew ?_ | with_reducible refine Only.alloc ?_ _ | (exact Nat.le_refl _)))) ((Only.of_grown hgr4).more (fun x hx => by have := ownBlock_ge HU3.out hx; have := HO1S.out; omega))
      exact h1.then_ (hO _ (fun x h _ => h))
    have HE := Lib.hid hE
    clear hE hown4 hgr4 hat4 hb0 hb1
    cases due
    · go_wp2_with fail
      refine bodyPost_ret (v := .tuple #[.agg #[.slice A4 o6.length c4, .int .i64 base, .bool false, .bool done, .slice l3.Ai inn.length l3.ci, .int .i64 next, .bool ended, .bool (decide ((0 : Int) < d.length))], .int .i64 0]) (by simp [results, Try.results22, go_sem, k1]) rfl ?_
      refine HE.out _ _ (by simp) fun S s0 => ?_
      (repeat' (first | with_reducible exact Only.refl _ _ | with_reducible refine Only.setCell ?_ (Or.inl ?_) _ | with_reducible refine Only.drewN ?_ _ | with_reducible refine Only.drew ?_ | with_reducible refine Only.alloc ?_ _ | (exact s0 _ (by simp) (by simp))))
    · go_wp2_with fail
      refine bodyPost_ret (v := .tuple #[.agg #[.slice A4 o6.length c4, .int .i64 base, .bool false, .bool done, .slice l3.Ai inn.length l3.ci, .int .i64 next, .bool ended, .bool true], .int .i64 0]) (by simp [results, Try.results22, go_sem, k1]) rfl ?_
      refine HE.out _ _ (by simp) fun S s0 => ?_
      (repeat' (first | with_reducible exact Only.refl _ _ | with_reducible refine Only.setCell ?_ (Or.inl ?_) _ | with_reducible refine Only.drewN ?_ _ | with_reducible refine Only.drew ?_ | with_reducible refine Only.alloc ?_ _ | (exact s0 _ (by simp) (by simp))))

/-- Behind 'e = copied(e)'. -/
structure CMid (l : Loc) (e : E) (w wc : World) : Prop where
  b0 : Blk wc w.heap.size 24 #[.slice l.Ao e.out.length l.co, .int .i64 e.base, .bool e.closed, .bool e.done, .slice l.Ai e.inn.length l.ci, .int .i64 e.next, .bool e.ended, .bool e.due]
  co : e.out.length ≤ l.co
  ci : e.inn.length ≤ l.ci
  out : wc.ownsRow w.heap.size 5 1 (.slice l.Ao e.out.length l.co) e.out.length (bcells e.out)
  inn : wc.ownsRow w.heap.size 5 1 (.slice l.Ai e.inn.length l.ci) e.inn.length (bcells e.inn)
  only : Only Nil w wc

theorem CMid.of_store {l : Loc} {e : E} {w w3 w4 : World} {cs : Array Value} (hO3 : Only Nil w w3) (hb : Blk w3 w.heap.size 24 cs) (hs : cs.size = 8) (hco : e.out.length ≤ l.co) (hci : e.inn.length ≤ l.ci)
    (ho : w4.ownsRow w3.heap.size 5 1 (.slice l.Ao e.out.length l.co) e.out.length (bcells e.out)) (hi : w4.ownsRow w3.heap.size 5 1 (.slice l.Ai e.inn.length l.ci) e.inn.length (bcells e.inn)) (hO4 : Only Nil w3 w4) :
    CMid l e w ((((((((w4.setCell ⟨w.heap.size, 0, none⟩ (.slice l.Ao e.out.length l.co)).setCell ⟨w.heap.size, 1, none⟩ (.int .i64 e.base)).setCell ⟨w.heap.size, 2, none⟩ (.bool e.closed)).setCell ⟨w.heap.size, 3, none⟩ (.bool e.done)).setCell ⟨w.heap.size, 4, none⟩ (.slice l.Ai e.inn.length l.ci)).setCell ⟨w.heap.size, 5, none⟩ (.int .i64 e.next)).setCell ⟨w.heap.size, 6, none⟩ (.bool e.ended)).setCell ⟨w.heap.size, 7, none⟩ (.bool e.due)) := by
  have h4 := hb.onlyNil hO4
  refine ⟨Blk.all8 h4 hs _ _ _ _ _ _ _ _, hco, hci, ?_, ?_, ?_⟩
  · exact own_base (own_only (S := One w.heap.size) ho (by (repeat' (first | with_reducible exact Only.refl _ _ | with_reducible refine Only.setCell ?_ (Or.inl ?_) _ | with_reducible refine Only.drewN ?_ _ | with_reducible refine Only.drew ?_ | with_reducible refine Only.alloc ?_ _ | (exact rfl)))) (fun q hq hx => own_blk_ne ho h4 (by decide) (by rw [hq, hx]))) hO3.size
  · exact own_base (own_only (S := One w.heap.size) hi (by (repeat' (first | with_reducible exact Only.refl _ _ | with_reducible refine Only.setCell ?_ (Or.inl ?_) _ | with_reducible refine Only.drewN ?_ _ | with_reducible refine Only.drew ?_ | with_reducible refine Only.alloc ?_ _ | (exact rfl)))) (fun q hq hx => own_blk_ne hi h4 (by decide) (by rw [hq, hx]))) hO3.size
  · exact (hO3.thenNil hO4).trans (S' := One w.heap.size) (by (repeat' (first | with_reducible exact Only.refl _ _ | with_reducible refine Only.setCell ?_ (Or.inl ?_) _ | with_reducible refine Only.drewN ?_ _ | with_reducible refine Only.drew ?_ | with_reducible refine Only.alloc ?_ _ | (exact rfl)))) (fun x hx => .inr (Nat.le_of_eq hx.symm))
theorem CMid.far {w w4 : World} {g : Nat} {t : TypeId} {cs : Array Value} (h : Blk w4 g t cs) (hg : g ≠ w.heap.size) (v0 v1 v2 v3 v4 v5 v6 v7 : Value) :
    Blk ((((((((w4.setCell ⟨w.heap.size, 0, none⟩ v0).setCell ⟨w.heap.size, 1, none⟩ v1).setCell ⟨w.heap.size, 2, none⟩ v2).setCell ⟨w.heap.size, 3, none⟩ v3).setCell ⟨w.heap.size, 4, none⟩ v4).setCell ⟨w.heap.size, 5, none⟩ v5).setCell ⟨w.heap.size, 6, none⟩ v6).setCell ⟨w.heap.size, 7, none⟩ v7) g t cs :=
  Blk.only (S := One w.heap.size) h (by (repeat' (first | with_reducible exact Only.refl _ _ | with_reducible refine Only.setCell ?_ (Or.inl ?_) _ | with_reducible refine Only.drewN ?_ _ | with_reducible refine Only.drew ?_ | with_reducible refine Only.alloc ?_ _ | (exact rfl)))) (fun hx => hg hx)
theorem CMid.fin {l : Loc} {e : E} {w wc w' : World} {S : Nat → Prop} (h : CMid l e w wc) (hO : Only S wc w') (hS : ∀ x, S x → w.heap.size ≤ x ∧ ∃ t cs, Blk wc x t cs ∧ 5 ≠ t) :
    Bs w' w'.heap.size l.Ao e.out ∧ Bs w' w'.heap.size l.Ai e.inn ∧ Only Nil w w' := by
  have ho := own_only h.out hO (fun q hq hx => by
    obtain ⟨_, t, cs, hb, hne⟩ := hS q hx
    exact own_blk_ne h.out hb hne hq)
  have hi := own_only h.inn hO (fun q hq hx => by
    obtain ⟨_, t, cs, hb, hne⟩ := hS q hx
    exact own_blk_ne h.inn hb hne hq)
  exact ⟨(Bs.of_own ho).1, (Bs.of_own hi).1, h.only.trans hO (fun x hx => .inr (hS x hx).1)⟩

set_option maxRecDepth 100000 in
set_option maxHeartbeats 1000000 in
theorem close_any (l : Loc) (e : E) (w : World) (h : EB w w.heap.size l e) :
    Calls Try.prog 25 #[.agg (ecells l e).toArray] w (EPost (closeE e) w) := by
  obtain ⟨out, base, closed, done, inn, next, ended, due⟩ := e
  have hbx := Boxes.mk2 w l ⟨out, base, closed, done, inn, next, ended, due⟩
  obtain ⟨w2, hw2⟩ : ∃ w2, w2 = (w.alloc (.cells (ecells l ⟨out, base, closed, done, inn, next, ended, due⟩).toArray 24)).alloc (.cells (ecells nowhere zE).toArray 24) := ⟨_, rfl⟩
  rw [← hw2] at hbx
  have HX := Lib.hid hbx
  have HB := Lib.hid h
  clear hbx h
  have hV := valid_any l ⟨out, base, closed, done, inn, next, ended, due⟩
  have hC := copied_any l ⟨out, base, closed, done, inn, next, ended, due⟩
  unfold ecells at hw2 hV hC ⊢
  unfold nowhere zE at hw2
  dsimp only [List.length_nil] at hw2 hV hC ⊢
  by_cases hv : VE ⟨out, base, closed, done, inn, next, ended, due⟩
  rotate_left
  · have hr : closeE ⟨out, base, closed, done, inn, next, ended, due⟩ = (zE, 1) := by unfold closeE; rw [if_pos hv]
    rw [hr]
    rw [decide_eq_false hv] at hV
    have HV := Lib.hid hV
    clear hV hC hr
    go_enter Try.func25, Try.ntmps25
    go_wp2_with fail
    refine (HV.out _).mono ?_
    rintro x w1 ⟨rfl, hO1⟩
    have k1 := HX.out.res (by rw [hw2]; exact hO1)
    have f1 := HX.out.fr1 (by rw [hw2]; exact hO1)
    go_wp2_with fail
    refine bodyPost_ret (v := .tuple #[.agg #[.slice none 0 0, .int .i64 0, .bool false, .bool false, .slice none 0 0, .int .i64 0, .bool false, .bool false], .int .i64 1]) (by simp [results, Try.results25, go_sem, k1]) rfl ?_
    refine EPost.err 1 (HX.out.only.thenNil (by rw [hw2]; exact hO1)) fun S s0 => ?_
    (repeat' (first | with_reducible exact Only.refl _ _ | with_reducible refine Only.setCell ?_ (Or.inl ?_) _ | with_reducible refine Only.drewN ?_ _ | with_reducible refine Only.drew ?_ | with_reducible refine Only.alloc ?_ _ | (exact s0 _ (by simp) (by simp))))
  rw [decide_eq_true hv] at hV
  have HV := Lib.hid hV
  clear hV
  cases closed
  rotate_left
  · have hr : closeE ⟨out, base, true, done, inn, next, ended, due⟩ = (zE, 7) := by unfold closeE; rw [if_neg (by simpa using hv), if_pos rfl]
    rw [hr]
    clear hC hr
    go_enter Try.func25, Try.ntmps25
    go_wp2_with fail
    refine (HV.out _).mono ?_
    rintro x w1 ⟨rfl, hO1⟩
    have k0 := HX.out.onlyNil (by rw [hw2]; exact hO1)
    have k1 := HX.out.res (by rw [hw2]; exact hO1)
    have f1 := HX.out.fr1 (by rw [hw2]; exact hO1)
    dsimp only at k0
    go_wp2_with fail
    refine bodyPost_ret (v := .tuple #[.agg #[.slice none 0 0, .int .i64 0, .bool false, .bool false, .slice none 0 0, .int .i64 0, .bool false, .bool false], .int .i64 7]) (by simp [results, Try.results25, go_sem, k1]) rfl ?_
    refine EPost.err 7 (HX.out.only.thenNil (by rw [hw2]; exact hO1)) fun S s0 => ?_
    (repeat' (first | with_reducible exact Only.refl _ _ | with_reducible refine Only.setCell ?_ (Or.inl ?_) _ | with_reducible refine Only.drewN ?_ _ | with_reducible refine Only.drew ?_ | with_reducible refine Only.alloc ?_ _ | (exact s0 _ (by simp) (by simp))))
  have b1 := hv.1
  have b2 := hv.2.1
  dsimp only at b1 b2
  have hC1 := fun w' hE => hC w' hE (by omega) (by omega)
  have HC := Lib.hid hC1
  clear hC hC1
  go_enter Try.func25, Try.ntmps25
  go_wp2_with fail
  refine (HV.out _).mono ?_
  rintro x w1 ⟨rfl, hO1⟩
  have HO2 : Hid (Only Nil w2 w1) := Lib.hid (by rw [hw2]; exact hO1)
  have k0 := HX.out.onlyNil HO2.out
  dsimp only at k0
  clear hO1
  go_upto_region 5 with fail
  go_cut [] (fun wc => ∃ l3 : Loc, CMid l3 ⟨out, base, false, done, inn, next, ended, due⟩ w wc ∧ Blk wc (w.heap.size + 1) 24 (ecells nowhere zE).toArray)
  case first =>
    go_wp2_with fail
    refine (HC.out _ (HB.out.next (HX.out.only.thenNil HO2.out))).mono ?_
    rintro x w4 ⟨l3, rfl, hco3, hci3, ho3, hi3, hne3, hO4⟩
    have j0 := HX.out.onlyNil (HO2.out.thenNil hO4)
    have g0 := HX.out.fr0 (HO2.out.thenNil hO4)
    dsimp only at j0
    go_wp2_with fail
    go_meet
    case rel =>
      exact ⟨l3, CMid.of_store (HX.out.only.thenNil HO2.out) (HX.out.b0.onlyNil HO2.out) rfl hco3 hci3 ho3 hi3 hO4, CMid.far ((HX.out.b1.onlyNil HO2.out).onlyNil hO4) (by omega) _ _ _ _ _ _ _ _⟩
  case rest =>
    obtain ⟨l3, hM, hb1⟩ := hcut
    have HM := Lib.hid hM
    have HB1 := Lib.hid hb1
    have k0 : ∀ i, wc.cell? ⟨w.heap.size, i, none⟩ = #[Value.slice l3.Ao out.length l3.co, .int .i64 base, .bool false, .bool done, .slice l3.Ai inn.length l3.ci, .int .i64 next, .bool ended, .bool due][i]? := fun i => hM.b0.cell i
    have k1 : ∀ i, wc.cell? ⟨w.heap.size + 1, i, none⟩ = #[Value.slice none 0 0, .int .i64 0, .bool false, .bool false, .slice none 0 0, .int .i64 0, .bool false, .bool false][i]? := fun i => hb1.cell i
    have f0 : ∀ i, wc.frozen? ⟨w.heap.size, i, none⟩ = false := fun i => hM.b0.frozen i
    have f1 : ∀ i, wc.frozen? ⟨w.heap.size + 1, i, none⟩ = false := fun i => hb1.frozen i
    clear hM hb1
    go_wp2_with fail
    refine bodyPost_ret (v := .tuple #[.agg #[.slice l3.Ao out.length l3.co, .int .i64 base, .bool true, .bool done, .slice none 0 0, .int .i64 next, .bool ended, .bool true], .int .i64 0]) (by simp [results, Try.results25, go_sem, k1]) rfl ?_
    have hr : closeE ⟨out, base, false, done, inn, next, ended, due⟩ = (⟨out, base, true, done, [], next, ended, true⟩, 0) := by
      unfold closeE
      rw [if_neg (by simpa using hv), if_neg (by simp)]
    rw [hr]
    have hfin := fun w' hO => HM.out.fin (S := fun x => x = w.heap.size ∨ x = w.heap.size + 1) (w' := w') hO (fun x hx => by
      rcases hx with rfl | rfl
      · exact ⟨Nat.le_refl _, _, _, HM.out.b0, by decide⟩
      · exact ⟨by omega, _, _, HB1.out, by decide⟩)
    refine (fun h => ⟨⟨l3.Ao, l3.co, none, 0⟩, rfl, ⟨(hfin _ h).1, Bs.nil _ _ _, HM.out.co, Nat.le_refl _⟩, (hfin _ h).2.2⟩) ?_
    (repeat' (first | with_reducible exact Only.refl _ _ | with_reducible refine Only.setCell ?_ (Or.inl ?_) _ | with_reducible refine Only.drewN ?_ _ | with_reducible refine Only.drew ?_ | with_reducible refine Only.alloc ?_ _ | (first | exact .inl rfl | exact .inr rfl)))

end Ref
end Go.Proofs.Ytfichoekjjcjiaa
