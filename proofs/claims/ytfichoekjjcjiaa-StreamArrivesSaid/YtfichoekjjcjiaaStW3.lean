/-
  Walks of layer 43: Write, Close, Read, Again.
  Conditions: the slices can be read.
-/
import Derived.Test.YtfichoekjjcjiaaStW2
import Derived.IntWalk
namespace Go.Proofs.Ytfichoekjjcjiaa
open Go.RowKit

/-- What a function answers that returns an end and an error. -/
def EPost (r : E × Int) (w : World) (x : Ending) (w' : World) : Prop :=
  ∃ l : Loc, x = .returned (.tuple #[.agg #[.slice l.Ao r.1.out.length l.co, .int .i64 r.1.base, .bool r.1.closed, .bool r.1.done, .slice l.Ai r.1.inn.length l.ci, .int .i64 r.1.next, .bool r.1.ended, .bool r.1.due], .int .i64 r.2]) ∧
    EB w' w'.heap.size l r.1 ∧ Only Nil w w'
def writeE (e : E) (d : List UInt8) : E × Int :=
  if ¬ VE e then (zE, 1) else if e.closed = true then (zE, 7) else if 128 < e.out.length + d.length then (zE, 13) else ({ e with out := e.out ++ d, due := e.due || decide (0 < d.length) }, 0)

/-- The blocks of an end given by value: its own box, and the result's. -/
structure Boxes (w w2 : World) (l : Loc) (e : E) : Prop where
  only : Only Nil w w2
  size : w2.heap.size = w.heap.size + 2
  b0 : Blk w2 w.heap.size 29 (ecells l e).toArray
  b1 : Blk w2 (w.heap.size + 1) 29 (ecells nowhere zE).toArray
theorem Boxes.mk2 (w : World) (l : Loc) (e : E) : Boxes w ((w.alloc (.cells (ecells l e).toArray 29)).alloc (.cells (ecells nowhere zE).toArray 29)) l e :=
  ⟨((Only.refl _ _).alloc _).alloc _, by simp, (Blk.new w _ _).alloc _, by simpa using Blk.new (w.alloc (.cells (ecells l e).toArray 29)) 29 (ecells nowhere zE).toArray⟩
section
variable {w w2 w' : World} {l : Loc} {e : E}
theorem Boxes.onlyNil (h : Boxes w w2 l e) (hO : Only Nil w2 w') (i : Nat) : w'.cell? ⟨w.heap.size, i, none⟩ = #[Value.slice l.Ao e.out.length l.co, .int .i64 e.base, .bool e.closed, .bool e.done, .slice l.Ai e.inn.length l.ci, .int .i64 e.next, .bool e.ended, .bool e.due][i]? := (h.b0.onlyNil hO).cell i
theorem Boxes.res (h : Boxes w w2 l e) (hO : Only Nil w2 w') (i : Nat) : w'.cell? ⟨w.heap.size + 1, i, none⟩ = #[Value.slice none 0 0, .int .i64 0, .bool false, .bool false, .slice none 0 0, .int .i64 0, .bool false, .bool false][i]? := (h.b1.onlyNil hO).cell i
theorem Boxes.fr0 (h : Boxes w w2 l e) (hO : Only Nil w2 w') (i : Nat) : w'.frozen? ⟨w.heap.size, i, none⟩ = false := (h.b0.onlyNil hO).frozen i
theorem Boxes.fr1 (h : Boxes w w2 l e) (hO : Only Nil w2 w') (i : Nat) : w'.frozen? ⟨w.heap.size + 1, i, none⟩ = false := (h.b1.onlyNil hO).frozen i
end

theorem Blk.all8 {w : World} {g : Nat} {t : TypeId} {cs : Array Value} (h : Blk w g t cs) (hs : cs.size = 8) (v0 v1 v2 v3 v4 v5 v6 v7 : Value) :
    Blk ((((((((w.setCell ⟨g, 0, none⟩ v0).setCell ⟨g, 1, none⟩ v1).setCell ⟨g, 2, none⟩ v2).setCell ⟨g, 3, none⟩ v3).setCell ⟨g, 4, none⟩ v4).setCell ⟨g, 5, none⟩ v5).setCell ⟨g, 6, none⟩ v6).setCell ⟨g, 7, none⟩ v7) g t #[v0, v1, v2, v3, v4, v5, v6, v7] := by
  have := (((((((h.set_ 0 v0).set_ 1 v1).set_ 2 v2).set_ 3 v3).set_ 4 v4).set_ 5 v5).set_ 6 v6).set_ 7 v7
  have e : (((((((((cs.setIfInBounds 0 v0).setIfInBounds 1 v1).setIfInBounds 2 v2).setIfInBounds 3 v3).setIfInBounds 4 v4).setIfInBounds 5 v5).setIfInBounds 6 v6).setIfInBounds 7 v7)) = #[v0, v1, v2, v3, v4, v5, v6, v7] := by
    clear this h
    obtain ⟨l⟩ := cs
    have hl : l.length = 8 := by simpa using hs
    clear hs
    obtain ⟨a0, l, rfl⟩ := List.exists_cons_of_length_eq_add_one hl
    obtain ⟨a1, l, rfl⟩ := List.exists_cons_of_length_eq_add_one (Nat.succ.inj hl)
    obtain ⟨a2, l, rfl⟩ := List.exists_cons_of_length_eq_add_one (Nat.succ.inj (Nat.succ.inj hl))
    obtain ⟨a3, l, rfl⟩ := List.exists_cons_of_length_eq_add_one (Nat.succ.inj (Nat.succ.inj (Nat.succ.inj hl)))
    obtain ⟨a4, l, rfl⟩ := List.exists_cons_of_length_eq_add_one (Nat.succ.inj (Nat.succ.inj (Nat.succ.inj (Nat.succ.inj hl))))
    obtain ⟨a5, l, rfl⟩ := List.exists_cons_of_length_eq_add_one (Nat.succ.inj (Nat.succ.inj (Nat.succ.inj (Nat.succ.inj (Nat.succ.inj hl)))))
    obtain ⟨a6, l, rfl⟩ := List.exists_cons_of_length_eq_add_one (Nat.succ.inj (Nat.succ.inj (Nat.succ.inj (Nat.succ.inj (Nat.succ.inj (Nat.succ.inj hl))))))
    obtain ⟨a7, l, rfl⟩ := List.exists_cons_of_length_eq_add_one (Nat.succ.inj (Nat.succ.inj (Nat.succ.inj (Nat.succ.inj (Nat.succ.inj (Nat.succ.inj (Nat.succ.inj hl)))))))
    obtain rfl : l = [] := by simpa using hl
    simp only [List.setIfInBounds_toArray, List.set_cons_zero, List.set_cons_succ]
  rw [e] at this
  exact this

/-- An error: the zero end. -/
theorem EPost.err {w w1 w' : World} (n : Int) (hO : Only Nil w w1) (h : ∀ S : Nat → Prop, (∀ x, w.heap.size ≤ x → x < w.heap.size + 2 → S x) → Only S w1 w') :
    EPost (zE, n) w (.returned (.tuple #[.agg #[.slice none 0 0, .int .i64 0, .bool false, .bool false, .slice none 0 0, .int .i64 0, .bool false, .bool false], .int .i64 n])) w' :=
  ⟨nowhere, rfl, EB.zero _ _, hO.trans (h (fun x => w.heap.size ≤ x) (fun x hx _ => hx)) (fun x hx => .inr hx)⟩

set_option maxRecDepth 100000 in
set_option maxHeartbeats 1000000 in
theorem write_any (l : Loc) (e : E) (A : Option Addr) (c : Nat) (d : List UInt8) (w : World) (h : EB w w.heap.size l e) (hd : Bs w w.heap.size A d) (hdl : d.length ≤ 1099511627776) :
    Calls Try.prog 20 #[.agg (ecells l e).toArray, .slice A d.length c] w (EPost (writeE e d) w) := by
  obtain ⟨i0, hi0, hz0, hz1, hz2⟩ := info_parts byte_info
  obtain ⟨out, base, closed, done, inn, next, ended, due⟩ := e
  have hbx := Boxes.mk2 w l ⟨out, base, closed, done, inn, next, ended, due⟩
  obtain ⟨w2, hw2⟩ : ∃ w2, w2 = (w.alloc (.cells (ecells l ⟨out, base, closed, done, inn, next, ended, due⟩).toArray 29)).alloc (.cells (ecells nowhere zE).toArray 29) := ⟨_, rfl⟩
  rw [← hw2] at hbx
  have HX := Lib.hid hbx
  have HB := Lib.hid h
  have HD := Lib.hid hd
  have HW2 := Lib.hid hw2
  clear hbx h hd
  have hV := valid_any l ⟨out, base, closed, done, inn, next, ended, due⟩
  have hC := copied_any l ⟨out, base, closed, done, inn, next, ended, due⟩
  unfold ecells at hw2 hV hC ⊢
  unfold nowhere zE at hw2
  dsimp only at hw2 hV hC
  by_cases hv : VE ⟨out, base, closed, done, inn, next, ended, due⟩
  rotate_left
  · have hr : writeE ⟨out, base, closed, done, inn, next, ended, due⟩ d = (zE, 1) := by unfold writeE; rw [if_pos hv]
    rw [hr]
    rw [decide_eq_false hv] at hV
    have HV := Lib.hid hV
    clear hV hC hr
    go_enter Try.func20, Try.ntmps20
    go_wp2_with fail
    refine (HV.out _).mono ?_
    rintro x w1 ⟨rfl, hO1⟩
    have k1 := HX.out.res (by rw [hw2]; exact hO1)
    have f1 := HX.out.fr1 (by rw [hw2]; exact hO1)
    go_wp2_with fail
    refine bodyPost_ret (v := .tuple #[.agg #[.slice none 0 0, .int .i64 0, .bool false, .bool false, .slice none 0 0, .int .i64 0, .bool false, .bool false], .int .i64 1]) (by simp [results, Try.results20, go_sem, k1]) rfl ?_
    refine EPost.err 1 (HX.out.only.thenNil (by rw [hw2]; exact hO1)) fun S s0 => ?_
    (repeat' (first | with_reducible exact Only.refl _ _ | with_reducible refine Only.setCell ?_ (Or.inl ?_) _ | with_reducible refine Only.drewN ?_ _ | with_reducible refine Only.drew ?_ | with_reducible refine Only.alloc ?_ _ | (exact s0 _ (by simp) (by simp))))
  rw [decide_eq_true hv] at hV
  have HV := Lib.hid hV
  clear hV
  cases closed
  rotate_left
  · have hr : writeE ⟨out, base, true, done, inn, next, ended, due⟩ d = (zE, 7) := by unfold writeE; rw [if_neg (by simpa using hv), if_pos rfl]
    rw [hr]
    clear hC hr
    go_enter Try.func20, Try.ntmps20
    go_wp2_with fail
    refine (HV.out _).mono ?_
    rintro x w1 ⟨rfl, hO1⟩
    have k0 := HX.out.onlyNil (by rw [hw2]; exact hO1)
    have k1 := HX.out.res (by rw [hw2]; exact hO1)
    have f1 := HX.out.fr1 (by rw [hw2]; exact hO1)
    dsimp only at k0
    go_wp2_with fail
    refine bodyPost_ret (v := .tuple #[.agg #[.slice none 0 0, .int .i64 0, .bool false, .bool false, .slice none 0 0, .int .i64 0, .bool false, .bool false], .int .i64 7]) (by simp [results, Try.results20, go_sem, k1]) rfl ?_
    refine EPost.err 7 (HX.out.only.thenNil (by rw [hw2]; exact hO1)) fun S s0 => ?_
    (repeat' (first | with_reducible exact Only.refl _ _ | with_reducible refine Only.setCell ?_ (Or.inl ?_) _ | with_reducible refine Only.drewN ?_ _ | with_reducible refine Only.drew ?_ | with_reducible refine Only.alloc ?_ _ | (exact s0 _ (by simp) (by simp))))
  have ho128 := hv.1
  have hi128 := hv.2.1
  dsimp only at ho128 hi128
  have hwr : IntKind.i64.wrap (128 - (out.length : Int)) = 128 - (out.length : Int) := IntWalk.i64_in _ (by omega)
  by_cases hsp : 128 < out.length + d.length
  · have hr : writeE ⟨out, base, false, done, inn, next, ended, due⟩ d = (zE, 13) := by unfold writeE; rw [if_neg (by simpa using hv), if_neg (by simp), if_pos hsp]
    have hd1 : decide ((128 : Int) - out.length < d.length) = true := by rw [decide_eq_true_eq]; omega
    rw [hr]
    clear hC hr
    go_enter Try.func20, Try.ntmps20
    go_wp2_with fail
    refine (HV.out _).mono ?_
    rintro x w1 ⟨rfl, hO1⟩
    have k0 := HX.out.onlyNil (by rw [hw2]; exact hO1)
    have k1 := HX.out.res (by rw [hw2]; exact hO1)
    have f1 := HX.out.fr1 (by rw [hw2]; exact hO1)
    dsimp only at k0
    go_wp2_with fail
    refine bodyPost_ret (v := .tuple #[.agg #[.slice none 0 0, .int .i64 0, .bool false, .bool false, .slice none 0 0, .int .i64 0, .bool false, .bool false], .int .i64 13]) (by simp [results, Try.results20, go_sem, k1]) rfl ?_
    refine EPost.err 13 (HX.out.only.thenNil (by rw [hw2]; exact hO1)) fun S s0 => ?_
    (repeat' (first | with_reducible exact Only.refl _ _ | with_reducible refine Only.setCell ?_ (Or.inl ?_) _ | with_reducible refine Only.drewN ?_ _ | with_reducible refine Only.drew ?_ | with_reducible refine Only.alloc ?_ _ | (exact s0 _ (by simp) (by simp))))
  · have hd1 : decide ((128 : Int) - out.length < d.length) = false := by rw [decide_eq_false_iff_not]; omega
    have hC1 := fun w' hE => hC w' hE (by omega) (by omega)
    have HC := Lib.hid hC1
    clear hC hC1
    go_enter Try.func20, Try.ntmps20
    go_wp2_with fail
    refine (HV.out _).mono ?_
    rintro x w1 ⟨rfl, hO1⟩
    have k0 := HX.out.onlyNil (by rw [hw2]; exact hO1)
    dsimp only at k0
    have hOw1 : Only Nil w w1 := HX.out.only.thenNil (by rw [hw2]; exact hO1)
    go_wp2_with fail
    refine (HC.out _ (HB.out.next hOw1)).mono ?_
    rintro x w3 ⟨l3, rfl, hco3, hci3, ho3, hi3, hne3, hO3⟩
    have hO13 : Only Nil w2 w3 := (by rw [hw2]; exact hO1 : Only Nil w2 w1).thenNil hO3
    have j0 := HX.out.onlyNil hO13
    have j1 := HX.out.res hO13
    have g0 := HX.out.fr0 hO13
    have g1 := HX.out.fr1 hO13
    dsimp only at j0
    have HO3 := Lib.hid hO3
    have HI3 := Lib.hid hi3
    have HU3 := Lib.hid ho3
    have HN3 := Lib.hid hne3
    have HO1 := Lib.hid hOw1
    have hs1 : w.heap.size + 2 ≤ w1.heap.size := by rw [← HX.out.size, hw2]; exact hO1.size
    have HO1S := Lib.hid hs1
    have HB03 := Lib.hid (HX.out.b0.onlyNil hO13)
    have HB13 := Lib.hid (HX.out.b1.onlyNil hO13)
    clear hs1 hO13 hO3 hi3 ho3 hne3 hO1 hOw1 k0
    obtain ⟨o6, ho6⟩ : ∃ o6, o6 = out ++ d := ⟨_, rfl⟩
    have hNN : out.length + d.length = o6.length := by rw [ho6, List.length_append]
    have hy6 : bcells out ++ bcells d = bcells o6 := by rw [ho6, bcells_append]
    have how : ∀ w', Only (One w.heap.size) w3 w' → w'.ownsRow w.heap.size 5 1 (.slice l3.Ao out.length l3.co) out.length (bcells out) := fun w' hO =>
      own_base (own_only HU3.out hO (fun q hq hx => by have := ownBlock_ge HU3.out hq; have := HO1S.out; unfold One at hx; omega)) HO1.out.size
    have hrw : ∀ w', Only (One w.heap.size) w3 w' → Rd w' w.heap.size 1 A d.length (bcells d) := fun w' hO =>
      Rd.only (Rd.onlyNil HD.out (HO1.out.thenNil HO3.out) (Nat.le_refl _)) hO (HO1.out.thenNil HO3.out).size (fun x hx => by unfold One at hx; omega)
    have HOW := Lib.hid how
    have HRW := Lib.hid hrw
    have HNN := Lib.hid hNN
    have HY6 := Lib.hid hy6
    have H6 := Lib.hid ho6
    clear how hrw hNN hy6 ho6
    go_wp2_with (at_builtin; go_must (refine wpList_append_rd _ rfl (.tmp 27) (.tmp 28) _ rfl w.heap.size 5 i0 (.int .u8 0) 1 1 Try.underlying22 hi0 hz0 hz1 hz2 rfl (by omega) (.slice l3.Ao out.length l3.co) out.length (bcells out) rfl ?qown w.heap.size A d.length c (bcells d) rfl ?qrd (bcells_one d) o6.length HNN.out (bcells o6) HY6.out ?q63 ?qby ?qbase ?_))
    case qown => exact HOW.out _ (by (repeat' (first | with_reducible exact Only.refl _ _ | with_reducible refine Only.setCell ?_ (Or.inl ?_) _ | with_reducible refine Only.drewN ?_ _ | with_reducible refine Only.drew ?_ | with_reducible refine Only.alloc ?_ _ | (exact rfl))))
    case qrd => exact HRW.out _ (by (repeat' (first | with_reducible exact Only.refl _ _ | with_reducible refine Only.setCell ?_ (Or.inl ?_) _ | with_reducible refine Only.drewN ?_ _ | with_reducible refine Only.drew ?_ | with_reducible refine Only.alloc ?_ _ | (exact rfl))))
    case q63 => unfold maxLen; omega
    case qby => omega
    case qbase => have := (HO1.out.thenNil HO3.out).size; simp; omega
    intro A4 c4 w5 hc4 hown4 hgr4 hat4
    have hb0 := (Blk.all8 HB03.out rfl _ _ _ _ _ _ _ _).grown hgr4 (fun e => own_blk_ne HU3.out HB03.out (by decide) e.symm)
    have hb1 := (Blk.only HB13.out (S := One w.heap.size) (by (repeat' (first | with_reducible exact Only.refl _ _ | with_reducible refine Only.setCell ?_ (Or.inl ?_) _ | with_reducible refine Only.drewN ?_ _ | with_reducible refine Only.drew ?_ | with_reducible refine Only.alloc ?_ _ | (exact rfl)))) (by unfold One; omega)).grown hgr4 (fun e => own_blk_ne HU3.out HB13.out (by decide) e.symm)
    have k0 := fun i => hb0.cell i
    have k1 : ∀ i, w5.cell? ⟨w.heap.size + 1, i, none⟩ = #[Value.slice none 0 0, .int .i64 0, .bool false, .bool false, .slice none 0 0, .int .i64 0, .bool false, .bool false][i]? := fun i => hb1.cell i
    have f0 := fun i => hb0.frozen i
    have f1 := fun i => hb1.frozen i
    have hE : ∀ (due' : Bool) (w' : World), due' = (due || decide (0 < d.length)) → (∀ S : Nat → Prop, (∀ x, w.heap.size ≤ x → x < w.heap.size + 2 → S x) → Only S w5 w') →
        EPost (writeE ⟨out, base, false, done, inn, next, ended, due⟩ d) w (.returned (.tuple #[.agg #[.slice A4 o6.length c4, .int .i64 base, .bool false, .bool done, .slice l3.Ai inn.length l3.ci, .int .i64 next, .bool ended, .bool due'], .int .i64 0])) w' := by
      intro due' w' hdue hO
      have hr : writeE ⟨out, base, false, done, inn, next, ended, due⟩ d = (⟨o6, base, false, done, inn, next, ended, due'⟩, 0) := by
        unfold writeE
        rw [if_neg (by simpa using hv), if_neg (by simp), if_neg hsp, H6.out, hdue]
      rw [hr]
      have hOx := hO (fun x => w.heap.size ≤ x ∧ x < w.heap.size + 2) (fun x h1 h2 => ⟨h1, h2⟩)
      have hge : ∀ q, (Value.slice A4 o6.length c4).ownBlock = some q → w.heap.size + 2 ≤ q := fun q hq => by
        have h3s := HO3.out.size
        rcases hat4 with h1 | h1
        · have := ownBlock_ge HU3.out (h1 ▸ hq); have := HO1S.out; omega
        · rw [h1] at hq; injection hq with hq; have := HO1S.out; have hq' : w3.heap.size = q := by first | exact hq | simpa using hq
          omega
      have ho' := own_only hown4 hOx (fun q hq hx => by have := hge q hq; omega)
      have hic := own_only HI3.out (w' := w5) ((Only.then_ (b := _) (S := fun x => x = w.heap.size ∨ (Value.slice l3.Ao out.length l3.co).ownBlock = some x) (by (repeat' (first | with_reducible exact Only.refl _ _ | with_reducible refine Only.setCell ?_ (Or.inl ?_) _ | with_reducible refine Only.drewN ?_ _ | with_reducible refine Only.drew ?_ | with_reducible refine Only.alloc ?_ _ | (exact .inl rfl)))) ((Only.of_grown hgr4).more (fun x hx => .inr hx)))) (fun q hq hx => by
        rcases hx with hx | hx
        · have := ownBlock_ge HI3.out hq; have := HO1S.out; omega
        · exact HN3.out q hx hq)
      have hi' := own_only hic hOx (fun q hq hx => by have := ownBlock_ge HI3.out hq; have := HO1S.out; omega)
      refine ⟨⟨A4, c4, l3.Ai, l3.ci⟩, rfl, ⟨(Bs.of_own ho').1, (Bs.of_own hi').1, hc4, hci3⟩, ?_⟩
      refine ((HO1.out.thenNil HO3.out).trans (S' := fun x => w.heap.size ≤ x) (b := w3) ?_ (fun x hx => .inr hx))
      have h1 : Only (fun x => w.heap.size ≤ x) w3 w5 := Only.then_ (by (repeat' (first | with_reducible exact Only.refl _ _ | with_reducible refine Only.setCell ?_ (Or.inl ?_) _ | with_reducible refine Only.drewN ?_ _ | with_reducible refine Only.drew ?_ | with_reducible refine Only.alloc ?_ _ | (exact Nat.le_refl _)))) ((Only.of_grown hgr4).more (fun x hx => by have := ownBlock_ge HU3.out hx; have := HO1S.out; omega))
      exact h1.then_ (hO _ (fun x h _ => h))
    have HE := Lib.hid hE
    clear hE hown4 hgr4 hat4 hb0 hb1
    cases due
    · go_wp2_with fail
      refine bodyPost_ret (v := .tuple #[.agg #[.slice A4 o6.length c4, .int .i64 base, .bool false, .bool done, .slice l3.Ai inn.length l3.ci, .int .i64 next, .bool ended, .bool (decide ((0 : Int) < d.length))], .int .i64 0]) (by simp [results, Try.results20, go_sem, k1]) rfl ?_
      refine HE.out _ _ (by simp) fun S s0 => ?_
      (repeat' (first | with_reducible exact Only.refl _ _ | with_reducible refine Only.setCell ?_ (Or.inl ?_) _ | with_reducible refine Only.drewN ?_ _ | with_reducible refine Only.drew ?_ | with_reducible refine Only.alloc ?_ _ | (exact s0 _ (by simp) (by simp))))
    · go_wp2_with fail
      refine bodyPost_ret (v := .tuple #[.agg #[.slice A4 o6.length c4, .int .i64 base, .bool false, .bool done, .slice l3.Ai inn.length l3.ci, .int .i64 next, .bool ended, .bool true], .int .i64 0]) (by simp [results, Try.results20, go_sem, k1]) rfl ?_
      refine HE.out _ _ (by simp) fun S s0 => ?_
      (repeat' (first | with_reducible exact Only.refl _ _ | with_reducible refine Only.setCell ?_ (Or.inl ?_) _ | with_reducible refine Only.drewN ?_ _ | with_reducible refine Only.drew ?_ | with_reducible refine Only.alloc ?_ _ | (exact s0 _ (by simp) (by simp))))

end Go.Proofs.Ytfichoekjjcjiaa
