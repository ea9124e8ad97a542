/-
  Walks of layer 43: copied, Again; packet.number, packet.Valid.
  Conditions: the slices can be read where they are copied.
-/
import Derived.Test.YtfichoekjjcjiaaStW1
namespace Go.Proofs.Ytfichoekjjcjiaa
open Go.RowKit

def inNum (n least : Int) : Bool := decide (least ≤ n) && decide (n ≤ 1099511627776)
theorem number_any (n least : Int) (w : World) : Calls Try.prog 42 #[.int .i64 n, .int .i64 least] w fun e w' => e = .returned (.bool (inNum n least)) ∧ w' = w := by
  by_cases h : least ≤ n
  · have h1 : decide (least ≤ n) = true := by simpa using h
    clear h
    go_enter Try.func42, Try.ntmps42
    go_wp2_with fail
    go_ret
    refine ⟨?_, rfl⟩
    unfold inNum
    rw [h1, Bool.true_and]
    rfl
  · have h1 : decide (least ≤ n) = false := by simpa using h
    clear h
    go_enter Try.func42, Try.ntmps42
    go_wp2_with fail
    go_ret
    refine ⟨?_, rfl⟩
    unfold inNum
    rw [h1]
    rfl
theorem inNum_yes {n l : Int} (h : l ≤ n ∧ n ≤ 1099511627776) : inNum n l = true := by unfold inNum; simp [h.1, h.2]
theorem inNum_no {n l : Int} (h : ¬ (l ≤ n ∧ n ≤ 1099511627776)) : inNum n l = false := by
  unfold inNum
  rw [Bool.and_eq_false_iff, decide_eq_false_iff_not, decide_eq_false_iff_not]
  omega

set_option maxHeartbeats 1000000 in
theorem pvalid_any (A : Option Addr) (c : Nat) (p : Pk) (w : World) : Calls Try.prog 32 #[.agg (pcells A c p).toArray] w fun e' w' => e' = .returned (.bool (decide (VP p))) ∧ Only Nil w w' := by
  obtain ⟨r, hr⟩ : ∃ r, decide (VP p) = r := ⟨_, rfl⟩
  rw [hr]
  obtain ⟨pair, side, seq, ack, fin, data⟩ := p
  have hno : ¬ VP ⟨pair, side, seq, ack, fin, data⟩ → r = false := fun h => by rw [← hr]; exact decide_eq_false h
  have hyes : VP ⟨pair, side, seq, ack, fin, data⟩ → r = true := fun h => by rw [← hr]; exact decide_eq_true h
  have HN := Lib.hid hno
  have HY := Lib.hid hyes
  clear hno hyes hr
  unfold pcells
  dsimp only
  by_cases c1 : 1 ≤ pair ∧ pair ≤ 1099511627776
  rotate_left
  · rw [HN.out (fun h => c1 h.1)]
    go_enter Try.func32, Try.ntmps32
    go_wp2_with fail
    refine (number_any _ _ _).mono ?_
    rw [inNum_no c1]
    rintro e w1 ⟨rfl, rfl⟩
    go_wp2_with fail
    go_ret
    exact ⟨rfl, (Only.refl _ _).alloc _⟩
  by_cases c2 : side = 0 ∨ side = 1
  rotate_left
  · rw [HN.out (fun h => c2 h.2.1)]
    have d1 : (side == 0) = false := by rw [beq_eq_false_iff_ne]; omega
    have d2 : (side == 1) = false := by rw [beq_eq_false_iff_ne]; omega
    go_enter Try.func32, Try.ntmps32
    go_wp2_with fail
    refine (number_any _ _ _).mono ?_
    rw [inNum_yes c1]
    rintro e w1 ⟨rfl, rfl⟩
    go_wp2_with fail
    go_ret
    exact ⟨rfl, (Only.refl _ _).alloc _⟩
  rcases c2 with rfl | rfl
  all_goals
    by_cases c3 : 0 ≤ seq ∧ seq ≤ 1099511627776
    rotate_left
    · rw [HN.out (fun h => c3 h.2.2.1)]
      go_enter Try.func32, Try.ntmps32
      go_wp2_with fail
      refine (number_any _ _ _).mono ?_
      rw [inNum_yes c1]
      rintro e w1 ⟨rfl, rfl⟩
      go_wp2_with fail
      refine (number_any _ _ _).mono ?_
      rw [inNum_no c3]
      rintro e w1 ⟨rfl, rfl⟩
      go_wp2_with fail
      go_ret
      exact ⟨rfl, (Only.refl _ _).alloc _⟩
    by_cases c4 : 0 ≤ ack ∧ ack ≤ 1099511627776
    rotate_left
    · rw [HN.out (fun h => c4 h.2.2.2.1)]
      go_enter Try.func32, Try.ntmps32
      go_wp2_with fail
      refine (number_any _ _ _).mono ?_
      rw [inNum_yes c1]
      rintro e w1 ⟨rfl, rfl⟩
      go_wp2_with fail
      refine (number_any _ _ _).mono ?_
      rw [inNum_yes c3]
      rintro e w1 ⟨rfl, rfl⟩
      go_wp2_with fail
      refine (number_any _ _ _).mono ?_
      rw [inNum_no c4]
      rintro e w1 ⟨rfl, rfl⟩
      go_wp2_with fail
      go_ret
      exact ⟨rfl, (Only.refl _ _).alloc _⟩
    · have hr2 : decide ((data.length : Int) ≤ 64) = r := by
        by_cases c5 : data.length ≤ 64
        · rw [HY.out ⟨c1, by simp, c3, c4, c5⟩, decide_eq_true_eq]; omega
        · rw [HN.out (fun h => c5 h.2.2.2.2), decide_eq_false_iff_not]; omega
      have HR := Lib.hid hr2
      clear hr2
      go_enter Try.func32, Try.ntmps32
      go_wp2_with fail
      refine (number_any _ _ _).mono ?_
      rw [inNum_yes c1]
      rintro e w1 ⟨rfl, rfl⟩
      go_wp2_with fail
      refine (number_any _ _ _).mono ?_
      rw [inNum_yes c3]
      rintro e w1 ⟨rfl, rfl⟩
      go_wp2_with fail
      refine (number_any _ _ _).mono ?_
      rw [inNum_yes c4]
      rintro e w1 ⟨rfl, rfl⟩
      go_wp2_with fail
      go_ret
      refine ⟨?_, (Only.refl _ _).alloc _⟩
      rw [← HR.out]
      rfl

/-- A copy of the end is returned, its slices in new memory. -/
def CopyPost (e : E) (w : World) (x : Ending) (w' : World) : Prop :=
  ∃ l : Loc, x = .returned (.agg #[.slice l.Ao e.out.length l.co, .int .i64 e.base, .bool e.closed, .bool e.done, .slice l.Ai e.inn.length l.ci, .int .i64 e.next, .bool e.ended, .bool e.due]) ∧
    e.out.length ≤ l.co ∧ e.inn.length ≤ l.ci ∧
    w'.ownsRow w.heap.size 5 1 (.slice l.Ao e.out.length l.co) e.out.length (bcells e.out) ∧ w'.ownsRow w.heap.size 5 1 (.slice l.Ai e.inn.length l.ci) e.inn.length (bcells e.inn) ∧
    (∀ q, (Value.slice l.Ao e.out.length l.co).ownBlock = some q → (Value.slice l.Ai e.inn.length l.ci).ownBlock ≠ some q) ∧ Only Nil w w'

theorem copied_end (e : E) {w w2 w3 w4 : World} {Ao Ai : Option Addr} {co ci : Nat} (hO2 : Only Nil w w2) (hO3 : Only Nil w2 w3)
    (h3 : w3.ownsRow w2.heap.size 5 1 (.slice Ao e.out.length co) e.out.length (bcells e.out)) (hO4 : Only Nil w3 w4) (h4 : w4.ownsRow w3.heap.size 5 1 (.slice Ai e.inn.length ci) e.inn.length (bcells e.inn))
    (hco : e.out.length ≤ co) (hci : e.inn.length ≤ ci) (hs : w2.heap.size = w.heap.size + 2) (w' : World) (hO : ∀ S : Nat → Prop, (∀ x, w.heap.size ≤ x → x < w.heap.size + 2 → S x) → Only S w4 w') :
    CopyPost e w (.returned (.agg #[.slice Ao e.out.length co, .int .i64 e.base, .bool e.closed, .bool e.done, .slice Ai e.inn.length ci, .int .i64 e.next, .bool e.ended, .bool e.due])) w' := by
  have s2 := hO2.size
  have s3 := hO3.size
  have s4 := hO4.size
  have hOx := hO (fun x => w.heap.size ≤ x ∧ x < w.heap.size + 2) (fun x h1 h2 => ⟨h1, h2⟩)
  refine ⟨⟨Ao, co, Ai, ci⟩, rfl, hco, hci, own_base (own_only (own_onlyNil h3 hO4) hOx (fun q hq hx => by have := ownBlock_ge h3 hq; omega)) s2, own_base (own_only h4 hOx (fun q hq hx => by have := ownBlock_ge h4 hq; omega)) (by omega), fun q hq he => ?_, ?_⟩
  · have := ownBlock_ge h4 he
    have := own_lt h3 hq
    omega
  · exact ((hO2.thenNil hO3).thenNil hO4).trans hOx (fun x hx => .inr hx.1)

set_option maxRecDepth 100000 in
set_option maxHeartbeats 1000000 in
theorem copied_any (l : Loc) (e : E) (w : World) (h : EB w w.heap.size l e) (ho : e.out.length ≤ 1099511627776) (hi : e.inn.length ≤ 1099511627776) :
    Calls Try.prog 35 #[.agg (ecells l e).toArray] w (CopyPost e w) := by
  obtain ⟨w2, hw2⟩ : ∃ w2, w2 = (w.alloc (.cells (ecells l e).toArray 29)).alloc (.cells (ecells nowhere zE).toArray 29) := ⟨_, rfl⟩
  have hO2 : Only Nil w w2 := by rw [hw2]; exact ((Only.refl _ _).alloc _).alloc _
  have hb0 : Blk w2 w.heap.size 29 (ecells l e).toArray := by rw [hw2]; exact (Blk.new w _ _).alloc _
  have hb1 : Blk w2 (w.heap.size + 1) 29 (ecells nowhere zE).toArray := by rw [hw2]; simpa using Blk.new (w.alloc (.cells (ecells l e).toArray 29)) 29 (ecells nowhere zE).toArray
  have kc : ∀ w', Only Nil w2 w' → w'.cell? ⟨w.heap.size, 0, none⟩ = some (.slice l.Ao e.out.length l.co) ∧ w'.cell? ⟨w.heap.size, 4, none⟩ = some (.slice l.Ai e.inn.length l.ci) := fun w' hO =>
    ⟨by rw [(hb0.onlyNil hO).cell]; rfl, by rw [(hb0.onlyNil hO).cell]; rfl⟩
  have hcl : ∀ w', Only Nil w2 w' → Calls Try.prog 36 #[.slice l.Ao e.out.length l.co] w' (BytesPost Nil e.out w') := fun w' hO =>
    clone_any l.Ao l.co e.out w' ((h.out.onlyNil (hO2.thenNil hO) (Nat.le_refl _)).up (hO2.thenNil hO).size) ho
  have hci : ∀ w', Only Nil w2 w' → Calls Try.prog 36 #[.slice l.Ai e.inn.length l.ci] w' (BytesPost Nil e.inn w') := fun w' hO =>
    clone_any l.Ai l.ci e.inn w' ((h.inn.onlyNil (hO2.thenNil hO) (Nat.le_refl _)).up (hO2.thenNil hO).size) hi
  have fr : ∀ w', Only Nil w2 w' → ∀ i, w'.frozen? ⟨w.heap.size, i, none⟩ = false := fun w' hO i => (hb0.onlyNil hO).frozen i
  have hs2 : w2.heap.size = w.heap.size + 2 := by rw [hw2]; simp
  have HS2 := Lib.hid hs2
  clear hs2
  have KC := Lib.hid kc
  have FR := Lib.hid fr
  clear fr
  have HCL := Lib.hid hcl
  have HCI := Lib.hid hci
  have HO2 := Lib.hid hO2
  have HB0 := Lib.hid hb0
  have HB1 := Lib.hid hb1
  have HW2 := Lib.hid hw2
  clear kc hcl hci hO2 hb0 hb1 h
  obtain ⟨out, base, closed, done, inn, next, ended, due⟩ := e
  unfold ecells at hw2 ⊢
  unfold nowhere zE at hw2
  dsimp only at hw2 ⊢
  subst hw2
  go_enter Try.func35, Try.ntmps35
  go_wp2_with fail
  obtain ⟨k20, k24⟩ := KC.out _ (Only.refl _ _)
  go_region_law (first
    | (go_simp; go_at_call 36; refine (HCI.out _ (((Only.refl _ _).drew).thenNil hO3)).mono ?_; rintro x w4 ⟨Ai4, ci4, rfl, hci4, hown4, hO4⟩; obtain ⟨k40, k44⟩ := KC.out _ ((((Only.refl _ _).drew).thenNil hO3).thenNil hO4); have f40 := FR.out _ ((((Only.refl _ _).drew).thenNil hO3).thenNil hO4))
    | (go_simp; go_at_call 36; refine (HCL.out _ ((Only.refl _ _).drew)).mono ?_; rintro x w3 ⟨Ao3, co3, rfl, hco3, hown3, hO3⟩; obtain ⟨k30, k34⟩ := KC.out _ (((Only.refl _ _).drew).thenNil hO3)))
  all_goals
    have k0 : ∀ i, w4.cell? ⟨w.heap.size, i, none⟩ = #[Value.slice l.Ao out.length l.co, .int .i64 base, .bool closed, .bool done, .slice l.Ai inn.length l.ci, .int .i64 next, .bool ended, .bool due][i]? := fun i => (HB0.out.onlyNil ((((Only.refl _ _).drew).thenNil hO3).thenNil hO4)).cell i
    have k1 : ∀ i, w4.cell? ⟨w.heap.size + 1, i, none⟩ = #[Value.slice none 0 0, .int .i64 0, .bool false, .bool false, .slice none 0 0, .int .i64 0, .bool false, .bool false][i]? := fun i => (HB1.out.onlyNil ((((Only.refl _ _).drew).thenNil hO3).thenNil hO4)).cell i
    have f1 : ∀ i, w4.frozen? ⟨w.heap.size + 1, i, none⟩ = false := fun i => (HB1.out.onlyNil ((((Only.refl _ _).drew).thenNil hO3).thenNil hO4)).frozen i
    have hE := copied_end ⟨out, base, closed, done, inn, next, ended, due⟩ (HO2.out.drew) hO3 hown3 hO4 hown4 hco3 hci4 HS2.out
    have HE := Lib.hid hE
    clear hE hO3 hown3 hO4 hown4
    go_wp2_with fail
    refine bodyPost_ret (v := .agg #[.slice Ao3 out.length co3, .int .i64 base, .bool closed, .bool done, .slice Ai4 inn.length ci4, .int .i64 next, .bool ended, .bool due]) (by simp [results, Try.results35, go_sem, k1]) rfl ?_
    refine HE.out _ fun S s0 => ?_
    (repeat' (first | with_reducible exact Only.refl _ _ | with_reducible refine Only.setCell ?_ (Or.inl ?_) _ | with_reducible refine Only.drewN ?_ _ | with_reducible refine Only.drew ?_ | with_reducible refine Only.alloc ?_ _ | (exact s0 _ (by simp) (by simp))))

end Go.Proofs.Ytfichoekjjcjiaa
