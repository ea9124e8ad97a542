/-
  Walks of layer 43: acknowledged, taken, Receive.
  Conditions: the end is valid, its slices are the caller's own.
-/
import Derived.Test.YtfichoekjjcjiaaStW3
import Derived.BigRegion
import Derived.Deep.Cut
import Derived.Deep.DeepCutAuto
namespace Go.Proofs.Ytfichoekjjcjiaa
open Go.RowKit

/-- The first step of acknowledged: bytes are taken off Out. -/
def ackN (e : E) (ack : Int) : Nat := if e.base < ack then min (ack - e.base).toNat e.out.length else 0
def ack1 (e : E) (ack : Int) : E := { e with out := e.out.drop (ackN e ack), base := e.base + ackN e ack }
def ackF (e : E) (ack : Int) : Bool := e.closed && !e.done && decide ((ack1 e ack).out.length = 0) && decide (ack = (ack1 e ack).base + 1)
def ack2 (e : E) (ack : Int) : E := { ack1 e ack with done := e.done || ackF e ack }
def ackC (e : E) (ack : Int) : Bool := decide (0 < ackN e ack) || ackF e ack
def ackE (e : E) (ack : Int) : E := { ack2 e ack with due := e.due || (ackC e ack && pend (ack2 e ack)) }

def AckPost (l : Loc) (e : E) (base : Nat) (ack : Int) (w : World) (x : Ending) (w' : World) : Prop :=
  ∃ (Ao : Option Addr) (co : Nat), x = .returned (.agg #[.slice Ao (ackE e ack).out.length co, .int .i64 (ackE e ack).base, .bool (ackE e ack).closed, .bool (ackE e ack).done, .slice l.Ai e.inn.length l.ci, .int .i64 (ackE e ack).next, .bool (ackE e ack).ended, .bool (ackE e ack).due]) ∧
    (ackE e ack).out.length ≤ co ∧ w'.ownsRow base 5 1 (.slice Ao (ackE e ack).out.length co) (ackE e ack).out.length (bcells (ackE e ack).out) ∧
    (∀ q, (Value.slice Ao (ackE e ack).out.length co).ownBlock = some q → (Value.slice l.Ao e.out.length l.co).ownBlock = some q ∨ w.heap.size ≤ q) ∧ Only Nil w w'

/-- Behind the first 'if' of acknowledged. -/
def AckMid (l : Loc) (e : E) (done' : Bool) (base0 : Nat) (ack : Int) (w wc : World) : Prop :=
  ∃ (Ao : Option Addr) (co : Nat), Blk wc w.heap.size 29 #[.slice Ao (ack1 e ack).out.length co, .int .i64 (ack1 e ack).base, .bool e.closed, .bool done', .slice l.Ai e.inn.length l.ci, .int .i64 e.next, .bool e.ended, .bool e.due] ∧
    Blk wc (w.heap.size + 1) 29 #[.slice none 0 0, .int .i64 0, .bool false, .bool false, .slice none 0 0, .int .i64 0, .bool false, .bool false] ∧
    (ack1 e ack).out.length ≤ co ∧ wc.ownsRow base0 5 1 (.slice Ao (ack1 e ack).out.length co) (ack1 e ack).out.length (bcells (ack1 e ack).out) ∧
    (∀ q, (Value.slice Ao (ack1 e ack).out.length co).ownBlock = some q → (Value.slice l.Ao e.out.length l.co).ownBlock = some q ∨ w.heap.size ≤ q) ∧ Only Nil w wc

theorem ack_len (e : E) (ack : Int) : (ack1 e ack).out.length = e.out.length - ackN e ack := by simp [ack1]

set_option maxRecDepth 100000 in
set_option maxHeartbeats 1000000 in
theorem ack_any (l : Loc) (e : E) (base0 : Nat) (ack : Int) (w : World) (hb : base0 ≤ w.heap.size) (hown : w.ownsRow base0 5 1 (.slice l.Ao e.out.length l.co) e.out.length (bcells e.out)) (hv : VE e) (ha : 0 ≤ ack ∧ ack ≤ 1099511627776) :
    Calls Try.prog 34 #[.agg (ecells l e).toArray, .int .i64 ack] w (AckPost l e base0 ack w) := by
  obtain ⟨out, base, closed, done, inn, next, ended, due⟩ := e
  have hbx := Boxes.mk2 w l ⟨out, base, closed, done, inn, next, ended, due⟩
  obtain ⟨w2, hw2⟩ : ∃ w2, w2 = (w.alloc (.cells (ecells l ⟨out, base, closed, done, inn, next, ended, due⟩).toArray 29)).alloc (.cells (ecells nowhere zE).toArray 29) := ⟨_, rfl⟩
  rw [← hw2] at hbx
  have hv1 := hv.1
  have hv3 := hv.2.2.1
  dsimp only at hv1 hv3
  have HX := Lib.hid hbx
  have HW2 := Lib.hid hw2
  have HOW := Lib.hid hown
  clear hbx hown
  unfold ecells at hw2 ⊢
  unfold nowhere zE at hw2
  dsimp only at hw2 ⊢
  have hcap : out.length ≤ l.co := by
    obtain ⟨A', c', e1, h1⟩ := own_form HOW.out
    injection e1 with _ _ e3
    have h1 : out.length ≤ c' := h1
    omega
  have hclone : ∀ (K : Nat) (w' : World), K ≤ out.length → Only Nil w2 w' → Calls Try.prog 36 #[.slice (if l.co = K then l.Ao else Option.map (fun x => x.add K) l.Ao) (out.length - K) (l.co - K)] w' (BytesPost Nil (out.drop K) w') := fun K w' hK hO => by
    have h1 : Bs w' w'.heap.size (if l.co = K then l.Ao else Option.map (fun x => x.add K) l.Ao) (out.drop K) := (Bs.of_own (own_onlyNil HOW.out (HX.out.only.thenNil hO))).1.cut hK hcap
    have h2 := clone_any _ (l.co - K) (out.drop K) w' h1 (by rw [List.length_drop]; omega)
    rw [List.length_drop] at h2
    exact h2
  have HCL := Lib.hid hclone
  clear hclone
  subst hw2
  go_enter Try.func34, Try.ntmps34
  go_upto_if 10 with fail
  go_cut [5] (fun v wc => v = .bool (decide (0 < ackN ⟨out, base, closed, done, inn, next, ended, due⟩ ack)) ∧ AckMid l ⟨out, base, closed, done, inn, next, ended, due⟩ done base0 ack w wc)
  case first =>
    by_cases hlt : base < ack
    · have hd1 : decide (base < ack) = true := by simpa using hlt
      by_cases hle : ack - base ≤ out.length
      · obtain ⟨K, rfl⟩ : ∃ K : Nat, ack = base + K := ⟨(ack - base).toNat, by omega⟩
        have hK : K ≤ out.length := by omega
        have hKi : (K : Int) ≤ out.length := by omega
        have hKc : (out.length : Int) ≤ l.co := by omega
        have hwr : IntKind.i64.wrap (base + K - base) = K := by rw [IntWalk.i64_in _ (by omega)]; omega
        have hwr2 : IntKind.i64.wrap (base + K) = base + K := IntWalk.i64_in _ (by omega)
        have hN : ackN ⟨out, base, closed, done, inn, next, ended, due⟩ (base + K) = K := by
          unfold ackN
          dsimp only
          rw [if_pos hlt]
          omega
        have h1 : ack1 ⟨out, base, closed, done, inn, next, ended, due⟩ (base + K) = ⟨out.drop K, base + K, closed, done, inn, next, ended, due⟩ := by unfold ack1; rw [hN]
        obtain ⟨o1, ho1⟩ : ∃ o1, o1 = out.drop K := ⟨_, rfl⟩
        have hCL := fun w' hO => HCL.out K w' hK hO
        rw [← ho1] at hCL h1
        obtain ⟨Ax, hAx⟩ : ∃ Ax, (if l.co = K then l.Ao else Option.map (fun x => x.add K) l.Ao) = Ax := ⟨_, rfl⟩
        rw [hAx] at hCL
        have HC1 := Lib.hid hCL
        have HN := Lib.hid hN
        have H1 := Lib.hid h1
        have HD := Lib.hid ho1
        clear hCL hN h1 ho1
        go_wp2_with fail
        go_region_law (go_simp; go_at_call 36; refine (HC1.out _ ((Only.refl _ _).drew)).mono ?_; rintro x w3 ⟨A3, c3, rfl, hc3, hown3, hO3⟩; have j0 := HX.out.onlyNil (((Only.refl _ _).drew).thenNil hO3); have g0 := HX.out.fr0 (((Only.refl _ _).drew).thenNil hO3))
        all_goals
          go_wp2_with fail
          go_meet
          case rel =>
            have hOw3 := (HX.out.only.drew).thenNil hO3
            have hb0 := HX.out.b0.onlyNil (((Only.refl _ _).drew).thenNil hO3)
            have hb1 := HX.out.b1.onlyNil (((Only.refl _ _).drew).thenNil hO3)
            have hw3 := HX.out.size
            refine ⟨by rw [HN.out], A3, c3, ?_, ?_, ?_, ?_, ?_, ?_⟩
            · rw [H1.out]
              first | exact (hb0.set_ 0 _).set_ 1 _ | exact (hb0.set_ 1 _).set_ 0 _
            · exact Blk.only (S := One w.heap.size) hb1 (by (repeat' (first | with_reducible exact Only.refl _ _ | with_reducible refine Only.setCell ?_ (Or.inl ?_) _ | with_reducible refine Only.drewN ?_ _ | with_reducible refine Only.drew ?_ | with_reducible refine Only.alloc ?_ _ | (exact rfl)))) (by unfold One; omega)
            · rw [H1.out]; exact hc3
            · rw [H1.out]
              refine own_base (own_only (S := One w.heap.size) hown3 ?_ ?_) ?_
              · (repeat' (first | with_reducible exact Only.refl _ _ | with_reducible refine Only.setCell ?_ (Or.inl ?_) _ | with_reducible refine Only.drewN ?_ _ | with_reducible refine Only.drew ?_ | with_reducible refine Only.alloc ?_ _ | (exact rfl)))
              · intro q hq hx
                have h5 := ownBlock_ge hown3 hq
                have h6 : w.heap.size + 2 ≤ q := by rw [← hw3]; exact h5
                unfold One at hx
                omega
              · have h5 : base0 ≤ w.heap.size + 2 := by omega
                rw [← hw3] at h5
                exact h5
            · rw [H1.out]
              intro q hq
              have h5 := ownBlock_ge hown3 hq
              have h6 : w.heap.size + 2 ≤ q := by rw [← hw3]; exact h5
              exact .inr (by omega)
            · exact hOw3.trans (S' := One w.heap.size) (by (repeat' (first | with_reducible exact Only.refl _ _ | with_reducible refine Only.setCell ?_ (Or.inl ?_) _ | with_reducible refine Only.drewN ?_ _ | with_reducible refine Only.drew ?_ | with_reducible refine Only.alloc ?_ _ | (exact rfl)))) (fun x hx => .inr (by unfold One at hx; omega))
      · have hK0 : out.length ≤ out.length := Nat.le_refl _
        have hKc : (out.length : Int) ≤ l.co := by omega
        have hwr : IntKind.i64.wrap (ack - base) = ack - base := IntWalk.i64_in _ (by omega)
        have hwr2 : IntKind.i64.wrap (base + out.length) = base + out.length := IntWalk.i64_in _ (by omega)
        have hN : ackN ⟨out, base, closed, done, inn, next, ended, due⟩ ack = out.length := by
          unfold ackN
          dsimp only
          rw [if_pos hlt]
          omega
        have h1 : ack1 ⟨out, base, closed, done, inn, next, ended, due⟩ ack = ⟨out.drop out.length, base + out.length, closed, done, inn, next, ended, due⟩ := by unfold ack1; rw [hN]
        obtain ⟨o1, ho1⟩ : ∃ o1, o1 = out.drop out.length := ⟨_, rfl⟩
        have hCL := fun w' hO => HCL.out out.length w' hK0 hO
        rw [← ho1] at hCL h1
        rw [Nat.sub_self] at hCL
        obtain ⟨Ax, hAx⟩ : ∃ Ax, (if l.co = out.length then l.Ao else Option.map (fun x => x.add out.length) l.Ao) = Ax := ⟨_, rfl⟩
        rw [hAx] at hCL
        have HC1 := Lib.hid hCL
        have HN := Lib.hid hN
        have H1 := Lib.hid h1
        have HD := Lib.hid ho1
        clear hCL hN h1 ho1
        go_wp2_with fail
        go_region_law (go_simp; go_at_call 36; refine (HC1.out _ ((Only.refl _ _).drew)).mono ?_; rintro x w3 ⟨A3, c3, rfl, hc3, hown3, hO3⟩; have j0 := HX.out.onlyNil (((Only.refl _ _).drew).thenNil hO3); have g0 := HX.out.fr0 (((Only.refl _ _).drew).thenNil hO3))
        all_goals
          go_wp2_with fail
          go_meet
          case rel =>
            have hOw3 := (HX.out.only.drew).thenNil hO3
            have hb0 := HX.out.b0.onlyNil (((Only.refl _ _).drew).thenNil hO3)
            have hb1 := HX.out.b1.onlyNil (((Only.refl _ _).drew).thenNil hO3)
            have hw3 := HX.out.size
            refine ⟨by rw [HN.out], A3, c3, ?_, ?_, ?_, ?_, ?_, ?_⟩
            · rw [H1.out]
              first | exact (hb0.set_ 0 _).set_ 1 _ | exact (hb0.set_ 1 _).set_ 0 _
            · exact Blk.only (S := One w.heap.size) hb1 (by (repeat' (first | with_reducible exact Only.refl _ _ | with_reducible refine Only.setCell ?_ (Or.inl ?_) _ | with_reducible refine Only.drewN ?_ _ | with_reducible refine Only.drew ?_ | with_reducible refine Only.alloc ?_ _ | (exact rfl)))) (by unfold One; omega)
            · rw [H1.out]; exact hc3
            · rw [H1.out]
              refine own_base (own_only (S := One w.heap.size) hown3 ?_ ?_) ?_
              · (repeat' (first | with_reducible exact Only.refl _ _ | with_reducible refine Only.setCell ?_ (Or.inl ?_) _ | with_reducible refine Only.drewN ?_ _ | with_reducible refine Only.drew ?_ | with_reducible refine Only.alloc ?_ _ | (exact rfl)))
              · intro q hq hx
                have h5 := ownBlock_ge hown3 hq
                have h6 : w.heap.size + 2 ≤ q := by rw [← hw3]; exact h5
                unfold One at hx
                omega
              · have h5 : base0 ≤ w.heap.size + 2 := by omega
                rw [← hw3] at h5
                exact h5
            · rw [H1.out]
              intro q hq
              have h5 := ownBlock_ge hown3 hq
              have h6 : w.heap.size + 2 ≤ q := by rw [← hw3]; exact h5
              exact .inr (by omega)
            · exact hOw3.trans (S' := One w.heap.size) (by (repeat' (first | with_reducible exact Only.refl _ _ | with_reducible refine Only.setCell ?_ (Or.inl ?_) _ | with_reducible refine Only.drewN ?_ _ | with_reducible refine Only.drew ?_ | with_reducible refine Only.alloc ?_ _ | (exact rfl)))) (fun x hx => .inr (by unfold One at hx; omega))
    · have hN : ackN ⟨out, base, closed, done, inn, next, ended, due⟩ ack = 0 := by
        unfold ackN
        dsimp only
        rw [if_neg hlt]
      have h1 : ack1 ⟨out, base, closed, done, inn, next, ended, due⟩ ack = ⟨out, base, closed, done, inn, next, ended, due⟩ := by unfold ack1; rw [hN]; simp
      have hd1 : decide (base < ack) = false := by simpa using hlt
      have HN := Lib.hid hN
      have H1 := Lib.hid h1
      clear hN h1
      go_wp2_with fail
      go_meet
      case rel =>
        refine ⟨by simp [HN.out], l.Ao, l.co, ?_, ?_, ?_, ?_, ?_, ?_⟩
        · rw [H1.out]; exact HX.out.b0
        · exact HX.out.b1
        · rw [H1.out]; exact hcap
        · rw [H1.out]; exact own_onlyNil HOW.out HX.out.only
        · rw [H1.out]; exact fun q hq => .inl hq
        · exact HX.out.only
  case rest =>
    obtain ⟨rfl, hM⟩ := hcut
    obtain ⟨Ao, co, hb0, hb1, hco, hown, hsep, hO⟩ := hM
    have hbound : (ack1 ⟨out, base, closed, done, inn, next, ended, due⟩ ack).base ≤ 1099511627776 + 128 ∧ 0 ≤ (ack1 ⟨out, base, closed, done, inn, next, ended, due⟩ ack).base := by
      have : ackN ⟨out, base, closed, done, inn, next, ended, due⟩ ack ≤ out.length := by unfold ackN; dsimp only; split <;> omega
      unfold ack1
      dsimp only
      omega
    obtain ⟨o1, ho1⟩ : ∃ o1, (ack1 ⟨out, base, closed, done, inn, next, ended, due⟩ ack).out = o1 := ⟨_, rfl⟩
    obtain ⟨b1, hbb⟩ : ∃ b1, (ack1 ⟨out, base, closed, done, inn, next, ended, due⟩ ack).base = b1 := ⟨_, rfl⟩
    obtain ⟨ch, hch⟩ : ∃ ch, decide (0 < ackN ⟨out, base, closed, done, inn, next, ended, due⟩ ack) = ch := ⟨_, rfl⟩
    rw [ho1, hbb] at hb0
    rw [ho1] at hco hown hsep
    rw [hbb] at hbound
    rw [hch]
    have hF : ackF ⟨out, base, closed, done, inn, next, ended, due⟩ ack = (closed && !done && decide (o1.length = 0) && decide (ack = b1 + 1)) := by unfold ackF; rw [ho1, hbb]
    have hC : ackC ⟨out, base, closed, done, inn, next, ended, due⟩ ack = (ch || ackF ⟨out, base, closed, done, inn, next, ended, due⟩ ack) := by unfold ackC; rw [hch]
    have HF := Lib.hid hF
    have HC := Lib.hid hC
    have HO1 := Lib.hid ho1
    have HBB := Lib.hid hbb
    have HB0 := Lib.hid hb0
    have HB1 := Lib.hid hb1
    have HN := Lib.hid hown
    have HS := Lib.hid hsep
    have HO := Lib.hid hO
    have k0 : ∀ i, wc.cell? ⟨w.heap.size, i, none⟩ = #[Value.slice Ao o1.length co, .int .i64 b1, .bool closed, .bool done, .slice l.Ai inn.length l.ci, .int .i64 next, .bool ended, .bool due][i]? := fun i => hb0.cell i
    have f0 : ∀ i, wc.frozen? ⟨w.heap.size, i, none⟩ = false := fun i => hb0.frozen i
    have hwr : IntKind.i64.wrap (b1 + 1) = b1 + 1 := IntWalk.i64_in _ (by omega)
    clear hF hC ho1 hbb hb0 hb1 hown hsep hO hch
    obtain ⟨F, hFF⟩ : ∃ F, ackF ⟨out, base, closed, done, inn, next, ended, due⟩ ack = F := ⟨_, rfl⟩
    have HFF := Lib.hid hFF
    clear hFF
    go_upto_region 5 with fail
    go_cut [51] (fun f wd => f = .bool F ∧ wd = wc)
    case first =>
      cases closed
      · have hF : F = false := by rw [← HFF.out, HF.out]; rfl
        have HFx := Lib.hid hF
        clear hF
        go_wp2_with fail
        go_meet
        case rel => exact ⟨by rw [HFx.out], rfl⟩
      cases done
      rotate_left
      · have hF : F = false := by rw [← HFF.out, HF.out]; rfl
        have HFx := Lib.hid hF
        clear hF
        go_wp2_with fail
        go_meet
        case rel => exact ⟨by rw [HFx.out], rfl⟩
      by_cases hz : o1.length = 0
      rotate_left
      · have hF : F = false := by rw [← HFF.out, HF.out, decide_eq_false hz]; rfl
        have HFx := Lib.hid hF
        clear hF
        have hz' : ((o1.length : Int) == 0) = false := by rw [beq_eq_false_iff_ne]; omega
        go_wp2_with fail
        go_meet
        case rel => exact ⟨by rw [HFx.out], rfl⟩
      have hz' : ((o1.length : Int) == 0) = true := by rw [beq_iff_eq]; omega
      have hF : F = (ack == b1 + 1) := by
        rw [← HFF.out, HF.out, decide_eq_true hz]
        by_cases ha1 : ack = b1 + 1
        · rw [decide_eq_true ha1, beq_iff_eq.2 ha1]; rfl
        · rw [decide_eq_false ha1, beq_eq_false_iff_ne.2 ha1]; rfl
      have HFx := Lib.hid hF
      clear hF hz
      go_wp2_with fail
      go_meet
      case rel => exact ⟨by rw [HFx.out], rfl⟩
    case rest =>
      obtain ⟨rfl, rfl⟩ := hcut
      go_upto_if 51 with fail
      go_cut [5] (fun v we => v = .bool (ackC ⟨out, base, closed, done, inn, next, ended, due⟩ ack) ∧ AckMid l ⟨out, base, closed, done, inn, next, ended, due⟩ (done || F) base0 ack w we)
      case first =>
        cases F
        · go_wp2_with fail
          go_meet
          case rel =>
            refine ⟨by rw [HC.out, HFF.out, Bool.or_false], Ao, co, ?_, HB1.out, ?_, ?_, ?_, HO.out⟩
            · rw [Bool.or_false, HO1.out, HBB.out]; exact HB0.out
            · rw [HO1.out]; exact hco
            · rw [HO1.out]; exact HN.out
            · rw [HO1.out]; exact HS.out
        · go_wp2_with fail
          go_meet
          case rel =>
            refine ⟨by rw [HC.out, HFF.out, Bool.or_true], Ao, co, ?_, ?_, ?_, ?_, ?_, ?_⟩
            · rw [Bool.or_true, HO1.out, HBB.out]; exact HB0.out.set_ 3 _
            · exact Blk.only (S := One w.heap.size) HB1.out (by (repeat' (first | with_reducible exact Only.refl _ _ | with_reducible refine Only.setCell ?_ (Or.inl ?_) _ | with_reducible refine Only.drewN ?_ _ | with_reducible refine Only.drew ?_ | with_reducible refine Only.alloc ?_ _ | (exact rfl)))) (by unfold One; omega)
            · rw [HO1.out]; exact hco
            · rw [HO1.out]
              refine own_only (S := One w.heap.size) HN.out ?_ (fun q hq hx => own_blk_ne HN.out HB0.out (by decide) (by rw [hq]; unfold One at hx; rw [hx]))
              (repeat' (first | with_reducible exact Only.refl _ _ | with_reducible refine Only.setCell ?_ (Or.inl ?_) _ | with_reducible refine Only.drewN ?_ _ | with_reducible refine Only.drew ?_ | with_reducible refine Only.alloc ?_ _ | (exact rfl)))
            · rw [HO1.out]; exact HS.out
            · exact HO.out.trans (S' := One w.heap.size) (by (repeat' (first | with_reducible exact Only.refl _ _ | with_reducible refine Only.setCell ?_ (Or.inl ?_) _ | with_reducible refine Only.drewN ?_ _ | with_reducible refine Only.drew ?_ | with_reducible refine Only.alloc ?_ _ | (exact rfl)))) (fun x hx => .inr (by unfold One at hx; omega))
      case rest =>
        obtain ⟨rfl, A2, c2, gb0, gb1, gco, gown, gsep, gO⟩ := hcut
        rw [HO1.out, HBB.out] at gb0
        rw [HO1.out] at gco gown gsep
        obtain ⟨dn, hdn⟩ : ∃ dn, dn = (done || F) := ⟨_, rfl⟩
        rw [← hdn] at gb0
        dsimp only at gb0
        obtain ⟨C, hCC⟩ : ∃ C, C = ackC ⟨out, base, closed, done, inn, next, ended, due⟩ ack := ⟨_, rfl⟩
        rw [← hCC]
        have hP := pending_any ⟨A2, c2, l.Ai, l.ci⟩ ⟨o1, b1, closed, dn, inn, next, ended, due⟩
        unfold ecells at hP
        dsimp only at hP
        obtain ⟨pn, hpn⟩ : ∃ pn, pend ⟨o1, b1, closed, dn, inn, next, ended, due⟩ = pn := ⟨_, rfl⟩
        rw [hpn] at hP
        have hA : ackE ⟨out, base, closed, done, inn, next, ended, due⟩ ack = ⟨o1, b1, closed, dn, inn, next, ended, due || (C && pn)⟩ := by
          have h2 : ack2 ⟨out, base, closed, done, inn, next, ended, due⟩ ack = ⟨o1, b1, closed, dn, inn, next, ended, due⟩ := by
            unfold ack2
            rw [hdn, ← HFF.out, ← HO1.out, ← HBB.out]
            unfold ack1
            rfl
          unfold ackE
          rw [h2, hpn, ← hCC]
        have hend : ∀ (w3 w' : World) (due' : Bool), due' = (due || (C && pn)) → Only Nil wc w3 → (∀ S : Nat → Prop, (∀ x, w.heap.size ≤ x → x < w.heap.size + 2 → S x) → Only S w3 w') →
            AckPost l ⟨out, base, closed, done, inn, next, ended, due⟩ base0 ack w (.returned (.agg #[.slice A2 o1.length c2, .int .i64 b1, .bool closed, .bool dn, .slice l.Ai inn.length l.ci, .int .i64 next, .bool ended, .bool due'])) w' := by
          intro w3 w' due' hd hO3 hS
          have hOS := hS (fun x => x = w.heap.size ∨ x = w.heap.size + 1) (fun x h1 h2 => by omega)
          have g3 := own_onlyNil gown hO3
          have gb03 := gb0.onlyNil hO3
          have gb13 := gb1.onlyNil hO3
          unfold AckPost
          rw [hA]
          refine ⟨A2, c2, by rw [hd], gco, own_only g3 hOS (fun q hq hx => ?_), gsep, ?_⟩
          · rcases hx with hx | hx
            · exact own_blk_ne g3 gb03 (by decide) (by rw [hq, hx])
            · exact own_blk_ne g3 gb13 (by decide) (by rw [hq, hx])
          · exact (gO.thenNil hO3).trans hOS (fun x hx => .inr (by omega))
        have k0 : ∀ i, wc.cell? ⟨w.heap.size, i, none⟩ = #[Value.slice A2 o1.length c2, .int .i64 b1, .bool closed, .bool dn, .slice l.Ai inn.length l.ci, .int .i64 next, .bool ended, .bool due][i]? := fun i => gb0.cell i
        have f0 : ∀ i, wc.frozen? ⟨w.heap.size, i, none⟩ = false := fun i => gb0.frozen i
        have k1 : ∀ i, wc.cell? ⟨w.heap.size + 1, i, none⟩ = #[Value.slice none 0 0, .int .i64 0, .bool false, .bool false, .slice none 0 0, .int .i64 0, .bool false, .bool false][i]? := fun i => gb1.cell i
        have f1 : ∀ i, wc.frozen? ⟨w.heap.size + 1, i, none⟩ = false := fun i => gb1.frozen i
        have HP := Lib.hid hP
        have HE := Lib.hid hend
        have HG0 := Lib.hid gb0
        have HG1 := Lib.hid gb1
        clear hP hend gb0 gb1 gown gsep gO hA hpn hCC hdn
        cases due
        · cases C
          · go_wp2_with fail
            refine bodyPost_ret (v := .agg #[.slice A2 o1.length c2, .int .i64 b1, .bool closed, .bool dn, .slice l.Ai inn.length l.ci, .int .i64 next, .bool ended, .bool false]) (by simp [results, Try.results34, go_sem, k1]) rfl ?_
            refine HE.out _ _ _ rfl (Only.refl _ _) fun S s0 => ?_
            (repeat' (first | with_reducible exact Only.refl _ _ | with_reducible refine Only.setCell ?_ (Or.inl ?_) _ | with_reducible refine Only.drewN ?_ _ | with_reducible refine Only.drew ?_ | with_reducible refine Only.alloc ?_ _ | (exact s0 _ (by simp) (by simp))))
          · go_wp2_with fail
            refine (HP.out _).mono ?_
            rintro x w3 ⟨rfl, hO3⟩
            have j0 : ∀ i, w3.cell? ⟨w.heap.size, i, none⟩ = #[Value.slice A2 o1.length c2, .int .i64 b1, .bool closed, .bool dn, .slice l.Ai inn.length l.ci, .int .i64 next, .bool ended, .bool false][i]? := fun i => (HG0.out.onlyNil hO3).cell i
            have g0 : ∀ i, w3.frozen? ⟨w.heap.size, i, none⟩ = false := fun i => (HG0.out.onlyNil hO3).frozen i
            have j1 : ∀ i, w3.cell? ⟨w.heap.size + 1, i, none⟩ = #[Value.slice none 0 0, .int .i64 0, .bool false, .bool false, .slice none 0 0, .int .i64 0, .bool false, .bool false][i]? := fun i => (HG1.out.onlyNil hO3).cell i
            have g1 : ∀ i, w3.frozen? ⟨w.heap.size + 1, i, none⟩ = false := fun i => (HG1.out.onlyNil hO3).frozen i
            go_wp2_with fail
            refine bodyPost_ret (v := .agg #[.slice A2 o1.length c2, .int .i64 b1, .bool closed, .bool dn, .slice l.Ai inn.length l.ci, .int .i64 next, .bool ended, .bool pn]) (by simp [results, Try.results34, go_sem, j1]) rfl ?_
            refine HE.out w3 _ _ rfl hO3 fun S s0 => ?_
            (repeat' (first | with_reducible exact Only.refl _ _ | with_reducible refine Only.setCell ?_ (Or.inl ?_) _ | with_reducible refine Only.drewN ?_ _ | with_reducible refine Only.drew ?_ | with_reducible refine Only.alloc ?_ _ | (exact s0 _ (by simp) (by simp))))
        · go_wp2_with fail
          refine bodyPost_ret (v := .agg #[.slice A2 o1.length c2, .int .i64 b1, .bool closed, .bool dn, .slice l.Ai inn.length l.ci, .int .i64 next, .bool ended, .bool true]) (by simp [results, Try.results34, go_sem, k1]) rfl ?_
          refine HE.out _ _ _ (by simp) (Only.refl _ _) fun S s0 => ?_
          (repeat' (first | with_reducible exact Only.refl _ _ | with_reducible refine Only.setCell ?_ (Or.inl ?_) _ | with_reducible refine Only.drewN ?_ _ | with_reducible refine Only.drew ?_ | with_reducible refine Only.alloc ?_ _ | (exact s0 _ (by simp) (by simp))))

end Go.Proofs.Ytfichoekjjcjiaa
