/-
  Walks of ref43: acknowledged.
  Conditions: the end is valid.
-/
import Derived.Test.YtfichoekjjcjiaaStR5
import Derived.Test.YtfichoekjjcjiaaStW6
namespace Go.Proofs.Ytfichoekjjcjiaa
open Go.RowKit
namespace Ref

/-- What ref43.acknowledged answers: of Out the beginning is cut off, In is the same. -/
def AckPost (l : Loc) (e : E) (ack : Int) (w : World) (x : Ending) (w' : World) : Prop :=
  ∃ (Ax : Option Addr) (cx : Nat), x = .returned (.agg #[.slice Ax (ackE e ack).out.length cx, .int .i64 (ackE e ack).base, .bool (ackE e ack).closed, .bool (ackE e ack).done, .slice l.Ai e.inn.length l.ci, .int .i64 (ackE e ack).next, .bool (ackE e ack).ended, .bool (ackE e ack).due]) ∧
    (ackE e ack).out.length ≤ cx ∧ (∀ (u : World) (B : Nat), Bs u B l.Ao e.out → Bs u B Ax (ackE e ack).out) ∧ Only Nil w w'

set_option maxRecDepth 100000 in
set_option maxHeartbeats 2000000 in
theorem ack_any (l : Loc) (e : E) (ack : Int) (w : World) (hco : e.out.length ≤ l.co) (hv : VE e) (ha : 0 ≤ ack ∧ ack ≤ 1099511627776) :
    Calls Try.prog 39 #[.agg (ecells l e).toArray, .int .i64 ack] w (AckPost l e ack w) := by
  obtain ⟨out, base, closed, done, inn, next, ended, due⟩ := e
  have hbx := Boxes.mk2 w l ⟨out, base, closed, done, inn, next, ended, due⟩
  obtain ⟨w2, hw2⟩ : ∃ w2, w2 = (w.alloc (.cells (ecells l ⟨out, base, closed, done, inn, next, ended, due⟩).toArray 24)).alloc (.cells (ecells nowhere zE).toArray 24) := ⟨_, rfl⟩
  rw [← hw2] at hbx
  have hv1 := hv.1
  have hv3 := hv.2.2.1
  clear hv
  dsimp only at hv1 hv3 hco
  have HX := Lib.hid hbx
  clear hbx
  unfold ecells at hw2 ⊢
  unfold nowhere zE at hw2
  dsimp only [List.length_nil] at hw2 ⊢
  go_enter Try.func39, Try.ntmps39
  go_upto_region 1 with fail
  rw [← hw2]
  clear hw2
  have k0 := HX.out.onlyNil (Only.refl _ w2)
  have f0 := HX.out.fr0 (Only.refl _ w2)
  have k1 := HX.out.res (Only.refl _ w2)
  have f1 := HX.out.fr1 (Only.refl _ w2)
  dsimp only at k0
  by_cases hle : ack ≤ base
  · have hN : ackN ⟨out, base, closed, done, inn, next, ended, due⟩ ack = 0 := by unfold ackN; dsimp only; rw [if_neg (by omega)]
    have h1 : ack1 ⟨out, base, closed, done, inn, next, ended, due⟩ ack = ⟨out, base, closed, done, inn, next, ended, due⟩ := by unfold ack1; rw [hN]; simp
    have hF : ackF ⟨out, base, closed, done, inn, next, ended, due⟩ ack = false := by
      unfold ackF
      rw [h1]
      dsimp only
      rw [decide_eq_false (show ¬ ack = base + 1 by omega), Bool.and_false]
    have hE : ackE ⟨out, base, closed, done, inn, next, ended, due⟩ ack = ⟨out, base, closed, done, inn, next, ended, due⟩ := by
      unfold ackE ack2 ackC
      rw [h1, hF, hN]
      simp
    have hfin : ∀ w', Only (One (w.heap.size + 1)) w2 w' → AckPost l ⟨out, base, closed, done, inn, next, ended, due⟩ ack w (.returned (.agg #[.slice l.Ao out.length l.co, .int .i64 base, .bool closed, .bool done, .slice l.Ai inn.length l.ci, .int .i64 next, .bool ended, .bool due])) w' := fun w' hO => by
      unfold AckPost
      rw [hE]
      exact ⟨l.Ao, l.co, rfl, hco, fun u B h => h, HX.out.only.trans hO (fun x hx => .inr (by unfold One at hx; omega))⟩
    have HFIN := Lib.hid hfin
    clear hfin hE hF h1 hN
    go_wp2_with fail
    refine bodyPost_ret (v := .agg #[.slice l.Ao out.length l.co, .int .i64 base, .bool closed, .bool done, .slice l.Ai inn.length l.ci, .int .i64 next, .bool ended, .bool due]) (by simp [results, Try.results39, go_sem, k1]) rfl ?_
    refine HFIN.out _ ?_
    (repeat' (first | with_reducible exact Only.refl _ _ | with_reducible refine Only.setCell ?_ (Or.inl ?_) _ | with_reducible refine Only.drewN ?_ _ | with_reducible refine Only.drew ?_ | with_reducible refine Only.alloc ?_ _ | (exact rfl)))
  have hlt : base < ack := by omega
  obtain ⟨K, hK⟩ : ∃ K, ackN ⟨out, base, closed, done, inn, next, ended, due⟩ ack = K := ⟨_, rfl⟩
  have hKm : K = min (ack - base).toNat out.length := by rw [← hK]; unfold ackN; dsimp only; rw [if_pos hlt]
  have HKN := Lib.hid hK
  have hKl : K ≤ out.length := by omega
  have hKi : (K : Int) ≤ out.length := by omega
  have hKc : (out.length : Int) ≤ l.co := by omega
  have hKk : (K : Int) ≤ l.co := by omega
  have hwr : IntKind.i64.wrap (ack - base) = ack - base := IntWalk.i64_in _ (by omega)
  have hwr2 : IntKind.i64.wrap (base + K) = base + K := IntWalk.i64_in _ (by omega)
  obtain ⟨Ax, hAx⟩ : ∃ Ax, (if l.co = K then l.Ao else Option.map (fun x => x.add K) l.Ao) = Ax := ⟨_, rfl⟩
  obtain ⟨cx, hcx⟩ : ∃ cx, l.co - K = cx := ⟨_, rfl⟩
  obtain ⟨o1, ho1⟩ : ∃ o1, o1 = out.drop K := ⟨_, rfl⟩
  obtain ⟨b1, hb1⟩ : ∃ b1, base + (K : Int) = b1 := ⟨_, rfl⟩
  obtain ⟨ch, hch⟩ : ∃ ch, decide (0 < K) = ch := ⟨_, rfl⟩
  obtain ⟨L1, hL1⟩ : ∃ L1, out.length - K = L1 := ⟨_, rfl⟩
  have hol : o1.length = L1 := by rw [ho1, List.length_drop, hL1]
  have hlx : o1.length ≤ cx := by omega
  have hrd : ∀ (u : World) (B : Nat), Bs u B l.Ao out → Bs u B Ax o1 := fun u B h => by
    have := h.cut hKl hco
    rw [hAx, ← ho1] at this
    exact this
  have h1 : ack1 ⟨out, base, closed, done, inn, next, ended, due⟩ ack = ⟨o1, b1, closed, done, inn, next, ended, due⟩ := by unfold ack1; rw [hK, ho1, ← hb1]
  have hF : ackF ⟨out, base, closed, done, inn, next, ended, due⟩ ack = (closed && !done && decide (o1.length = 0) && decide (ack = b1 + 1)) := by unfold ackF; rw [h1]
  have hC : ackC ⟨out, base, closed, done, inn, next, ended, due⟩ ack = (ch || ackF ⟨out, base, closed, done, inn, next, ended, due⟩ ack) := by unfold ackC; rw [hK, hch]
  have hb1b : 0 ≤ b1 ∧ b1 ≤ 1099511627776 + 128 := by omega
  have hwr3 : IntKind.i64.wrap (b1 + 1) = b1 + 1 := IntWalk.i64_in _ (by omega)
  rw [hb1] at hwr2
  obtain ⟨F, hFF⟩ : ∃ F, ackF ⟨out, base, closed, done, inn, next, ended, due⟩ ack = F := ⟨_, rfl⟩
  rw [hFF] at hF hC
  have H1 := Lib.hid h1
  have HF := Lib.hid hF
  have HFF := Lib.hid hFF
  have HC := Lib.hid hC
  have HRD := Lib.hid hrd
  have HOL := Lib.hid hol
  have HLX := Lib.hid hlx
  have HKM := Lib.hid hKm
  have HCH := Lib.hid hch
  have HWR2 : Hid (IntKind.i64.wrap (base + (K : Int)) = b1) := Lib.hid (by rw [hb1]; exact hwr2)
  have HWR3 := Lib.hid hwr3
  have HAX := Lib.hid hAx
  have HCX := Lib.hid hcx
  have HL1 := Lib.hid hL1
  clear h1 hF hFF hC hrd hol hlx hKm hch hwr2 hwr3 hAx hcx hL1 ho1 hb1
  go_upto_region 3 with fail
  go_cut [5] (fun v wd => v = .int .i64 K ∧ wd = w2)
  case first =>
    by_cases hmm : ack - base ≤ out.length
    · have hKK : (K : Int) = ack - base := by have := HKM.out; omega
      have HKK := Lib.hid hKK
      clear hKK
      go_wp2_with fail
      go_meet
      case rel => exact ⟨by rw [HKK.out], rfl⟩
    · have hKK : K = out.length := by have := HKM.out; omega
      have HKK := Lib.hid hKK
      clear hKK
      go_wp2_with fail
      go_meet
      case rel => exact ⟨by rw [HKK.out], rfl⟩
  case rest =>
    obtain ⟨rfl, rfl⟩ := hcut
    go_upto_region 4 with fail
    go_cut [6] (fun v wd => v = .bool ch ∧ wd = wc)
    case first =>
      have hch := HCH.out
      have hchi : decide ((0 : Int) < (K : Int)) = ch := by
        rw [← HCH.out, decide_eq_decide]
        omega
      go_wp2_with fail
      go_meet
      case rel => exact ⟨by first | rfl | simp, rfl⟩
    case rest =>
    obtain ⟨rfl, rfl⟩ := hcut
    have hwr2 := HWR2.out
    have hAx := HAX.out
    have hcx := HCX.out
    have hL1 := HL1.out
    go_upto_region 6 with fail
    go_cut [] (fun wd => Blk wd w.heap.size 24 #[.slice Ax o1.length cx, .int .i64 b1, .bool closed, .bool done, .slice l.Ai inn.length l.ci, .int .i64 next, .bool ended, .bool due] ∧ Blk wd (w.heap.size + 1) 24 (ecells nowhere zE).toArray ∧ Only (One w.heap.size) wc wd)
    case first =>
      go_wp2_with fail
      go_meet
      case rel =>
        refine ⟨?_, ?_, ?_⟩
        · rw [HOL.out]; exact (HX.out.b0.set_ 0 _).set_ 1 _
        · exact Blk.only (S := One w.heap.size) HX.out.b1 (by (repeat' (first | with_reducible exact Only.refl _ _ | with_reducible refine Only.setCell ?_ (Or.inl ?_) _ | with_reducible refine Only.drewN ?_ _ | with_reducible refine Only.drew ?_ | with_reducible refine Only.alloc ?_ _ | (exact rfl)))) (by unfold One; omega)
        · (repeat' (first | with_reducible exact Only.refl _ _ | with_reducible refine Only.setCell ?_ (Or.inl ?_) _ | with_reducible refine Only.drewN ?_ _ | with_reducible refine Only.drew ?_ | with_reducible refine Only.alloc ?_ _ | (exact rfl)))
    case rest =>
      obtain ⟨hb0, hb1, hO⟩ := hcut
      clear hwr2 hAx hcx hL1
      have HB0 := Lib.hid hb0
      have HB1 := Lib.hid hb1
      have HO := Lib.hid (HX.out.only.trans hO (fun x hx => .inr (Nat.le_of_eq hx.symm)))
      clear k0 f0 k1 f1
      have k0 : ∀ i, wc.cell? ⟨w.heap.size, i, none⟩ = #[Value.slice Ax o1.length cx, .int .i64 b1, .bool closed, .bool done, .slice l.Ai inn.length l.ci, .int .i64 next, .bool ended, .bool due][i]? := fun i => hb0.cell i
      have f0 : ∀ i, wc.frozen? ⟨w.heap.size, i, none⟩ = false := fun i => hb0.frozen i
      clear hb0 hb1 hO hKi hKc hKk hwr hlt hle hKl
      have hwr3 := HWR3.out
      go_upto_region 7 with fail
      go_cut [51] (fun f wd => f = .bool F ∧ wd = wc)
      case first =>
        cases closed
        · have hF : F = false := by rw [HF.out]; rfl
          have HFx := Lib.hid hF
          clear hF
          go_wp2_with fail
          go_meet
          case rel => exact ⟨by rw [HFx.out], rfl⟩
        cases done
        rotate_left
        · have hF : F = false := by rw [HF.out]; rfl
          have HFx := Lib.hid hF
          clear hF
          go_wp2_with fail
          go_meet
          case rel => exact ⟨by rw [HFx.out], rfl⟩
        by_cases hz : o1.length = 0
        rotate_left
        · have hF : F = false := by rw [HF.out, decide_eq_false hz]; rfl
          have HFx := Lib.hid hF
          clear hF
          have hz' : ((o1.length : Int) == 0) = false := by rw [beq_eq_false_iff_ne]; omega
          go_wp2_with fail
          go_meet
          case rel => exact ⟨by rw [HFx.out], rfl⟩
        have hz' : ((o1.length : Int) == 0) = true := by rw [beq_iff_eq]; omega
        have hF : F = (ack == b1 + 1) := by
          rw [HF.out, decide_eq_true hz]
          by_cases ha1 : ack = b1 + 1
          · rw [decide_eq_true ha1, beq_iff_eq.2 ha1]; rfl
          · rw [decide_eq_false ha1, beq_eq_false_iff_ne.2 ha1]; rfl
        have HFx := Lib.hid hF
        clear hF hz
        go_wp2_with fail
        go_meet
        case rel => exact ⟨by rw [HFx.out], rfl⟩
      case rest =>
        obtain ⟨rfl, rfl⟩ := hcut
        obtain ⟨dn, hdn⟩ : ∃ dn, dn = (done || F) := ⟨_, rfl⟩
        obtain ⟨C, hCC⟩ : ∃ C, C = (ch || F) := ⟨_, rfl⟩
        have HDN := Lib.hid hdn
        have HCC := Lib.hid hCC
        clear hdn hCC
        go_upto_if 51 with fail
        go_cut [6] (fun v wd => v = .bool C ∧ Blk wd w.heap.size 24 #[.slice Ax o1.length cx, .int .i64 b1, .bool closed, .bool dn, .slice l.Ai inn.length l.ci, .int .i64 next, .bool ended, .bool due] ∧ Blk wd (w.heap.size + 1) 24 (ecells nowhere zE).toArray ∧ Only Nil w wd)
        case first =>
          cases F
          · go_wp2_with fail
            go_meet
            case rel =>
              refine ⟨by rw [HCC.out, Bool.or_false], ?_, HB1.out, HO.out⟩
              rw [HDN.out, Bool.or_false]; exact HB0.out
          · go_wp2_with fail
            go_meet
            case rel =>
              refine ⟨by rw [HCC.out, Bool.or_true], ?_, ?_, ?_⟩
              · rw [HDN.out, Bool.or_true]; exact HB0.out.set_ 3 _
              · exact Blk.only (S := One w.heap.size) HB1.out (by (repeat' (first | with_reducible exact Only.refl _ _ | with_reducible refine Only.setCell ?_ (Or.inl ?_) _ | with_reducible refine Only.drewN ?_ _ | with_reducible refine Only.drew ?_ | with_reducible refine Only.alloc ?_ _ | (exact rfl)))) (by unfold One; omega)
              · exact HO.out.trans (S' := One w.heap.size) (by (repeat' (first | with_reducible exact Only.refl _ _ | with_reducible refine Only.setCell ?_ (Or.inl ?_) _ | with_reducible refine Only.drewN ?_ _ | with_reducible refine Only.drew ?_ | with_reducible refine Only.alloc ?_ _ | (exact rfl)))) (fun x hx => .inr (by unfold One at hx; omega))
        case rest =>
          obtain ⟨rfl, gb0, gb1, gO⟩ := hcut
          clear k0 f0
          have k0 : ∀ i, wc.cell? ⟨w.heap.size, i, none⟩ = #[Value.slice Ax o1.length cx, .int .i64 b1, .bool closed, .bool dn, .slice l.Ai inn.length l.ci, .int .i64 next, .bool ended, .bool due][i]? := fun i => gb0.cell i
          have f0 : ∀ i, wc.frozen? ⟨w.heap.size, i, none⟩ = false := fun i => gb0.frozen i
          have k1 : ∀ i, wc.cell? ⟨w.heap.size + 1, i, none⟩ = #[Value.slice none 0 0, .int .i64 0, .bool false, .bool false, .slice none 0 0, .int .i64 0, .bool false, .bool false][i]? := fun i => gb1.cell i
          have f1 : ∀ i, wc.frozen? ⟨w.heap.size + 1, i, none⟩ = false := fun i => gb1.frozen i
          obtain ⟨pn, hpn⟩ : ∃ pn, pend ⟨o1, b1, closed, dn, inn, next, ended, due⟩ = pn := ⟨_, rfl⟩
          have hA : ackE ⟨out, base, closed, done, inn, next, ended, due⟩ ack = ⟨o1, b1, closed, dn, inn, next, ended, due || (C && pn)⟩ := by
            have h2 : ack2 ⟨out, base, closed, done, inn, next, ended, due⟩ ack = ⟨o1, b1, closed, dn, inn, next, ended, due⟩ := by
              unfold ack2
              rw [HDN.out, HFF.out, H1.out]
            unfold ackE
            rw [h2, hpn, HC.out, ← HCC.out]
          have hend : ∀ (w' : World) (due' : Bool), due' = (due || (C && pn)) → Only (fun x => x = w.heap.size ∨ x = w.heap.size + 1) wc w' →
              AckPost l ⟨out, base, closed, done, inn, next, ended, due⟩ ack w (.returned (.agg #[.slice Ax o1.length cx, .int .i64 b1, .bool closed, .bool dn, .slice l.Ai inn.length l.ci, .int .i64 next, .bool ended, .bool due'])) w' := by
            intro w' due' hd hOS
            unfold AckPost
            rw [hA]
            exact ⟨Ax, cx, by rw [hd], HLX.out, HRD.out, gO.trans hOS (fun x hx => .inr (by omega))⟩
          have HE := Lib.hid hend
          have HPN := Lib.hid hpn
          have HGB := Lib.hid gb0
          clear hend hA gb0 gb1 gO hpn
          go_upto_region 9 with fail
          go_cut [68] (fun f wd => f = .bool (C && pn) ∧ wd = wc)
          case first =>
            cases C
            · go_wp2_with fail
              go_meet
              case rel => exact ⟨rfl, rfl⟩
            by_cases hz : o1.length = 0
            · have hz' : ¬ 0 < o1.length := by omega
              have hz1 : decide (0 < o1.length) = false := decide_eq_false hz'
              have hp : pn = (closed && !dn) := by rw [← HPN.out]; unfold pend; dsimp only; rw [decide_eq_false (by omega), Bool.false_or]
              have HP := Lib.hid hp
              clear hp hz
              cases closed <;> cases dn
              all_goals
                go_wp2_with fail
                go_meet
                case rel => exact ⟨by rw [HP.out]; rfl, rfl⟩
            · have hz' : 0 < o1.length := by omega
              have hz1 : decide (0 < o1.length) = true := decide_eq_true hz'
              have hp : pn = true := by rw [← HPN.out]; unfold pend; dsimp only; rw [decide_eq_true (by omega), Bool.true_or]
              have HP := Lib.hid hp
              clear hp hz
              go_wp2_with fail
              go_meet
              case rel => exact ⟨by rw [HP.out]; rfl, rfl⟩
          case rest =>
            obtain ⟨rfl, rfl⟩ := hcut
            obtain ⟨D, hD⟩ : ∃ D, (C && pn) = D := ⟨_, rfl⟩
            rw [hD]
            have HDD := Lib.hid hD
            clear hD
            cases D
            · go_wp2_with fail
              refine bodyPost_ret (v := .agg #[.slice Ax o1.length cx, .int .i64 b1, .bool closed, .bool dn, .slice l.Ai inn.length l.ci, .int .i64 next, .bool ended, .bool due]) (by simp [results, Try.results39, go_sem, k1]) rfl ?_
              refine HE.out _ _ (by rw [HDD.out, Bool.or_false]) ?_
              (repeat' (first | with_reducible exact Only.refl _ _ | with_reducible refine Only.setCell ?_ (Or.inl ?_) _ | with_reducible refine Only.drewN ?_ _ | with_reducible refine Only.drew ?_ | with_reducible refine Only.alloc ?_ _ | (first | exact .inl rfl | exact .inr rfl)))
            · go_wp2_with fail
              refine bodyPost_ret (v := .agg #[.slice Ax o1.length cx, .int .i64 b1, .bool closed, .bool dn, .slice l.Ai inn.length l.ci, .int .i64 next, .bool ended, .bool true]) (by simp [results, Try.results39, go_sem, k1]) rfl ?_
              refine HE.out _ _ (by rw [HDD.out, Bool.or_true]) ?_
              (repeat' (first | with_reducible exact Only.refl _ _ | with_reducible refine Only.setCell ?_ (Or.inl ?_) _ | with_reducible refine Only.drewN ?_ _ | with_reducible refine Only.drew ?_ | with_reducible refine Only.alloc ?_ _ | (first | exact .inl rfl | exact .inr rfl)))

end Ref
end Go.Proofs.Ytfichoekjjcjiaa
