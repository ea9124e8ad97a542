/-
  The law StreamTwice: receiving a packet a second time directly behind the first time changes nothing.
  No conditions.
-/
import Derived.Test.YtfichoekjjcjiaaStA
import Derived.Test.YtfichoekjjcjiaaStB
import Derived.Test.YtfichoekjjcjiaaStR1
import Derived.Test.YtfichoekjjcjiaaStQ1
namespace Go.Proofs.Ytfichoekjjcjiaa
open Go.ChangeShapes Go.WideShapes Go.ChangeAt Go.RowKit

/-- The boxes of the arguments of a law: an end and a packet. -/
structure BoxesL (w w2 : World) (l : Loc) (e : E) (A : Option Addr) (c : Nat) (p : Pk) : Prop where
  only : Only Nil w w2
  b0 : Blk w2 w.heap.size 24 (earr l e)
  b1 : Blk w2 (w.heap.size + 1) 26 (parr A c p)
theorem BoxesL.mk2 (w : World) (l : Loc) (e : E) (A : Option Addr) (c : Nat) (p : Pk) : BoxesL w ((w.alloc (.cells (ecells l e).toArray 24)).alloc (.cells (pcells A c p).toArray 26)) l e A c p :=
  ⟨((Only.refl _ _).alloc _).alloc _, (Blk.new w _ _).alloc _, by
    have := Blk.new (w.alloc (.cells (ecells l e).toArray 24)) 26 (pcells A c p).toArray
    rw [World.size_alloc] at this
    exact this⟩

namespace streamTwice
set_option maxRecDepth 100000 in
set_option maxHeartbeats 2000000 in
theorem walk (l : Loc) (e : E) (A : Option Addr) (c : Nat) (p : Pk) (w : World) (h : EB w w.heap.size l e) (hp : PB w w.heap.size A c p) :
    Calls Try.prog 3 #[.agg (ecells l e).toArray, .agg (pcells A c p).toArray] w (LawPost w) := by
  obtain ⟨w2, hw2⟩ : ∃ w2, w2 = (w.alloc (.cells (ecells l e).toArray 24)).alloc (.cells (pcells A c p).toArray 26) := ⟨_, rfl⟩
  have hbx := BoxesL.mk2 w l e A c p
  rw [← hw2] at hbx
  have HX := Lib.hid hbx
  have HB := Lib.hid h
  have HP := Lib.hid hp
  clear hbx h hp
  obtain ⟨a, n, han⟩ : ∃ a n, recvE e p = (a, n) := ⟨_, _, rfl⟩
  have HAN := Lib.hid han
  have hF := few_any l e
  have hR := fun w' h => receive_any l e A c p w' h
  clear han
  obtain ⟨out, base, closed, done, inn, next, ended, due⟩ := e
  obtain ⟨pair, side, seq, ack, fin, data⟩ := p
  unfold ecells pcells at hw2 ⊢
  unfold ecells at hF
  dsimp only at hw2 hF ⊢
  obtain ⟨fw, hfw⟩ : ∃ r, few ⟨out, base, closed, done, inn, next, ended, due⟩ = r := ⟨_, rfl⟩
  rw [hfw] at hF
  have HF := Lib.hid hF
  have HR := Lib.hid hR
  clear hF hR hfw
  go_enter Try.func3, Try.ntmps3
  go_wp2_with fail
  refine (awake_any _).mono ?_
  rintro x w3 ⟨rfl, hO3⟩
  have HO3 : Hid (Only Nil w2 w3) := Lib.hid (by rw [hw2]; exact hO3)
  have k0 : ∀ i, w3.cell? ⟨w.heap.size, i, none⟩ = #[Value.slice l.Ao out.length l.co, .int .i64 base, .bool closed, .bool done, .slice l.Ai inn.length l.ci, .int .i64 next, .bool ended, .bool due][i]? := fun i => (HX.out.b0.onlyNil HO3.out).cell i
  have k1 : ∀ i, w3.cell? ⟨w.heap.size + 1, i, none⟩ = #[Value.int .i64 pair, .int .i64 side, .int .i64 seq, .int .i64 ack, .bool fin, .slice A data.length c][i]? := fun i => (HX.out.b1.onlyNil HO3.out).cell i
  clear hO3
  go_wp2_with fail
  refine (HF.out _).mono ?_
  rintro x w4 ⟨rfl, hO4⟩
  have HO4 := Lib.hid (HO3.out.thenNil hO4)
  have k04 : ∀ i, w4.cell? ⟨w.heap.size, i, none⟩ = #[Value.slice l.Ao out.length l.co, .int .i64 base, .bool closed, .bool done, .slice l.Ai inn.length l.ci, .int .i64 next, .bool ended, .bool due][i]? := fun i => (HX.out.b0.onlyNil HO4.out).cell i
  have k14 : ∀ i, w4.cell? ⟨w.heap.size + 1, i, none⟩ = #[Value.int .i64 pair, .int .i64 side, .int .i64 seq, .int .i64 ack, .bool fin, .slice A data.length c][i]? := fun i => (HX.out.b1.onlyNil HO4.out).cell i
  clear hO4 k0 k1
  cases fw
  · go_wp2_with fail
    go_ret
    exact ⟨rfl, HX.out.only.thenNil HO4.out⟩
  by_cases hd : (200 : Int) < data.length
  · go_wp2_with fail
    go_ret
    exact ⟨rfl, HX.out.only.thenNil HO4.out⟩
  go_upto_region 5 with fail
  go_cut [5, 6] (fun pa v wc => ∃ g, pa = .pointer (some ⟨g, 0, none⟩) ∧ v = .int .i64 n ∧ w.heap.size + 1 < g ∧ EBox 29 wc g a ∧ Only Nil w2 wc)
  case first =>
    go_wp2_with fail
    refine (HR.out _ (HB.out.next (HX.out.only.thenNil HO4.out)) (HP.out.next (HX.out.only.thenNil HO4.out))).mono ?_
    rw [HAN.out]
    rintro x w5 ⟨l5, rfl, hE5, hO5⟩
    go_wp2_with fail
    go_meet
    case rel => exact ⟨w5.heap.size, rfl, rfl, ((HX.out.b1.onlyNil HO4.out).onlyNil hO5).lt, EBox.new _ hE5, (HO4.out.thenNil hO5).alloc _⟩
  case rest =>
    obtain ⟨g, rfl, rfl, hg, hEa, hO6⟩ := hcut
    obtain ⟨la, hba, hla⟩ := hEa
    have HBA := Lib.hid hba
    have HLA := Lib.hid hla
    have HO6 := Lib.hid hO6
    obtain ⟨aout, abase, aclosed, adone, ainn, anext, aended, adue⟩ := a
    have ka : ∀ i, wc.cell? ⟨g, i, none⟩ = #[Value.slice la.Ao aout.length la.co, .int .i64 abase, .bool aclosed, .bool adone, .slice la.Ai ainn.length la.ci, .int .i64 anext, .bool aended, .bool adue][i]? := fun i => hba.cell i
    have kp6 : ∀ i, wc.cell? ⟨w.heap.size + 1, i, none⟩ = #[Value.int .i64 pair, .int .i64 side, .int .i64 seq, .int .i64 ack, .bool fin, .slice A data.length c][i]? := fun i => (HX.out.b1.onlyNil HO6.out).cell i
    clear hba hla hO6 k04 k14
    rcases recv_err HAN.out with rfl | rfl | rfl
    · go_upto_region 8 with fail
      go_cut [7, 8] (fun pb v wd => ∃ b, pb = .pointer (some ⟨b, 0, none⟩) ∧ v = .int .i64 0 ∧ EBox 29 wd b ⟨aout, abase, aclosed, adone, ainn, anext, aended, adue⟩ ∧ Only Nil wc wd)
      case first =>
        go_wp2_with fail
        refine (receive_any la ⟨aout, abase, aclosed, adone, ainn, anext, aended, adue⟩ A c ⟨pair, side, seq, ack, fin, data⟩ _ HLA.out (HP.out.next (HX.out.only.thenNil HO6.out))).mono ?_
        rw [recv_twice HAN.out]
        rintro x w7 ⟨l7, rfl, hE7, hO7⟩
        go_wp2_with fail
        go_meet
        case rel => exact ⟨w7.heap.size, rfl, rfl, EBox.new _ hE7, hO7.alloc _⟩
      case rest =>
        obtain ⟨b, rfl, rfl, hEb, hO8⟩ := hcut
        obtain ⟨lb, hbb, hlb⟩ := hEb
        have HLB := Lib.hid hlb
        have HO8 := Lib.hid hO8
        have kb : ∀ i, wc.cell? ⟨b, i, none⟩ = #[Value.slice lb.Ao aout.length lb.co, .int .i64 abase, .bool aclosed, .bool adone, .slice lb.Ai ainn.length lb.ci, .int .i64 anext, .bool aended, .bool adue][i]? := fun i => hbb.cell i
        have ka8 : ∀ i, wc.cell? ⟨g, i, none⟩ = #[Value.slice la.Ao aout.length la.co, .int .i64 abase, .bool aclosed, .bool adone, .slice la.Ai ainn.length la.ci, .int .i64 anext, .bool aended, .bool adue][i]? := fun i => (HBA.out.onlyNil HO8.out).cell i
        clear hbb hlb hO8 ka kp6
        go_wp2_with fail
        refine (equal_any la lb ⟨aout, abase, aclosed, adone, ainn, anext, aended, adue⟩ ⟨aout, abase, aclosed, adone, ainn, anext, aended, adue⟩ _ (HLA.out.next HO8.out) HLB.out).mono ?_
        rintro x w9 ⟨r, rfl, hr, hO9⟩
        obtain rfl : r = true := hr.2 rfl
        go_wp2_with fail
        go_ret
        exact ⟨rfl, ((HX.out.only.thenNil HO6.out).thenNil HO8.out).thenNil hO9⟩
    · go_wp2_with fail
      refine (equal_any la nowhere ⟨aout, abase, aclosed, adone, ainn, anext, aended, adue⟩ zE _ HLA.out (EB.zero _ _)).mono ?_
      rintro x w9 ⟨r, rfl, hr, hO9⟩
      obtain rfl : r = true := hr.2 (recv_no HAN.out (by decide))
      go_wp2_with fail
      go_ret
      exact ⟨rfl, (HX.out.only.thenNil HO6.out).thenNil hO9⟩
    · go_wp2_with fail
      refine (equal_any la nowhere ⟨aout, abase, aclosed, adone, ainn, anext, aended, adue⟩ zE _ HLA.out (EB.zero _ _)).mono ?_
      rintro x w9 ⟨r, rfl, hr, hO9⟩
      obtain rfl : r = true := hr.2 (recv_no HAN.out (by decide))
      go_wp2_with fail
      go_ret
      exact ⟨rfl, (HX.out.only.thenNil HO6.out).thenNil hO9⟩

set_option maxRecDepth 100000 in
theorem from_args {H : Type} {enc : TypeId × Value → H} (W : World) (base : Nat) (args : Array Value) (ds : List (DataW H)) (ps : List MemPlace)
    (hval0 : ∀ (j : Nat) t v, Try.f3.params[j]? = some t → args[j]? = some v → Value.okWide Try.prog W .any base t v)
    (hA : DataW.TrodAll enc Try.prog W 0 (fun _ => true) true Try.f3.params.toList args.toList ds ps) (_hlt : ∀ x ∈ ps, x.block < W.heap.size)
    (hsz : (DataW.weightsEach Try.prog Try.f3.params.toList ds).all (· ≤ reachBytes) = true) : Calls Try.prog 3 args W (LawPost W) := by
  have hval := hval0
  rw [Try.params3] at hA hval hsz
  obtain ⟨v0, vs0, d0, ds0, p0, q0, hargs, rfl, rfl, h0, r0⟩ := trodAll_cons hA
  obtain ⟨v1, vs1, d1, ds1, p1, q1, rfl, rfl, rfl, h1, r1⟩ := trodAll_cons r0
  obtain ⟨rfl, rfl, rfl⟩ := trodAll_nil r1
  obtain rfl : args = #[v0, v1] := by cases args; simp_all
  obtain ⟨l, e, rfl, hE⟩ := open_end (hval 0 _ v0 rfl rfl) h0
  obtain ⟨A, c, p, rfl, hP⟩ := open_pk (hval 1 _ v1 rfl rfl) h1
  exact walk l e A c p W hE hP

set_option maxRecDepth 100000 in
theorem over : Rows.streamTwiceRow.holds Try.pinned (OpenSpec.ofChange Rows.streamTwiceSpec) :=
  OpenClaim.holds_of_wide 3 Try.f3 rfl rfl rfl rfl rfl rfl rfl ⟨rfl, rfl, rfl, rfl, rfl⟩ rfl rfl rfl rfl rfl (by kernel_rfl) Try.func3 (by kernel_rfl)
    (of_decide_eq_true (by kernel_rfl)) (by unfold Func.isWrapper; first | (rw [if_pos (by decide +kernel)]; kernel_rfl) | (rw [if_neg (by decide +kernel)]; exact ⟨rfl, rfl⟩))
    (fun os started H enc _ => law_lifted (f := 3) (F := Try.f3) (s := Rows.streamTwiceSpec) os started H enc (by kernel_rfl) Try.func3 rfl rfl (by kernel_rfl) (by kernel_rfl)
      (fun ds hd => by match ds, hd with | [_, _], _ => rfl)
      (ChangeSpec.witness6 (enc := enc) (C := Try.checked) false ⟨#[], #[.agg #[.slice none 0 0, .int .i64 0, .bool false, .bool false, .slice none 0 0, .int .i64 0, .bool false, .bool false], .agg #[.int .i64 0, .int .i64 0, .int .i64 0, .int .i64 0, .bool false, .slice none 0 0]], []⟩ 8 (by kernel_rfl) (by kernel_rfl) (by kernel_rfl) (by kernel_rfl))
      (fun W base args ds ps hv hA hlt hsz => from_args W base args ds ps hv hA hlt hsz))

/-- The statement. -/
theorem proved : Rows.StreamTwiceSaid := over

end streamTwice
end Go.Proofs.Ytfichoekjjcjiaa
