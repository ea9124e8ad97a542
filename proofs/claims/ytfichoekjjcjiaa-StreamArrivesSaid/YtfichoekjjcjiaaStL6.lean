/-
  The law StreamPrefix: what was read is a beginning of what was written.
  No conditions.
-/
import Derived.Test.YtfichoekjjcjiaaStL1
import Derived.Test.YtfichoekjjcjiaaStK7
import Derived.Test.YtfichoekjjcjiaaStK8
import Derived.Test.YtfichoekjjcjiaaStKC
namespace Go.Proofs.Ytfichoekjjcjiaa
open Go.ChangeShapes Go.WideShapes Go.ChangeAt Go.RowKit

theorem link_zero (w : World) : (zeroValue 68).run Try.prog w = .ok (.agg (larr 0 zSd ⟨nowhere, none, 0, []⟩ zSd ⟨nowhere, none, 0, []⟩ false)) w := by kernel_rfl
theorem LS.zero (w : World) (B0 : Nat) (hB : B0 ≤ w.heap.size) : LS (w.alloc (.cells (larr 0 zSd ⟨nowhere, none, 0, []⟩ zSd ⟨nowhere, none, 0, []⟩ false) 68)) B0 w.heap.size 0 0 zSd ⟨nowhere, none, 0, []⟩ zSd ⟨nowhere, none, 0, []⟩ := by
  have hs : Side (w.alloc (.cells (larr 0 zSd ⟨nowhere, none, 0, []⟩ zSd ⟨nowhere, none, 0, []⟩ false) 68)) B0 zSd ⟨nowhere, none, 0, []⟩ :=
    ⟨EB.zero _ _, World.ownsRow_nil _ _ _ _, fun q hq => (by cases hq), rfl, fun r hr => absurd hr List.not_mem_nil⟩
  exact ⟨⟨Blk.new _ _ _, hB, hs, hs, fun q hq => (by cases hq)⟩, Inv2.zero 0 1, Nat.le_refl _, Nat.le_refl _⟩
theorem LS.onlyNil {w w' : World} {B0 g k B : Nat} {x y : Sd} {sx sy : SC} (h : LS w B0 g k B x sx y sy) (hO : Only Nil w w') : LS w' B0 g k B x sx y sy := ⟨h.lk.onlyNil hO, h.inv, h.sx, h.sy⟩
theorem LS.more {w : World} {B0 g k k' B B' : Nat} {x y : Sd} {sx sy : SC} (h : LS w B0 g k B x sx y sy) (hk : k ≤ k') (hB : B ≤ B') : LS w B0 g k' B' x sx y sy := ⟨h.lk, h.inv.more hB, Nat.le_trans h.sx hk, Nat.le_trans h.sy hk⟩

namespace streamPrefix
set_option maxRecDepth 100000 in
set_option maxHeartbeats 8000000 in
theorem walk (A : Option Addr) (len cap : Nat) (xs : List AcR) (w : World) (hlen : xs.length = len) (hmax : len ≤ maxLen) (hR : Rd w w.heap.size 4 A len (xs.flatMap AcR.cells)) (hB : ∀ s ∈ xs, s.ok w) :
    Calls Try.prog 8 #[.slice A len cap] w (LawPost w) := by
  unfold maxLen at hmax
  have HR := Lib.hid hR
  have HL := Lib.hid hlen
  have HB := Lib.hid hB
  obtain ⟨Z, hZ⟩ : ∃ Z, larr 0 zSd ⟨nowhere, none, 0, []⟩ zSd ⟨nowhere, none, 0, []⟩ false = Z := ⟨_, rfl⟩
  have hz : ∀ u, (zeroValue 68).run Try.prog u = .ok (.agg Z) u := fun u => by rw [← hZ]; exact link_zero u
  have HZ := Lib.hid hZ
  clear hR hlen hB hZ
  go_enter Try.func8, Try.ntmps8
  go_wp2_with fail
  refine (awake_any _).mono ?_
  rintro e w1 ⟨rfl, hO1⟩
  have HO1 := Lib.hid hO1
  clear hO1
  rcases Nat.lt_or_ge 60 len with h60 | h60
  · have h61 : (60 : Int) < len := by omega
    go_wp2_with fail
    go_ret
    exact ⟨rfl, HO1.out⟩
  have h61 : ¬ (60 : Int) < len := by omega
  have h62 : ¬ 60 < len := by omega
  go_upto_region 5 with fail
  go_cut [3] (fun v wd => ∃ g, v = .pointer (some ⟨g, 0, none⟩) ∧ LS wd w.heap.size g 0 0 zSd ⟨nowhere, none, 0, []⟩ zSd ⟨nowhere, none, 0, []⟩ ∧ Only Nil w wd)
  case first =>
    go_wp2_with fail
    go_meet
    case rel =>
      exact ⟨_, rfl, by rw [← HZ.out]; exact LS.zero w1 _ HO1.out.size, HO1.out.alloc _⟩
  case rest =>
  obtain ⟨g, rfl, hS, hO2⟩ := hcut
  have HS := Lib.hid hS
  have HO2 := Lib.hid hO2
  clear hS hO2 hz
  go_wp2_with fail
  go_loopw [15] (fun i wr => ∃ (k : Nat) (x y : Sd) (sx sy : SC), k ≤ len ∧ i = .int .i64 k ∧ LS wr w.heap.size g k (200 * k) x sx y sy ∧ Only Nil w wr) (fun i _ => len - (intOf i).toNat)
  case atStart => exact ⟨0, zSd, zSd, _, _, Nat.zero_le _, rfl, HS.out, HO2.out⟩
  case round =>
    obtain ⟨k, x, y, sx, sy, hk, rfl, hS, hO⟩ := hrel
    obtain ⟨w3, rfl⟩ : ∃ w3, w3 = wr := ⟨_, rfl⟩
    have HS := Lib.hid hS
    have HO := Lib.hid hO
    clear hS hO
    rcases Nat.lt_or_ge k len with hlt | hge
    · obtain ⟨s, hs⟩ : ∃ s, xs[k]? = some s := ⟨xs[k]'(by rw [HL.out]; exact hlt), List.getElem?_eq_getElem _⟩
      obtain ⟨b, off, rfl, hbw, hc⟩ := (HR.out.onlyNil HO.out (Nat.le_refl _)).row AcR.cells_len hs (by omega)
      obtain ⟨hkd, hsd, hn8, hbs⟩ := HB.out s (List.mem_of_getElem? hs)
      obtain ⟨kd, sd, nn, Ad, cd, d⟩ := s
      have c0 : w3.cell? ⟨b, off + k * 4, none⟩ = some (.int .u8 kd) := hc 0 _ rfl
      have c1 : w3.cell? ⟨b, off + k * 4 + 1, none⟩ = some (.int .u8 sd) := hc 1 _ rfl
      have c2 : w3.cell? ⟨b, off + k * 4 + 2, none⟩ = some (.int .u8 nn) := hc 2 _ rfl
      have c3 : w3.cell? ⟨b, off + k * 4 + 3, none⟩ = some (.slice Ad d.length cd) := hc 3 _ rfl
      have HKD := Lib.hid hkd
      have HSD := Lib.hid hsd
      have HN8 := Lib.hid hn8
      have HBS := Lib.hid hbs
      dsimp only at HKD HSD HN8 HBS
      clear hs hc hkd hsd hn8 hbs
      rcases Nat.lt_or_ge 200 d.length with h2 | h2
      · have h2' : (200 : Int) < d.length := by omega
        go_wp2_with fail
        go_ret
        exact ⟨rfl, HO.out.alloc _⟩
      · have h2' : ¬ (200 : Int) < d.length := by omega
        have h2n : ¬ 200 < d.length := by omega
        go_wp2_with fail
        have hO4 : Only Nil w (w3.alloc (.cells #[.int .u8 kd, .int .u8 sd, .int .u8 (nn : Int), .slice Ad d.length cd] 70)) := HO.out.alloc _
        refine ((HS.out.onlyNil ((Only.refl _ _).alloc _)).act (by omega) (by omega) hO4.size kd sd nn Ad cd d nn HKD.out HSD.out rfl HN8.out ((HBS.out.onlyNil hO4 (Nat.le_refl _)).up hO4.size) h2).mono ?_
        rintro e w5 ⟨⟨v, rfl⟩, ⟨x', sx', y', sy', hS'⟩, hO5⟩
        have HS5 := Lib.hid hS'
        have HO5 := Lib.hid (hO4.trans hO5 (fun x hx => .inr hx))
        clear hS' hO5 hO4 c0 c1 c2 c3
        go_wp2_with fail
        refine (agree_any _ g x' y' sx' sy' w5 HS5.out.lk HS5.out.inv.xy.agree HS5.out.inv.yx.agree).mono ?_
        rintro e w6 ⟨rfl, hO6⟩
        have HO6 := Lib.hid hO6
        clear hO6
        go_wp2_with fail
        go_round
        case rel => exact ⟨k + 1, x', y', sx', sy', by omega, by go_num, (HS5.out.onlyNil HO6.out).more (Nat.le_refl _) (by omega), HO5.out.thenNil HO6.out⟩
        case measure => simp [intOf] <;> omega
    · have hkl : k = len := by omega
      subst hkl
      clear hge hk
      go_wp2_with fail
      go_ret
      exact ⟨rfl, HO.out⟩

set_option maxRecDepth 100000 in
theorem from_args {H : Type} {enc : TypeId × Value → H} (W : World) (base : Nat) (args : Array Value) (ds : List (DataW H)) (ps : List MemPlace)
    (hval0 : ∀ (j : Nat) t v, Try.f8.params[j]? = some t → args[j]? = some v → Value.okWide Try.prog W .any base t v)
    (hA : DataW.TrodAll enc Try.prog W 0 (fun _ => true) true Try.f8.params.toList args.toList ds ps) (_hlt : ∀ x ∈ ps, x.block < W.heap.size)
    (hsz : (DataW.weightsEach Try.prog Try.f8.params.toList ds).all (· ≤ reachBytes) = true) : Calls Try.prog 8 args W (LawPost W) := by
  have hval := hval0
  rw [Try.params8] at hA hval hsz
  obtain ⟨v0, vs0, d0, ds0, p0, q0, hargs, rfl, rfl, h0, r0⟩ := trodAll_cons hA
  obtain ⟨rfl, rfl, rfl⟩ := trodAll_nil r0
  obtain rfl : args = #[v0] := by cases args; simp_all
  obtain ⟨A, len, cap, xs, rfl, hl, hm, hR, hB⟩ := open_acts (hval 0 _ v0 rfl rfl) h0
  exact walk A len cap xs W hl hm hR hB

set_option maxRecDepth 100000 in
theorem over : Rows.streamPrefixRow.holds Try.pinned (OpenSpec.ofChange Rows.streamPrefixSpec) :=
  OpenClaim.holds_of_wide 8 Try.f8 rfl rfl rfl rfl rfl rfl rfl ⟨rfl, rfl, rfl, rfl, rfl⟩ rfl rfl rfl rfl rfl (by kernel_rfl) Try.func8 (by kernel_rfl)
    (of_decide_eq_true (by kernel_rfl)) (by unfold Func.isWrapper; first | (rw [if_pos (by decide +kernel)]; kernel_rfl) | (rw [if_neg (by decide +kernel)]; exact ⟨rfl, rfl⟩))
    (fun os started H enc _ => law_lifted (f := 8) (F := Try.f8) (s := Rows.streamPrefixSpec) os started H enc (by kernel_rfl) Try.func8 rfl rfl (by kernel_rfl) (by kernel_rfl)
      (fun ds hd => by match ds, hd with | [_], _ => rfl)
      (ChangeSpec.witness6 (enc := enc) (C := Try.checked) false ⟨#[], #[.slice none 0 0], []⟩ 8 (by kernel_rfl) (by kernel_rfl) (by kernel_rfl) (by kernel_rfl))
      (fun W base args ds ps hv hA hlt hsz => from_args W base args ds ps hv hA hlt hsz))

/-- The statement. -/
theorem proved : Rows.StreamPrefixSaid := over

end streamPrefix
end Go.Proofs.Ytfichoekjjcjiaa
