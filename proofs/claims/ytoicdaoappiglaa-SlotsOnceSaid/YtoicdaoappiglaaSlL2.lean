/-
  The law SlotsOnce: Put never returns a handle twice, in any script of up to 60 calls on a table with up to 20 slots.
  No conditions.
-/
import Derived.Test.YtoicdaoappiglaaSlL1
import Derived.Test.YtoicdaoappiglaaSlQ
import Derived.Test.YtoicdaoappiglaaSlA
import Derived.Deep.RegionHeld3
import Derived.Deep.LoopGhost
namespace Go.Proofs.Ytoicdaoappiglaa
open Go.ChangeShapes Go.WideShapes Go.ChangeAt Go.RowKit

namespace slotsOnce

set_option maxRecDepth 100000 in
set_option maxHeartbeats 2000000 in
theorem walk (A : Option Addr) (len cap : Nat) (xs : List St) (n : Int) (w : World) (hlen : xs.length = len) (hmax : len ≤ maxLen) (hR : Rd w w.heap.size 3 A len (xs.flatMap St.cells)) :
    Calls Try.prog 3 #[.slice A len cap, .int .i64 n] w (LawPost w) := by
  unfold maxLen at hmax
  obtain ⟨i0, hi0, hz0, hz1, hz2⟩ := info_parts int_info
  by_cases hn : 1 ≤ n ∧ n ≤ 200
  · obtain ⟨m, rfl⟩ := Int.eq_ofNat_of_zero_le (show 0 ≤ n by omega)
    by_cases hn2 : (m : Int) ≤ 20 ∧ len ≤ 60
    · have hn3 : m ≤ 20 := by omega
      have hn4 : 1 ≤ m := by omega
      have hl60 : len ≤ 60 := hn2.2
      clear hn hn2
      have HR := Lib.hid hR
      have HL := Lib.hid hlen
      clear hR hlen
      go_enter Try.func3, Try.ntmps3
      go_wp2_with fail
      refine (awake_any _).mono ?_
      rintro e w1 ⟨rfl, hO1⟩
      have HO1 := Lib.hid hO1
      clear hO1
      go_wp2_with fail
      refine (new_any m _ (by omega) (by omega)).mono ?_
      rintro e w2 ⟨rfl, hT, hO2⟩
      have hsz1 := HO1.out.size
      have HO := Lib.hid (HO1.out.thenNil hO2)
      have HT := Lib.hid hT
      clear HO1 hO2 hT
      obtain ⟨p, hp⟩ : ∃ p, p = w1.heap.size + 1 := ⟨_, rfl⟩
      obtain ⟨g, hg⟩ : ∃ g, g = w1.heap.size := ⟨_, rfl⟩
      rw [← hp, ← hg] at HT
      rw [← hp]
      have hpw : w.heap.size ≤ p := by omega
      have hgw : w.heap.size ≤ g := by omega
      clear hp hg hsz1
      go_wp2_with fail
      go_loopw [7, 8] (fun v i wr => ∃ (k : Nat) (l : Tbl) (seen : List Int) (As : Option Addr) (c : Nat), k ≤ len ∧ i = .int .i64 k ∧ v = .slice As seen.length c ∧ seen.length ≤ k ∧
          wr.ownsRow w.heap.size 3 1 (.slice As seen.length c) seen.length (seen.map (Value.int .i64)) ∧ Tab wr p g l ∧ Seen l seen ∧ Only Nil w wr) (fun _ i _ => len - (intOf i).toNat)
      case atStart => exact ⟨0, _, [], none, 0, Nat.zero_le _, rfl, rfl, Nat.le_refl _, World.ownsRow_nil _ _ _ _, HT.out, fun h hh => absurd hh (by simp), HO.out⟩
      case round =>
        obtain ⟨k, l, seen, As, c, hk, rfl, rfl, hsl, hown, hTr, hS, hOr⟩ := hrel
        have hszr := hOr.size
        have HOr := Lib.hid hOr
        have HTr := Lib.hid hTr
        have HS := Lib.hid hS
        have HW := Lib.hid hown
        clear hOr hTr hS hown HT HO
        by_cases hlt : k < len
        · obtain ⟨s, hs⟩ : ∃ s, xs[k]? = some s := ⟨xs[k]'(by rw [HL.out]; exact hlt), List.getElem?_eq_getElem _⟩
          obtain ⟨b, off, rfl, hbw, hc⟩ := (HR.out.onlyNil HOr.out (Nat.le_refl _)).row St.cells_len hs (by omega)
          have c0 : wr.cell? ⟨b, off + k * 3, none⟩ = some (.int .i64 s.kind) := hc 0 _ rfl
          have c1 : wr.cell? ⟨b, off + k * 3 + 1, none⟩ = some (.int .i64 s.hd) := hc 1 _ rfl
          have c2 : wr.cell? ⟨b, off + k * 3 + 2, none⟩ = some (.int .i64 s.val) := hc 2 _ rfl
          have HX := Lib.hid hs
          clear hc hs
          have hxp : ∀ x, One g x → Nil x ∨ w.heap.size ≤ x := fun x hx => .inr (by unfold One at hx; omega)
          have HXP := Lib.hid hxp
          clear hxp
          by_cases hk0 : s.kind = 0
          · have hk0' : (s.kind == 0) = true := by simp [hk0]
            clear hk0
            go_wp2_with fail
            refine (put_any _ _ HTr.out).mono ?_
            rintro e w3 ⟨rfl, hT3, hO3⟩
            have HT3 := Lib.hid hT3
            have HO3 := Lib.hid (HOr.out.trans hO3 HXP.out)
            have HW3 := Lib.hid (own_blk HW.out HTr.out.sb (by decide) hO3)
            clear hT3 hO3
            by_cases hb : best l < 0
            · have hE : putE l = 13 := by unfold putE; rw [if_pos hb]
              clear hb
              go_wp2_with fail
              go_roundw
              case rel => exact ⟨k + 1, _, seen, As, c, by omega, by go_num, rfl, by omega, HW3.out, HT3.out, HS.out.put _, HO3.out⟩
              case measure => simp [intOf] <;> omega
            · have hE : putE l = 0 := by unfold putE; rw [if_neg hb]
              have hnew := HS.out.new hb
              have HN := Lib.hid hnew
              have HB := Lib.hid hb
              clear hnew hb
              go_wp2_with fail
              go_loop [11] (fun j => ∃ q : Nat, q ≤ seen.length ∧ j = .int .i64 q) (fun j => seen.length - (intOf j).toNat)
              case atStart => exact ⟨0, Nat.zero_le _, rfl⟩
              case round =>
                obtain ⟨q, hq, rfl⟩ := hrel
                by_cases hql : q < seen.length
                · obtain ⟨x, hx⟩ : ∃ x, seen[q]? = some x := ⟨seen[q], List.getElem?_eq_getElem hql⟩
                  obtain ⟨gs, rfl, _, _, hcx⟩ := own_cell HW3.out (j := q) (u := .int .i64 x) (by rw [List.getElem?_map, hx]; rfl)
                  have hne : (x == putH l) = false := by
                    have hm : x ∈ seen := List.mem_of_getElem? hx
                    simp only [beq_eq_false_iff_ne]
                    exact fun e => HN.out (e ▸ hm)
                  clear hx
                  go_wp2_with fail
                  go_round
                  case rel => exact ⟨q + 1, by omega, by go_num⟩
                  case measure => simp [intOf] <;> omega
                · obtain rfl : q = seen.length := by omega
                  clear hql
                  go_wp2_with (at_builtin; go_must (refine wpList_append_lies _ rfl (.tmp 78) (.tmp 80) _ rfl w.heap.size 3 i0 (.int .i64 0) 1 8 Try.underlying28 hi0 hz0 hz1 hz2 rfl (by omega) (.slice As seen.length c) seen.length (seen.map (Value.int .i64)) rfl ?qown ⟨w3.heap.size, 0, none⟩ 1 1 [.int .i64 (putH l)] rfl rfl ?qnews ?qone (by omega) ?q63 ?qby ?qbase _ rfl ?_))
                  case qown => exact HW3.out.alloc _
                  try (case qnews => exact cell_new1 (by simp))
                  try (case qone => first | exact one_cell1 rfl | rfl)
                  case q63 => unfold maxLen; omega
                  case qby => omega
                  case qbase => have := HO3.out.size; simp; omega
                  intro g1 cap1 w4 hown4 hgr hat hlt4
                  have hO4 : Only (fun x => (Value.slice As seen.length c).ownBlock = some x) w3 w4 := ((Only.refl _ _).alloc _).then_ (Only.of_grown hgr)
                  have hT4 : Tab w4 p g (putT l s.val) := HT3.out.only hO4 (own_blk_ne HW3.out HT3.out.tb (by decide)) (own_blk_ne HW3.out HT3.out.sb (by decide))
                  have HT4 := Lib.hid hT4
                  have HO4 := Lib.hid (HO3.out.trans hO4 (fun x hx => .inr (ownBlock_ge HW3.out hx)))
                  have HW4 := Lib.hid hown4
                  clear hT4 hO4 hown4 hgr hat
                  go_wp2_with fail
                  go_roundw
                  case rel =>
                    exact ⟨k + 1, putT l s.val, seen ++ [putH l], some ⟨g1, 0, none⟩, cap1, by omega, by go_num, by simp, by simp; omega, by simpa using HW4.out, HT4.out, HS.out.putOk HTr.out.fine _ (by have := HB.out; omega), HO4.out⟩
                  case measure => simp [intOf] <;> omega
          · have hk0' : (s.kind == 0) = false := by simp [hk0]
            clear hk0
            by_cases hk2 : s.kind = 2
            · have hk2' : (s.kind == 2) = true := by simp [hk2]
              clear hk2
              go_wp2_with fail
              have hlk := HXP.out
              have hbg : b ≠ g := by omega
              have cw : ∀ w' : World, Only (One g) wr.drew w' → w'.cell? ⟨b, off + k * 3 + 1, none⟩ = some (.int .i64 s.hd) ∧ w'.cell? ⟨b, off + k * 3 + 2, none⟩ = some (.int .i64 s.val) := fun w' h =>
                ⟨(h.cell (p := ⟨b, off + k * 3 + 1, none⟩) (lt_of_cell c1) hbg).trans c1, (h.cell (p := ⟨b, off + k * 3 + 2, none⟩) (lt_of_cell c2) hbg).trans c2⟩
              have CW := Lib.hid cw
              clear cw hlk
              go_region_held3 (fun w' => w'.cell? ⟨b, off + k * 3 + 1, none⟩ = some (.int .i64 s.hd) ∧ w'.cell? ⟨b, off + k * 3 + 2, none⟩ = some (.int .i64 s.val)) (first | go_keep | (exact CW.out _ (by assumption))) (first | (go_at_call 10; refine (set_any _ _ _ HTr.out.drew).mono ?_; rintro e w3 ⟨rfl, hT3, hO3⟩))
              have HT3 := Lib.hid hT3
              have HO3 := Lib.hid (HOr.out.drew.trans hO3 HXP.out)
              have HW3 := Lib.hid (own_blk (w := wr.drew) HW.out HTr.out.sb (by decide) hO3)
              clear hT3 hO3
              go_wp2_with fail
              go_roundw
              case rel => exact ⟨k + 1, _, seen, As, c, by omega, by go_num, rfl, by omega, HW3.out, HT3.out, HS.out.setT HTr.out.fine _ _, HO3.out⟩
              case measure => simp [intOf] <;> omega
            · have hk2' : (s.kind == 2) = false := by simp [hk2]
              clear hk2
              by_cases hk3 : s.kind = 3
              · have hk3' : (s.kind == 3) = true := by simp [hk3]
                clear hk3
                go_wp2_with fail
                refine (drop_any _ _ HTr.out).mono ?_
                rintro e w3 ⟨rfl, hT3, hO3⟩
                have HT3 := Lib.hid hT3
                have HO3 := Lib.hid (HOr.out.trans hO3 HXP.out)
                have HW3 := Lib.hid (own_blk HW.out HTr.out.sb (by decide) hO3)
                clear hT3 hO3
                go_wp2_with fail
                go_roundw
                case rel => exact ⟨k + 1, _, seen, As, c, by omega, by go_num, rfl, by omega, HW3.out, HT3.out, HS.out.dropT HTr.out.fine _, HO3.out⟩
                case measure => simp [intOf] <;> omega
              · have hk3' : (s.kind == 3) = false := by simp [hk3]
                clear hk3
                go_wp2_with fail
                go_roundw
                case rel => exact ⟨k + 1, l, seen, As, c, by omega, by go_num, rfl, by omega, HW.out, HTr.out, HS.out, HOr.out⟩
                case measure => simp [intOf] <;> omega
        · have hge : ¬ (k : Int) < len := by omega
          go_wp2_with fail
          go_ret
          exact ⟨rfl, HOr.out⟩
    · have HN2 := Lib.hid hn2
      clear hn2
      by_cases h60 : (60 : Int) < len
      · go_enter Try.func3, Try.ntmps3
        go_wp2_with fail
        refine (awake_any _).mono ?_
        rintro e w1 ⟨rfl, hO1⟩
        go_wp2_with fail
        refine (new_any m _ (by omega) (by omega)).mono ?_
        rintro e w2 ⟨rfl, hT, hO2⟩
        go_wp2_with fail
        go_ret
        exact ⟨rfl, hO1.thenNil hO2⟩
      · have h20 : (20 : Int) < m := by have := HN2.out; omega
        go_enter Try.func3, Try.ntmps3
        go_wp2_with fail
        refine (awake_any _).mono ?_
        rintro e w1 ⟨rfl, hO1⟩
        go_wp2_with fail
        refine (new_any m _ (by omega) (by omega)).mono ?_
        rintro e w2 ⟨rfl, hT, hO2⟩
        go_wp2_with fail
        go_ret
        exact ⟨rfl, hO1.thenNil hO2⟩
  · by_cases h60 : (60 : Int) < len
    · go_enter Try.func3, Try.ntmps3
      go_wp2_with fail
      refine (awake_any _).mono ?_
      rintro e w1 ⟨rfl, hO1⟩
      go_wp2_with fail
      refine (new_no n _ (by omega)).mono ?_
      rintro e w2 ⟨rfl, rfl⟩
      go_wp2_with fail
      go_ret
      exact ⟨rfl, hO1⟩
    · by_cases h20 : 20 < n
      · go_enter Try.func3, Try.ntmps3
        go_wp2_with fail
        refine (awake_any _).mono ?_
        rintro e w1 ⟨rfl, hO1⟩
        go_wp2_with fail
        refine (new_no n _ (by omega)).mono ?_
        rintro e w2 ⟨rfl, rfl⟩
        go_wp2_with fail
        go_ret
        exact ⟨rfl, hO1⟩
      · have h1 : n < 1 := by omega
        go_enter Try.func3, Try.ntmps3
        go_wp2_with fail
        refine (awake_any _).mono ?_
        rintro e w1 ⟨rfl, hO1⟩
        go_wp2_with fail
        refine (new_no n _ (by omega)).mono ?_
        rintro e w2 ⟨rfl, rfl⟩
        go_wp2_with fail
        go_ret
        exact ⟨rfl, hO1⟩

theorem from_args {H : Type} {enc : TypeId × Value → H} (W : World) (base : Nat) (args : Array Value) (ds : List (DataW H)) (ps : List MemPlace)
    (hval0 : ∀ (j : Nat) t v, Try.f3.params[j]? = some t → args[j]? = some v → Value.okWide Try.prog W .any base t v)
    (hA : DataW.TrodAll enc Try.prog W 0 (fun _ => true) true Try.f3.params.toList args.toList ds ps) (_hlt : ∀ x ∈ ps, x.block < W.heap.size)
    (hsz : (DataW.weightsEach Try.prog Try.f3.params.toList ds).all (· ≤ reachBytes) = true) : Calls Try.prog 3 args W (LawPost W) := by
  have hval := hval0
  rw [Try.params3] at hA hval hsz
  obtain ⟨v0, vs0, d0, ds0, p0, q0, hargs, rfl, rfl, h0, r0⟩ := trodAll_cons hA
  obtain ⟨v1, vs1, d1, ds1, p1, q1, rfl, rfl, rfl, h1, r1⟩ := trodAll_cons r0
  obtain ⟨rfl, rfl, rfl⟩ := trodAll_nil r1
  obtain rfl : args = #[v0, v1] := by cases args; simp_all
  obtain ⟨A, len, cap, xs, rfl, hl, hm, hR⟩ := open_steps (hval 0 _ v0 rfl rfl) h0
  obtain ⟨n, rfl, rfl, rfl, _⟩ := open_int Try.underlying3 (hval 1 _ v1 rfl rfl) h1
  exact walk A len cap xs n W hl hm hR

theorem over : Rows.slotsOnceRow.holds Try.pinned (OpenSpec.ofChange Rows.slotsOnceSpec) :=
  OpenClaim.holds_of_wide 3 Try.f3 rfl rfl rfl rfl rfl rfl rfl ⟨rfl, rfl, rfl, rfl, rfl⟩ rfl rfl rfl rfl rfl (by kernel_rfl) Try.func3 (by kernel_rfl)
    (of_decide_eq_true (by kernel_rfl)) (by unfold Func.isWrapper; first | (rw [if_pos (by decide +kernel)]; kernel_rfl) | (rw [if_neg (by decide +kernel)]; exact ⟨rfl, rfl⟩))
    (fun os started H enc _ => law_lifted (f := 3) (F := Try.f3) (s := Rows.slotsOnceSpec) os started H enc (by kernel_rfl) Try.func3 rfl rfl (by kernel_rfl) (by kernel_rfl)
      (fun ds hd => by match ds, hd with | [_, _], _ => rfl)
      (ChangeSpec.witness6 (enc := enc) (C := Try.checked) false ⟨#[], #[.slice none 0 0, .int .i64 0], []⟩ 8 (by kernel_rfl) (by kernel_rfl) (by kernel_rfl) (by kernel_rfl))
      (fun W base args ds ps hv hA hlt hsz => from_args W base args ds ps hv hA hlt hsz))

/-- The statement. -/
theorem proved : Rows.SlotsOnceSaid := over

end slotsOnce
end Go.Proofs.Ytoicdaoappiglaa
