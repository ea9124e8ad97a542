/-
  The law SlotsMap: in any script of up to 60 calls on a table with up to 20 slots, Get returns for every handle what was put or set last, and nothing for one that was dropped.
  No conditions.
-/
import Derived.Test.YtoicdaoappiglaaSlL1
import Derived.Test.YtoicdaoappiglaaSlQ2
import Derived.Test.YtoicdaoappiglaaSlA
import Derived.Test.YtoicdaoappiglaaApp
import Derived.Deep.RegionHeld3
import Derived.Deep.LoopGhost
import Derived.Deep.DeepCutAuto
import Derived.Deep.CutBlock
import Derived.Deep.RegionLaw
import Derived.IntWalk
namespace Go.Proofs.Ytoicdaoappiglaa
open Go.ChangeShapes Go.WideShapes Go.ChangeAt Go.RowKit

namespace slotsMap
def pcells (x : Int × Int) : List Value := [.int .i64 x.1, .int .i64 x.2]
theorem pcells_len (x : Int × Int) : (pcells x).length = 2 := rfl
theorem pair_info : (Try.prog.info? 43).map (fun i => (i.zero, i.size, i.bytes)) = some (some (.agg #[.int .i64 0, .int .i64 0]), 2, 16) := by kernel_rfl

/-- The law's own list of pairs, in memory. -/
def Prs (w : World) (B : Nat) (A : Option Addr) (c : Nat) (m : List (Int × Int)) : Prop := w.ownsRow B 43 2 (.slice A m.length c) m.length (m.flatMap pcells) ∧ m.length ≤ c

/-- What stands behind the switch of a round. -/
def Mid (w : World) (p g : Nat) (n : Nat) (k : Nat) (s : St) (v : Value) (wc : World) : Prop :=
  ∃ (l : Tbl) (m : List (Int × Int)) (A : Option Addr) (c : Nat), v = .slice A m.length c ∧ m.length ≤ k + 1 ∧ Prs wc w.heap.size A c m ∧ Tab wc p g l ∧ MapOf l m ∧ Only Nil w wc ∧ (s.kind = 3 → getO l s.hd = false)

set_option maxRecDepth 100000 in
set_option maxHeartbeats 2000000 in
theorem walk (A : Option Addr) (len cap : Nat) (xs : List St) (n : Int) (w : World) (hlen : xs.length = len) (hmax : len ≤ maxLen) (hR : Rd w w.heap.size 3 A len (xs.flatMap St.cells)) :
    Calls Try.prog 5 #[.slice A len cap, .int .i64 n] w (LawPost w) := by
  unfold maxLen at hmax
  obtain ⟨i0, hi0, hz0, hz1, hz2⟩ := info_parts pair_info
  by_cases hn : 1 ≤ n ∧ n ≤ 200
  · obtain ⟨m, rfl⟩ := Int.eq_ofNat_of_zero_le (show 0 ≤ n by omega)
    by_cases hn2 : (m : Int) ≤ 20 ∧ len ≤ 60
    · have hn3 : m ≤ 20 := by omega
      have hn4 : 1 ≤ m := by omega
      have hl60 : len ≤ 60 := hn2.2
      clear hn hn2
      have HR := Lib.hid hR
      have HL := Lib.hid hlen
      clear hR hlen
      go_enter Try.func5, Try.ntmps5
      go_wp2_with fail
      refine (awake_any _).mono ?_
      rintro e w1 ⟨rfl, hO1⟩
      have HO1 := Lib.hid hO1
      clear hO1
      go_wp2_with fail
      refine (new_any m _ (by omega) (by omega)).mono ?_
      rintro e w2 ⟨rfl, hT, hO2⟩
      have hsz1 := HO1.out.size
      have HO := Lib.hid (HO1.out.thenNil hO2)
      have HT := Lib.hid hT
      clear HO1 hO2 hT
      obtain ⟨p, hp⟩ : ∃ p, p = w1.heap.size + 1 := ⟨_, rfl⟩
      obtain ⟨g, hg⟩ : ∃ g, g = w1.heap.size := ⟨_, rfl⟩
      rw [← hp, ← hg] at HT
      rw [← hp]
      have hpw : w.heap.size ≤ p := by omega
      have hgw : w.heap.size ≤ g := by omega
      clear hp hg hsz1
      have hxp : ∀ x, One g x → Nil x ∨ w.heap.size ≤ x := fun x hx => .inr (by unfold One at hx; omega)
      have HXP := Lib.hid hxp
      clear hxp
      go_wp2_with fail
      go_loopw [7, 8] (fun v i wr => ∃ (k : Nat) (l : Tbl) (ps : List (Int × Int)) (As : Option Addr) (c : Nat), k ≤ len ∧ i = .int .i64 k ∧ v = .slice As ps.length c ∧ ps.length ≤ k ∧
          Prs wr w.heap.size As c ps ∧ Tab wr p g l ∧ MapOf l ps ∧ Only Nil w wr) (fun _ i _ => len - (intOf i).toNat)
      case atStart => exact ⟨0, _, [], none, 0, Nat.zero_le _, rfl, rfl, Nat.le_refl _, ⟨World.ownsRow_nil _ _ _ _, Nat.le_refl _⟩, HT.out, MapOf.new m, HO.out⟩
      case round =>
        obtain ⟨k, l, ps, As, c, hk, rfl, rfl, hsl, hown, hTr, hM, hOr⟩ := hrel
        have hszr := hOr.size
        have HOr := Lib.hid hOr
        have HTr := Lib.hid hTr
        have HM := Lib.hid hM
        have HW := Lib.hid hown
        clear hOr hTr hM hown HT HO
        obtain ⟨wo, rfl⟩ : ∃ wo : World, wo = wr := ⟨_, rfl⟩
        by_cases hlt : k < len
        · obtain ⟨s, hs⟩ : ∃ s, xs[k]? = some s := ⟨xs[k]'(by rw [HL.out]; exact hlt), List.getElem?_eq_getElem _⟩
          obtain ⟨b, off, rfl, hbw, hc⟩ := (HR.out.onlyNil HOr.out (Nat.le_refl _)).row St.cells_len hs (by omega)
          have c0 : wo.cell? ⟨b, off + k * 3, none⟩ = some (.int .i64 s.kind) := hc 0 _ rfl
          have c1 : wo.cell? ⟨b, off + k * 3 + 1, none⟩ = some (.int .i64 s.hd) := hc 1 _ rfl
          have c2 : wo.cell? ⟨b, off + k * 3 + 2, none⟩ = some (.int .i64 s.val) := hc 2 _ rfl
          have HX := Lib.hid hs
          clear hc hs
          go_wp2_with fail
          go_loopw [9, 10] (fun a j wr => ∃ q : Nat, q ≤ ps.length ∧ j = .int .i64 q ∧ a = .int .i64 (lastTo ps s.hd q) ∧ ∃ nd, wr = wo.drewN nd) (fun _ j _ => ps.length - (intOf j).toNat)
          case atStart => exact ⟨0, Nat.zero_le _, rfl, rfl, 0, rfl⟩
          case round =>
            obtain ⟨q, hq, rfl, rfl, nd, rfl⟩ := hrel
            by_cases hql : q < ps.length
            · obtain ⟨x, hx⟩ : ∃ x, ps[q]? = some x := ⟨ps[q], List.getElem?_eq_getElem hql⟩
              obtain ⟨gs, og, rfl, _, hcx⟩ := (Rd.of_own HW.out.1).row pcells_len hx (by omega)
              have d0 : wo.cell? ⟨gs, og + q * 2, none⟩ = some (.int .i64 x.1) := hcx 0 _ rfl
              have hlast : lastTo ps s.hd (q + 1) = if x.1 = s.hd then (q : Int) else lastTo ps s.hd q := by
                conv => lhs; unfold lastTo
                rw [List.getD_eq_getElem?_getD, hx]; rfl
              have HLA := Lib.hid hlast
              clear hlast hcx hx
              by_cases he : x.1 = s.hd
              · have he' : (x.1 == s.hd) = true := by simp [he]
                have HE := Lib.hid he
                clear he
                go_wp2_with fail
                go_quiet (fail)
                go_wp2_with fail
                go_roundw
                case rel => exact ⟨q + 1, by omega, by go_num, by rw [HLA.out, if_pos HE.out], _, rfl⟩
                case measure => simp [intOf] <;> omega
              · have he' : (x.1 == s.hd) = false := by simp [he]
                have HE := Lib.hid he
                clear he
                go_wp2_with fail
                go_quiet (fail)
                go_wp2_with fail
                go_roundw
                case rel => exact ⟨q + 1, by omega, by go_num, by rw [HLA.out, if_neg HE.out], _, rfl⟩
                case measure => simp [intOf] <;> omega
            · obtain rfl : q = ps.length := by omega
              clear hql
              go_upto_block 4 with fail
              go_cut [7, 9] (fun v _ wc => Mid w p g len k s v wc)
              case first =>
                by_cases hk0 : s.kind = 0
                · have hk0' : (s.kind == 0) = true := by simp [hk0]
                  have HK := Lib.hid hk0
                  clear hk0
                  go_wp2_with fail
                  refine (put_any _ _ (HTr.out.drewN _)).mono ?_
                  rintro e w3 ⟨rfl, hT3, hO3⟩
                  have HT3 := Lib.hid hT3
                  have HO3 := Lib.hid ((HOr.out.drewN _).trans hO3 HXP.out)
                  have HW3 := Lib.hid (own_blk (w := wo.drewN nd) HW.out.1 HTr.out.sb (by decide) hO3)
                  have d2 : w3.cell? ⟨b, off + k * 3 + 2, none⟩ = some (.int .i64 s.val) := (hO3.cell (p := ⟨b, off + k * 3 + 2, none⟩) (lt_of_cell (w := wo) c2) (by show ¬ b = g; omega)).trans c2
                  clear hT3 hO3
                  by_cases hb : best l < 0
                  · have hE : putE l = 13 := by unfold putE; rw [if_pos hb]
                    have hTe : putT l s.val = l := by unfold putT; rw [if_pos hb]
                    rw [hTe] at HT3
                    clear hb hTe
                    go_wp2_with fail
                    go_meet
                    case rel => exact ⟨l, ps, As, c, rfl, by omega, ⟨HW3.out, HW.out.2⟩, HT3.out, HM.out, HO3.out, fun h => by have := HK.out; omega⟩
                  · have hE : putE l = 0 := by unfold putE; rw [if_neg hb]
                    have HB := Lib.hid hb
                    clear hb
                    go_wp2_with (at_builtin; go_must (refine wpList_append_rd _ rfl (.tmp 90) (.tmp 98) _ rfl w.heap.size 43 i0 (.agg #[.int .i64 0, .int .i64 0]) 2 16 Try.underlying41 hi0 hz0 hz1 hz2 rfl (by omega) (.slice As ps.length c) ps.length (ps.flatMap pcells) rfl ?qown (w3.heap.size + 1) (some ⟨w3.heap.size, 0, none⟩) 1 1 [.int .i64 (putH l), .int .i64 s.val] rfl ?qrd ?qone (ps.length + 1) rfl _ rfl ?q63 ?qby ?qbase ?_))
                    case qown => exact own_onlyNil HW3.out ((Only.refl _ _).alloc _)
                    case qrd => exact Rd.newBlock w3 #[.int .i64 (putH l), .int .i64 s.val] _ 2 1 rfl rfl
                    (try (case qone => first | (intro u hu; simp at hu; rcases hu with rfl | rfl <;> rfl) | (simp [Value.oneCell'])))
                    case q63 => unfold maxLen; omega
                    case qby => omega
                    case qbase => have := HO3.out.size; simp; omega
                    intro A4 c4 w4 hc4 hown4 hgr hat
                    have hO4 : Only (fun x => w.heap.size ≤ x) w3 w4 := ((Only.refl _ _).alloc _).then_ (grown_only (own_onlyNil HW3.out ((Only.refl _ _).alloc _)) hgr)
                    have hO4' : Only (fun x => (Value.slice As ps.length c).ownBlock = some x) w3 w4 := ((Only.refl _ _).alloc _).then_ (Only.of_grown hgr)
                    have hT4 : Tab w4 p g (putT l s.val) := HT3.out.only hO4' (own_blk_ne HW3.out HT3.out.tb (by decide)) (own_blk_ne HW3.out HT3.out.sb (by decide))
                    have HT4 := Lib.hid hT4
                    have HO4 := Lib.hid (HO3.out.trans hO4 (fun x hx => .inr hx))
                    have HW4 := Lib.hid hown4
                    clear hT4 hO4 hO4' hown4 hgr hat
                    go_wp2_with fail
                    go_meet
                    case rel => exact ⟨_, ps ++ [(putH l, s.val)], A4, c4, by simp, by simp; omega, ⟨by simpa [pcells] using HW4.out, by simpa using hc4⟩, HT4.out, HM.out.put HTr.out.fine _ (by have := HB.out; omega), HO4.out, fun h => by have := HK.out; omega⟩
                · have hk0' : (s.kind == 0) = false := by simp [hk0]
                  have HK := Lib.hid hk0
                  clear hk0
                  by_cases hk2 : s.kind = 2
                  · have hk2' : (s.kind == 2) = true := by simp [hk2]
                    have HK2 := Lib.hid hk2
                    clear hk2
                    rcases HM.out.last s.hd with ⟨hla, hfi⟩ | ⟨a, x, hla, hal, hax, hxh, hfi⟩
                    · have hE : isE l s.hd = 8 := by unfold isE; rw [hfi]; rfl
                      have hst : setT l s.hd s.val = l := by unfold setT; rw [hfi]
                      have HST := Lib.hid hst
                      have cw : ∀ w' : World, Only (One g) (wo.drewN (nd + 1)) w' → w'.cell? ⟨b, off + k * 3 + 1, none⟩ = some (.int .i64 s.hd) ∧ w'.cell? ⟨b, off + k * 3 + 2, none⟩ = some (.int .i64 s.val) := fun w' h =>
                        ⟨(h.cell (p := ⟨b, off + k * 3 + 1, none⟩) (lt_of_cell (w := wo) c1) (by show ¬ b = g; omega)).trans c1, (h.cell (p := ⟨b, off + k * 3 + 2, none⟩) (lt_of_cell (w := wo) c2) (by show ¬ b = g; omega)).trans c2⟩
                      have CW := Lib.hid cw
                      clear hst hfi cw
                      go_wp2_with fail
                      go_region_held3 (fun w' => w'.cell? ⟨b, off + k * 3 + 1, none⟩ = some (.int .i64 s.hd) ∧ w'.cell? ⟨b, off + k * 3 + 2, none⟩ = some (.int .i64 s.val)) (first | go_keep | (exact CW.out _ (by assumption))) (first | (go_at_call 10; refine (set_any _ _ _ (HTr.out.drewN (nd + 1))).mono ?_; rintro e w3 ⟨rfl, hT3, hO3⟩))
                      rw [HST.out] at hT3
                      have HT3 := Lib.hid hT3
                      have HO3 := Lib.hid ((HOr.out.drewN (nd + 1)).trans hO3 HXP.out)
                      have HW3 := Lib.hid (own_blk (w := wo.drewN (nd + 1)) HW.out.1 HTr.out.sb (by decide) hO3)
                      clear hT3 hO3
                      go_wp2_with fail
                      go_meet
                      case rel => exact ⟨l, ps, As, c, rfl, by omega, ⟨HW3.out, HW.out.2⟩, HT3.out, HM.out, HO3.out, fun h => by have := HK2.out; omega⟩
                    · have hE : isE l s.hd = 0 := by unfold isE; rw [hfi]; rfl
                      have HAX := Lib.hid hax
                      have HXH := Lib.hid hxh
                      have cw : ∀ w' : World, Only (One g) (wo.drewN (nd + 1)) w' → w'.cell? ⟨b, off + k * 3 + 1, none⟩ = some (.int .i64 s.hd) ∧ w'.cell? ⟨b, off + k * 3 + 2, none⟩ = some (.int .i64 s.val) := fun w' h =>
                        ⟨(h.cell (p := ⟨b, off + k * 3 + 1, none⟩) (lt_of_cell (w := wo) c1) (by show ¬ b = g; omega)).trans c1, (h.cell (p := ⟨b, off + k * 3 + 2, none⟩) (lt_of_cell (w := wo) c2) (by show ¬ b = g; omega)).trans c2⟩
                      have CW := Lib.hid cw
                      clear hfi cw hax hxh
                      go_wp2_with fail
                      go_region_held3 (fun w' => w'.cell? ⟨b, off + k * 3 + 1, none⟩ = some (.int .i64 s.hd) ∧ w'.cell? ⟨b, off + k * 3 + 2, none⟩ = some (.int .i64 s.val)) (first | go_keep | (exact CW.out _ (by assumption))) (first | (go_at_call 10; refine (set_any _ _ _ (HTr.out.drewN (nd + 1))).mono ?_; rintro e w3 ⟨rfl, hT3, hO3⟩))
                      have HT3 := Lib.hid hT3
                      have HO3 := Lib.hid ((HOr.out.drewN (nd + 1)).trans hO3 HXP.out)
                      have hW3 := own_blk (w := wo.drewN (nd + 1)) HW.out.1 HTr.out.sb (by decide) hO3
                      obtain ⟨d1, d2⟩ := CW.out _ hO3
                      obtain ⟨gs, rfl, hgs⟩ : ∃ gs, As = some ⟨gs, 0, none⟩ ∧ w.heap.size ≤ gs := by
                        rcases hW3.2 with ⟨h0, h1⟩ | ⟨gs, _, _, h0, h1, _⟩
                        · omega
                        · injection h0 with h0; exact ⟨gs, h0, h1⟩
                      have f1 := hW3.frozenAt (a * 2 + 1)
                      have e1 : w3.cell? ⟨gs, a * 2 + 1, none⟩ = some (.int .i64 x.2) := by
                        rw [hW3.cellAt _ (by omega), flat_get pcells_len _ _ _ (by omega), HAX.out]; rfl
                      have hW4 := (hW3.stored (a * 2 + 1) (.int .i64 s.val)).1
                      rw [flat_set pcells_len ps a 1 (.int .i64 s.val) x (x.1, s.val) HAX.out (by omega) rfl] at hW4
                      have hgp : gs ≠ p := fun e => own_blk_ne hW3 HT3.out.tb (by decide) (by rw [e]; rfl)
                      have hgg : gs ≠ g := fun e => own_blk_ne hW3 HT3.out.sb (by decide) (by rw [e]; rfl)
                      have HW4 := Lib.hid hW4
                      clear hW3 hW4 hT3 hO3 d1
                      go_wp2_with fail
                      go_meet
                      case rel =>
                        exact ⟨_, ps.set a (x.1, s.val), _, c, by rw [List.length_set], by rw [List.length_set]; omega, ⟨by rw [List.length_set]; exact HW4.out, by rw [List.length_set]; exact HW.out.2⟩,
                          HT3.out.only ((Only.refl (One gs) w3).setCell (p := ⟨gs, a * 2 + 1, none⟩) (.inl rfl) _) (fun e => hgp e.symm) (fun e => hgg e.symm),
                          HM.out.set HTr.out.fine _ HAX.out HXH.out, HO3.out.setCell (p := ⟨gs, a * 2 + 1, none⟩) (.inr hgs) _, fun h => by have := HK2.out; omega⟩
                  · have hk2' : (s.kind == 2) = false := by simp [hk2]
                    have HK2 := Lib.hid hk2
                    clear hk2
                    by_cases hk3 : s.kind = 3
                    · have hk3' : (s.kind == 3) = true := by simp [hk3]
                      have HK3 := Lib.hid hk3
                      clear hk3
                      have hgo : getO (dropT l s.hd) s.hd = false := by unfold getO; rw [findT_dropT _ _ _ HTr.out.fine, if_pos rfl]; rfl
                      have HGO := Lib.hid hgo
                      clear hgo
                      rcases HM.out.last s.hd with ⟨hla, hfi⟩ | ⟨a, x, hla, hal, hax, hxh, hfi⟩
                      · have hE : isE l s.hd = 8 := by unfold isE; rw [hfi]; rfl
                        have HFI := Lib.hid hfi
                        clear hfi
                        go_wp2_with fail
                        refine (drop_any _ _ (HTr.out.drewN _)).mono ?_
                        rintro e w3 ⟨rfl, hT3, hO3⟩
                        have HT3 := Lib.hid hT3
                        have HO3 := Lib.hid ((HOr.out.drewN _).trans hO3 HXP.out)
                        have HW3 := Lib.hid (own_blk (w := wo.drewN nd) HW.out.1 HTr.out.sb (by decide) hO3)
                        clear hT3 hO3
                        go_wp2_with fail
                        go_meet
                        case rel => exact ⟨_, ps, As, c, rfl, by omega, ⟨HW3.out, HW.out.2⟩, HT3.out, HM.out.dropNone HFI.out, HO3.out, fun _ => HGO.out⟩
                      · have hE : isE l s.hd = 0 := by unfold isE; rw [hfi]; rfl
                        have HAX := Lib.hid hax
                        have HXH := Lib.hid hxh
                        clear hfi hax hxh
                        go_wp2_with fail
                        refine (drop_any _ _ (HTr.out.drewN _)).mono ?_
                        rintro e w3 ⟨rfl, hT3, hO3⟩
                        have HT3 := Lib.hid hT3
                        have HO3 := Lib.hid ((HOr.out.drewN _).trans hO3 HXP.out)
                        have hW3 := own_blk (w := wo.drewN nd) HW.out.1 HTr.out.sb (by decide) hO3
                        have HW3 := Lib.hid hW3
                        have hcap := HW.out.2
                        clear hT3 hO3 hW3
                        have hac : a ≤ c := by omega
                        have hac1 : a + 1 ≤ c := by omega
                        have hac2 : a + 1 ≤ ps.length := by omega
                        obtain ⟨A2, hA2⟩ : ∃ A2, (if c = a + 1 then As else Option.map (fun x => x.add ((a + 1) * 2)) As) = A2 := ⟨_, rfl⟩
                        have hR1 : Rd w3 w3.heap.size 2 As a ((ps.take a).flatMap pcells) := by rw [← flat_take pcells_len]; exact (Rd.of_own HW3.out).take (by omega)
                        have hR2 : Rd w3 w3.heap.size 2 A2 (ps.length - (a + 1)) ((ps.drop (a + 1)).flatMap pcells) := by rw [← flat_drop pcells_len, ← hA2]; exact (Rd.of_own HW3.out).cut (by omega) HW.out.2
                        have HR1 := Lib.hid hR1
                        have HR2 := Lib.hid hR2
                        have hone : ∀ xs : List (Int × Int), ∀ u ∈ xs.flatMap pcells, u.oneCell' = true := flat_one (fun a u hu => by simp [pcells] at hu; rcases hu with rfl | rfl <;> rfl)
                        have HONE := Lib.hid hone
                        have hsz3 : w.heap.size ≤ w3.heap.size := HO3.out.size
                        clear hR1 hR2 hone
                        have o1 : ((w3.alloc (.cells #[] 43)).drew).ownsRow w3.heap.size 43 2 (.slice (some ⟨w3.heap.size, 0, none⟩) 0 0) 0 [] := World.ownsRow_lit w3 #[] 0 (Nat.le_refl _) (by unfold maxLen; omega) rfl
                        have r1 : Rd ((w3.alloc (.cells #[] 43)).drew) w3.heap.size 2 As a ((ps.take a).flatMap pcells) := HR1.out.onlyNil ((Only.refl _ _).alloc _).drew (Nat.le_refl _)
                        have s1 : w3.heap.size ≤ ((w3.alloc (.cells #[] 43)).drew).heap.size := by simp
                        have r2 : ∀ w4, ((w3.alloc (.cells #[] 43)).drew).grownBy w4 (Value.slice (some ⟨w3.heap.size, 0, none⟩) 0 0).ownBlock → Rd w4 w3.heap.size 2 A2 (ps.length - (a + 1)) ((ps.drop (a + 1)).flatMap pcells) := fun w4 hg4 =>
                          HR2.out.only (((Only.refl (fun x => x = w3.heap.size) w3).alloc (.cells #[] 43)).drew.grown hg4 (fun q hq => .inl (by simpa [Value.ownBlock] using hq.symm))) (Nat.le_refl _) (fun x hx => by omega)
                        have s2 : ∀ w4, ((w3.alloc (.cells #[] 43)).drew).grownBy w4 (Value.slice (some ⟨w3.heap.size, 0, none⟩) 0 0).ownBlock → w3.heap.size ≤ w4.heap.size := fun w4 hg4 => Nat.le_trans s1 hg4.size
                        have O1 := Lib.hid o1
                        have R1 := Lib.hid r1
                        have S1 := Lib.hid s1
                        have R2 := Lib.hid r2
                        have S2 := Lib.hid s2
                        have m1 : 0 + a ≤ maxLen := by unfold maxLen; omega
                        have m2 : (0 + a) * 16 ≤ 140737488355328 := by omega
                        have m3 : a + (ps.length - (a + 1)) ≤ maxLen := by unfold maxLen; omega
                        have m4 : (a + (ps.length - (a + 1))) * 16 ≤ 140737488355328 := by omega
                        have m5 : a + (ps.length - (a + 1)) = ps.length - 1 := by omega
                        have m6 : 0 + a = a := by omega
                        have m7 : (ps.take a).flatMap pcells ++ (ps.drop (a + 1)).flatMap pcells = (ps.take a ++ ps.drop (a + 1)).flatMap pcells := by simp
                        have m8 : [] ++ (ps.take a).flatMap pcells = (ps.take a).flatMap pcells := rfl
                        have M1 := Lib.hid m1
                        have M2 := Lib.hid m2
                        have M3 := Lib.hid m3
                        have M4 := Lib.hid m4
                        have M5 := Lib.hid m5
                        have M6 := Lib.hid m6
                        have M7 := Lib.hid m7
                        have M8 := Lib.hid m8
                        clear o1 r1 s1 r2 s2 m1 m2 m3 m4 m5 m6 m7 m8
                        have hwr : IntKind.i64.wrap ((a : Int) + 1) = (a : Int) + 1 := IntWalk.i64_in _ (by omega)
                        have hwn : ((a : Int) + 1).toNat = a + 1 := by omega
                        have hw1 : (0 : Int) ≤ (a : Int) + 1 := by omega
                        have hw2 : (a : Int) + 1 ≤ (ps.length : Int) := by omega
                        go_wp2_with fail
                        go_region_law (first
                          | (refine step_append_rd _ (by rfl) (.tmp 144) (.tmp 147) _ (by rfl) w3.heap.size 43 i0 (.agg #[.int .i64 0, .int .i64 0]) 2 16 Try.underlying41 hi0 hz0 hz1 hz2 rfl Nat.zero_lt_two (.slice (some ⟨w3.heap.size, 0, none⟩) 0 0) 0 [] (by simp [Act.eval]) O1.out w3.heap.size As a c _ (by simp [Act.eval]) R1.out (HONE.out _) a M6.out ((ps.take a).flatMap pcells) M8.out M1.out M2.out S1.out ?_; intro A4 c4 w4 hc4 hown4 hgr4 hat4)
                          | (refine step_append_rd _ (by rfl) (.tmp 148) (.tmp 152) _ (by rfl) w3.heap.size 43 i0 (.agg #[.int .i64 0, .int .i64 0]) 2 16 Try.underlying41 hi0 hz0 hz1 hz2 rfl Nat.zero_lt_two (.slice A4 a c4) a ((ps.take a).flatMap pcells) (by simp [Act.eval]) hown4 w3.heap.size A2 (ps.length - (a + 1)) (c - (a + 1)) _ (by simp [Act.eval]) (R2.out _ hgr4) (HONE.out _) (ps.length - 1) M5.out ((ps.take a ++ ps.drop (a + 1)).flatMap pcells) M7.out M3.out M4.out (S2.out _ hgr4) ?_; intro A5 c5 w5 hc5 hown5 hgr5 hat5))
                        have hO4 : Only Nil w3 w4 := ((Only.refl _ _).alloc _).drew.grown hgr4 (fun q hq => .inr (Nat.le_of_eq (by simpa [Value.ownBlock] using hq)))
                        have hO5 : Only Nil w3 w5 := hO4.grown hgr5 (fun q hq => .inr (ownBlock_ge hown4 hq))
                        have HO5 := Lib.hid hO5
                        have hW5 := own_base hown5 hsz3
                        have HW5 := Lib.hid hW5
                        have hlen5 : (ps.take a ++ ps.drop (a + 1)).length = ps.length - 1 := by simp; omega
                        have HL5 := Lib.hid hlen5
                        clear hO4 hO5 hown4 hown5 hgr4 hgr5 hat4 hat5 hW5 hlen5
                        go_wp2_with fail
                        go_meet
                        case rel =>
                          exact ⟨_, ps.take a ++ ps.drop (a + 1), A5, c5, by rw [HL5.out], by rw [HL5.out]; omega, ⟨by rw [HL5.out]; exact HW5.out, by rw [HL5.out]; exact hc5⟩, HT3.out.onlyNil HO5.out, HM.out.drop HTr.out.fine HAX.out HXH.out, HO3.out.thenNil HO5.out, fun _ => HGO.out⟩
                    · have hk3' : (s.kind == 3) = false := by simp [hk3]
                      have HK3 := Lib.hid hk3
                      clear hk3
                      go_wp2_with fail
                      go_meet
                      case rel => exact ⟨l, ps, As, c, rfl, by omega, HW.out, HTr.out.drewN _, HM.out, HOr.out.drewN _, fun h => absurd h HK3.out⟩
              case rest =>
                obtain ⟨l', ms, Am, cm, rfl, hml, hmW, hmT, hmM, hmO, hm3⟩ := hcut
                have HMW := Lib.hid hmW
                have hcm := hmW.2
                have HMT := Lib.hid hmT
                have HMM := Lib.hid hmM
                have HMO := Lib.hid hmO
                have HM3 := Lib.hid hm3
                clear hmW hmT hmM hmO hm3 HM HW HTr
                go_wp2_with fail
                refine (handles_any _ HMT.out).mono ?_
                rintro e w8 ⟨A8, c8, rfl, _, hO8⟩
                have HT8 := Lib.hid (HMT.out.onlyNil hO8)
                have HO8 := Lib.hid (HMO.out.thenNil hO8)
                have HW8 := Lib.hid (own_onlyNil HMW.out.1 hO8)
                have hlen8 : (hdls l').length = ms.length := HMM.out.len.symm
                rw [hlen8]
                have hR8 := Rd.onlyNil HR.out HO8.out (Nat.le_refl _)
                have HR8 := Lib.hid hR8
                clear hO8 HMT HMO HMW hlen8 hR8
                go_wp2_with fail
                go_loopw [13] (fun j wz => ∃ q : Nat, q ≤ ms.length ∧ j = .int .i64 q ∧ ∃ nd, wz = w8.drewN nd) (fun j _ => ms.length - (intOf j).toNat)
                case atStart => exact ⟨0, Nat.zero_le _, rfl, 0, rfl⟩
                case round =>
                  obtain ⟨q, hq, rfl, nd8, rfl⟩ := hrel
                  by_cases hql : q < ms.length
                  · obtain ⟨x, hx⟩ : ∃ x, ms[q]? = some x := ⟨ms[q], List.getElem?_eq_getElem hql⟩
                    obtain ⟨gs, og, rfl, _, hcx⟩ := (Rd.of_own HW8.out).row pcells_len hx (by omega)
                    have d0 : w8.cell? ⟨gs, og + q * 2, none⟩ = some (.int .i64 x.1) := hcx 0 _ rfl
                    have d1 : w8.cell? ⟨gs, og + q * 2 + 1, none⟩ = some (.int .i64 x.2) := hcx 1 _ rfl
                    have hxm := List.mem_of_getElem? hx
                    have hgo : getO l' x.1 = true := by unfold getO; rw [← HMM.out.keys]; exact List.mem_map_of_mem hxm
                    have hgv : getV l' x.1 = x.2 := HMM.out.vals x hxm
                    clear hcx hx hxm
                    go_wp2_with fail
                    refine (get_any _ _ (HT8.out.drewN _)).mono ?_
                    rintro e w9 ⟨rfl, n9, rfl⟩
                    go_wp2_with fail
                    go_roundw
                    case rel => exact ⟨q + 1, by omega, by go_num, _, rfl⟩
                    case measure => simp [intOf] <;> omega
                  · obtain rfl : q = ms.length := by omega
                    clear hql
                    obtain ⟨b2, off2, hA2, hbw2, hc2⟩ := HR8.out.row St.cells_len HX.out (by omega)
                    injection hA2 with hA2
                    injection hA2 with hb2 hoff2 _
                    subst hb2 hoff2
                    have e0 : w8.cell? ⟨b, off + k * 3, none⟩ = some (.int .i64 s.kind) := hc2 0 _ rfl
                    have e1 : w8.cell? ⟨b, off + k * 3 + 1, none⟩ = some (.int .i64 s.hd) := hc2 1 _ rfl
                    clear hc2
                    by_cases hk3 : s.kind = 3
                    · have hgo := HM3.out hk3
                      have hk3' : (s.kind == 3) = true := by simp [hk3]
                      clear hk3
                      go_wp2_with fail
                      refine (get_any _ _ (HT8.out.drewN _)).mono ?_
                      rintro e w9 ⟨rfl, n9, rfl⟩
                      go_wp2_with fail
                      go_roundw
                      case rel => exact ⟨k + 1, l', ms, Am, cm, by omega, by go_num, rfl, by omega, ⟨HW8.out, hcm⟩, HT8.out.drewN _, HMM.out, HO8.out.drewN _⟩
                      case measure => simp [intOf] <;> omega
                    · have hk3' : (s.kind == 3) = false := by simp [hk3]
                      clear hk3
                      go_wp2_with fail
                      refine (get_any _ _ (HT8.out.drewN _)).mono ?_
                      rintro e w9 ⟨rfl, n9, rfl⟩
                      go_wp2_with fail
                      go_roundw
                      case rel => exact ⟨k + 1, l', ms, Am, cm, by omega, by go_num, rfl, by omega, ⟨HW8.out, hcm⟩, HT8.out.drewN _, HMM.out, HO8.out.drewN _⟩
                      case measure => simp [intOf] <;> omega
        · have hge : ¬ (k : Int) < len := by omega
          go_wp2_with fail
          go_ret
          exact ⟨rfl, HOr.out⟩
    · have HN2 := Lib.hid hn2
      clear hn2
      by_cases h60 : (60 : Int) < len
      · go_enter Try.func5, Try.ntmps5
        go_wp2_with fail
        refine (awake_any _).mono ?_
        rintro e w1 ⟨rfl, hO1⟩
        go_wp2_with fail
        refine (new_any m _ (by omega) (by omega)).mono ?_
        rintro e w2 ⟨rfl, hT, hO2⟩
        go_wp2_with fail
        go_ret
        exact ⟨rfl, hO1.thenNil hO2⟩
      · have h20 : (20 : Int) < m := by have := HN2.out; omega
        go_enter Try.func5, Try.ntmps5
        go_wp2_with fail
        refine (awake_any _).mono ?_
        rintro e w1 ⟨rfl, hO1⟩
        go_wp2_with fail
        refine (new_any m _ (by omega) (by omega)).mono ?_
        rintro e w2 ⟨rfl, hT, hO2⟩
        go_wp2_with fail
        go_ret
        exact ⟨rfl, hO1.thenNil hO2⟩
  · by_cases h60 : (60 : Int) < len
    · go_enter Try.func5, Try.ntmps5
      go_wp2_with fail
      refine (awake_any _).mono ?_
      rintro e w1 ⟨rfl, hO1⟩
      go_wp2_with fail
      refine (new_no n _ (by omega)).mono ?_
      rintro e w2 ⟨rfl, rfl⟩
      go_wp2_with fail
      go_ret
      exact ⟨rfl, hO1⟩
    · by_cases h20 : 20 < n
      · go_enter Try.func5, Try.ntmps5
        go_wp2_with fail
        refine (awake_any _).mono ?_
        rintro e w1 ⟨rfl, hO1⟩
        go_wp2_with fail
        refine (new_no n _ (by omega)).mono ?_
        rintro e w2 ⟨rfl, rfl⟩
        go_wp2_with fail
        go_ret
        exact ⟨rfl, hO1⟩
      · have h1 : n < 1 := by omega
        go_enter Try.func5, Try.ntmps5
        go_wp2_with fail
        refine (awake_any _).mono ?_
        rintro e w1 ⟨rfl, hO1⟩
        go_wp2_with fail
        refine (new_no n _ (by omega)).mono ?_
        rintro e w2 ⟨rfl, rfl⟩
        go_wp2_with fail
        go_ret
        exact ⟨rfl, hO1⟩

theorem from_args {H : Type} {enc : TypeId × Value → H} (W : World) (base : Nat) (args : Array Value) (ds : List (DataW H)) (ps : List MemPlace)
    (hval0 : ∀ (j : Nat) t v, Try.f5.params[j]? = some t → args[j]? = some v → Value.okWide Try.prog W .any base t v)
    (hA : DataW.TrodAll enc Try.prog W 0 (fun _ => true) true Try.f5.params.toList args.toList ds ps) (_hlt : ∀ x ∈ ps, x.block < W.heap.size)
    (hsz : (DataW.weightsEach Try.prog Try.f5.params.toList ds).all (· ≤ reachBytes) = true) : Calls Try.prog 5 args W (LawPost W) := by
  have hval := hval0
  rw [Try.params5] at hA hval hsz
  obtain ⟨v0, vs0, d0, ds0, p0, q0, hargs, rfl, rfl, h0, r0⟩ := trodAll_cons hA
  obtain ⟨v1, vs1, d1, ds1, p1, q1, rfl, rfl, rfl, h1, r1⟩ := trodAll_cons r0
  obtain ⟨rfl, rfl, rfl⟩ := trodAll_nil r1
  obtain rfl : args = #[v0, v1] := by cases args; simp_all
  obtain ⟨A, len, cap, xs, rfl, hl, hm, hR⟩ := open_steps (hval 0 _ v0 rfl rfl) h0
  obtain ⟨n, rfl, rfl, rfl, _⟩ := open_int Try.underlying3 (hval 1 _ v1 rfl rfl) h1
  exact walk A len cap xs n W hl hm hR

theorem over : Rows.slotsMapRow.holds Try.pinned (OpenSpec.ofChange Rows.slotsMapSpec) :=
  OpenClaim.holds_of_wide 5 Try.f5 rfl rfl rfl rfl rfl rfl rfl ⟨rfl, rfl, rfl, rfl, rfl⟩ rfl rfl rfl rfl rfl (by kernel_rfl) Try.func5 (by kernel_rfl)
    (of_decide_eq_true (by kernel_rfl)) (by unfold Func.isWrapper; first | (rw [if_pos (by decide +kernel)]; kernel_rfl) | (rw [if_neg (by decide +kernel)]; exact ⟨rfl, rfl⟩))
    (fun os started H enc _ => law_lifted (f := 5) (F := Try.f5) (s := Rows.slotsMapSpec) os started H enc (by kernel_rfl) Try.func5 rfl rfl (by kernel_rfl) (by kernel_rfl)
      (fun ds hd => by match ds, hd with | [_, _], _ => rfl)
      (ChangeSpec.witness6 (enc := enc) (C := Try.checked) false ⟨#[], #[.slice none 0 0, .int .i64 0], []⟩ 8 (by kernel_rfl) (by kernel_rfl) (by kernel_rfl) (by kernel_rfl))
      (fun W base args ds ps hv hA hlt hsz => from_args W base args ds ps hv hA hlt hsz))

/-- The statement. -/
theorem proved : Rows.SlotsMapSaid := over

end slotsMap
end Go.Proofs.Ytoicdaoappiglaa
