/-
  Walks of replay: ends, Alive.
  Conditions: the entries can be read.
-/
import Derived.Test.YtdejceojhkdjnaaRpW5
import Derived.Deep.DeepMust
import Derived.Deep.Cut
import Derived.Deep.DeepCutAuto
namespace Go.Proofs.Ytdejceojhkdjnaa
open Go.RowKit

/-- The place of the answer to a call of this task, among entries from place i on. -/
def endsFrom (t : Int) : List En → Nat → Int
  | [], _ => -1
  | x :: l, i => if x.task = t then (if x.kind = 2 then (i : Int) else if x.kind = 1 then -1 else if x.kind = 6 then -1 else endsFrom t l (i + 1)) else endsFrom t l (i + 1)

theorem drop_map_succ {rs : List ER} {k : Nat} {r : ER} (h : rs[k]? = some r) : (rs.map ER.x).drop k = r.x :: (rs.map ER.x).drop (k + 1) := by
  obtain ⟨hlt, hr⟩ := List.getElem?_eq_some_iff.1 h
  rw [← List.map_drop, ← List.map_drop, List.drop_eq_getElem_cons hlt, hr]
  rfl

set_option maxRecDepth 100000 in
set_option maxHeartbeats 1000000 in
theorem ends_any (A : Option Addr) (c : Nat) (rs : List ER) (b : Nat) (rb : ER) (w : World) (h : Es w w.heap.size A rs) (hl : rs.length ≤ 1099511627776) (hb : rs[b]? = some rb) :
    Calls Try.prog 28 #[.slice A rs.length c, .int .i64 b] w fun e w' => e = .returned (.int .i64 (endsFrom rb.x.task ((rs.map ER.x).drop (b + 1)) (b + 1))) ∧ Only Nil w w' := by
  obtain ⟨R, hR⟩ : ∃ R, endsFrom rb.x.task ((rs.map ER.x).drop (b + 1)) (b + 1) = R := ⟨_, rfl⟩
  rw [hR]
  have hbl : b < rs.length := (List.getElem?_eq_some_iff.1 hb).1
  obtain ⟨N, hN⟩ : ∃ N, rs.length = N := ⟨_, rfl⟩
  rw [hN] at hl hbl ⊢
  obtain ⟨bb, off, rfl, hbB, hcb⟩ := h.at_ hb
  obtain ⟨T, hT⟩ : ∃ T, rb.x.task = T := ⟨_, rfl⟩
  have ct : w.cell? ⟨bb, off + b * 8 + 1, none⟩ = some (.int .i64 T) := by rw [← hT]; exact hcb 1 _ rfl
  have hbi : (b : Int) < N := by omega
  have hrow : ∀ (k : Nat) (r : ER), rs[k]? = some r → w.cell? ⟨bb, off + k * 8, none⟩ = some (.int .i64 r.x.kind) ∧ w.cell? ⟨bb, off + k * 8 + 1, none⟩ = some (.int .i64 r.x.task) := fun k r hk => by
    obtain ⟨b2, off2, e, _, hc⟩ := h.at_ hk
    injection e with e
    injection e with e1 e2 _
    subst e1 e2
    exact ⟨hc 0 _ rfl, hc 1 _ rfl⟩
  rw [hT] at hR
  have HN := Lib.hid hN
  have HR := Lib.hid hR
  have HROW := Lib.hid hrow
  have HCT := Lib.hid ct
  clear hN hR hT hcb h hb hrow ct
  go_enter Try.func28, Try.ntmps28
  go_wp2_with fail
  go_loopw [5] (fun i wr => ∃ k : Nat, k ≤ N ∧ b + 1 ≤ k ∧ i = .int .i64 k ∧ endsFrom T ((rs.map ER.x).drop k) k = R ∧ Only Nil w wr) (fun i _ => N - (intOf i).toNat)
  case atStart => exact ⟨b + 1, by omega, Nat.le_refl _, by go_num, HR.out, Only.refl _ _⟩
  case round =>
    obtain ⟨k, hk, hbk, rfl, hr, hO⟩ := hrel
    have HRK := Lib.hid hr
    have HO := Lib.hid hO
    clear hr hO
    by_cases hlt : k < N
    · obtain ⟨r, hr⟩ : ∃ r, rs[k]? = some r := ⟨rs[k]'(by rw [HN.out]; exact hlt), List.getElem?_eq_getElem _⟩
      have hd := drop_map_succ hr
      obtain ⟨c0, c1⟩ := HROW.out k r hr
      obtain ⟨K, hK⟩ : ∃ K, r.x.kind = K := ⟨_, rfl⟩
      obtain ⟨T', hT'⟩ : ∃ T', r.x.task = T' := ⟨_, rfl⟩
      rw [hK] at c0
      rw [hT'] at c1
      have d0 : wr.cell? ⟨bb, off + k * 8, none⟩ = some (.int .i64 K) := (HO.out.cell (p := ⟨bb, off + k * 8, none⟩) hbB (fun x => x)).trans c0
      have d1 : wr.cell? ⟨bb, off + k * 8 + 1, none⟩ = some (.int .i64 T') := (HO.out.cell (p := ⟨bb, off + k * 8 + 1, none⟩) hbB (fun x => x)).trans c1
      have d2 : wr.cell? ⟨bb, off + b * 8 + 1, none⟩ = some (.int .i64 T) := (HO.out.cell (p := ⟨bb, off + b * 8 + 1, none⟩) hbB (fun x => x)).trans HCT.out
      have hki : (k : Int) < N := by omega
      have hR : R = if T' = T then (if K = 2 then (k : Int) else if K = 1 then -1 else if K = 6 then -1 else endsFrom T ((rs.map ER.x).drop (k + 1)) (k + 1)) else endsFrom T ((rs.map ER.x).drop (k + 1)) (k + 1) := by
        rw [← HRK.out, hd, endsFrom, hK, hT']
      have HR := Lib.hid hR
      clear hd c0 c1 hr hK hT' hR
      by_cases ht : T' = T
      · subst ht
        rw [if_pos rfl] at HR
        have n1 : (T' != T') = false := by simp
        by_cases k2 : K = 2
        · subst k2
          go_wp2_with fail
          go_quiet (fail)
          go_wp2_with fail
          go_ret
          exact ⟨by rw [HR.out]; rfl, HO.out.drewN _⟩
        · have b2 : (K == 2) = false := beq_false_of_ne k2
          rw [if_neg k2] at HR
          by_cases k1 : K = 1
          · subst k1
            clear k2
            go_wp2_with fail
            go_quiet (fail)
            go_wp2_with fail
            go_ret
            exact ⟨by rw [HR.out]; rfl, HO.out.drewN _⟩
          · have b1 : (K == 1) = false := beq_false_of_ne k1
            rw [if_neg k1] at HR
            by_cases k6 : K = 6
            · subst k6
              clear k1 k2
              go_wp2_with fail
              go_quiet (fail)
              go_wp2_with fail
              go_ret
              exact ⟨by rw [HR.out]; rfl, HO.out.drewN _⟩
            · have b6 : (K == 6) = false := beq_false_of_ne k6
              rw [if_neg k6] at HR
              clear k1 k2 k6
              go_wp2_with fail
              go_quiet (fail)
              go_wp2_with fail
              go_roundw
              case rel => exact ⟨k + 1, by omega, by omega, by go_num, HR.out.symm, HO.out.drewN _⟩
              case measure => simp [intOf]; omega
      · have n1 : (T' != T) = true := by simp [ht]
        rw [if_neg ht] at HR
        clear ht
        go_wp2_with fail
        go_quiet (fail)
        go_wp2_with fail
        go_roundw
        case rel => exact ⟨k + 1, by omega, by omega, by go_num, HR.out.symm, HO.out.drewN _⟩
        case measure => simp [intOf]; omega
    · have hkN : k = N := by omega
      subst hkN
      have hd : (rs.map ER.x).drop k = [] := List.drop_eq_nil_of_le (by simp [HN.out])
      have hR : R = -1 := by rw [← HRK.out, hd]; rfl
      subst hR
      clear hd
      go_wp2_with fail
      go_ret
      exact ⟨rfl, HO.out⟩

def icells (l : List Nat) : List Value := l.map fun (n : Nat) => Value.int .i64 (n : Int)
theorem icells_one (l : List Nat) : ∀ u ∈ icells l, u.oneCell' = true := by
  intro u hu
  simp only [icells, List.mem_map] at hu
  obtain ⟨b, _, rfl⟩ := hu
  rfl
/-- The tasks that are not absent, of the first k. -/
def aliveP (s : List PS) (k : Nat) : List Nat := (List.range k).filter fun i => (s.getD i zPS).there
theorem aliveP_len (s : List PS) (k : Nat) : (aliveP s k).length ≤ k := by
  unfold aliveP
  have := List.length_filter_le (fun i => (s.getD i zPS).there) (List.range k)
  simpa using this
theorem aliveP_succ (s : List PS) (k : Nat) : aliveP s (k + 1) = if (s.getD k zPS).there then aliveP s k ++ [k] else aliveP s k := by
  unfold aliveP
  rw [List.range_succ, List.filter_append]
  cases h : (s.getD k zPS).there
  · rw [List.filter_cons_of_neg (by simpa using h)]; simp
  · rw [List.filter_cons_of_pos (by simpa using h)]; simp

def AlivePost (l : List En) (w : World) (x : Ending) (w' : World) : Prop :=
  Only Nil w w' ∧ ((runP initS l).2.1 ≠ 0 → x = .returned (.tuple #[.slice none 0 0, .int .i64 (runP initS l).2.1])) ∧
    ((runP initS l).2.1 = 0 → ∃ A c, x = .returned (.tuple #[.slice A (aliveP (runP initS l).2.2 32).length c, .int .i64 0]) ∧ w'.ownsRow w.heap.size 3 1 (.slice A (aliveP (runP initS l).2.2 32).length c) (aliveP (runP initS l).2.2 32).length (icells (aliveP (runP initS l).2.2 32)))

set_option maxRecDepth 100000 in
set_option maxHeartbeats 1000000 in
theorem alive_any (A : Option Addr) (c : Nat) (rs : List ER) (w : World) (h : Es w w.heap.size A rs) (hl : rs.length ≤ 1099511627776) :
    Calls Try.prog 12 #[.slice A rs.length c] w (AlivePost (rs.map ER.x) w) := by
  obtain ⟨i0, hi0, hz0, hz1, hz2⟩ := info_parts int_info
  have hr := run_any A c rs w h hl
  obtain ⟨P, hP⟩ : ∃ P, runP initS (rs.map ER.x) = P := ⟨_, rfl⟩
  unfold AlivePost
  unfold RunPost at hr
  rw [hP] at hr ⊢
  have HR := Lib.hid hr
  clear hr h hl hP
  obtain ⟨n, e, s⟩ := P
  dsimp only at HR ⊢
  go_enter Try.func12, Try.ntmps12
  go_wp2_with fail
  refine HR.out.mono ?_
  rintro x w1 ⟨hO, hy, hn⟩
  by_cases h0 : e = 0
  rotate_left
  · obtain rfl := hn h0
    have hb2 : (e != 0) = true := by simp [h0]
    have HO := Lib.hid hO
    have H0 := Lib.hid h0
    clear hy hn hO h0
    go_wp2_with fail
    go_ret2
    exact ⟨HO.out, fun _ => rfl, fun h => absurd h H0.out⟩
  subst h0
  obtain ⟨g, rfl, hg, hS⟩ := hy rfl
  have HO := Lib.hid hO
  have HG := Lib.hid hg
  have HS := Lib.hid hS
  clear hy hn hO hg hS
  go_wp2_with fail
  go_loopw [21, 7] (fun i v wr => ∃ (k : Nat) (A' : Option Addr) (c' : Nat), k ≤ 32 ∧ i = .int .i64 k ∧ v = .slice A' (aliveP s k).length c' ∧ SB wr g s ∧ Only Nil w wr ∧ wr.ownsRow w.heap.size 3 1 (.slice A' (aliveP s k).length c') (aliveP s k).length (icells (aliveP s k))) (fun i _ _ => 32 - (intOf i).toNat)
  case atStart => exact ⟨0, none, 0, by omega, rfl, rfl, HS.out, HO.out, by have := World.ownsRow_nil w1 w.heap.size 3 1; exact this⟩
  case round =>
    obtain ⟨k, A', c', hk, rfl, rfl, hS, hO, hown⟩ := hrel
    obtain ⟨L, hL⟩ : ∃ L, aliveP s k = L := ⟨_, rfl⟩
    obtain ⟨M, hM⟩ : ∃ M, L.length = M := ⟨_, rfl⟩
    rw [hL, hM] at hown ⊢
    have HM : Hid (M ≤ 32) := Lib.hid (by have := aliveP_len s k; rw [hL, hM] at this; omega)
    have HL := Lib.hid hL
    have HMM := Lib.hid hM
    have HS2 := Lib.hid hS
    have HO2 := Lib.hid hO
    have HW2 := Lib.hid hown
    clear hS hO hown hL hM
    by_cases hlt : k < 32
    · obtain ⟨t, ht⟩ : ∃ t, s[k]? = some t := ⟨_, List.getElem?_eq_getElem (by rw [HS2.out.len]; exact hlt)⟩
      obtain ⟨c0, c1, c2, c3⟩ := HS2.out.cell ht
      have hsucc := aliveP_succ s k
      rw [getD_of ht, HL.out] at hsucc
      have HT := Lib.hid ht
      have hpg := HS2.out.blk.lt
      have hne : g ≠ wr.heap.size := by omega
      have hne' : wr.heap.size ≠ g := fun h => hne h.symm
      have HSU := Lib.hid hsucc
      clear ht hsucc hpg
      obtain ⟨th, ca, cl, cn⟩ := t
      dsimp only at c0 c1 c2 c3 HSU
      have hAL : ∀ o : Obj, (wr.alloc o).cell? ⟨g, k * 4, none⟩ = some (.bool th) ∧ (wr.alloc o).cell? ⟨g, k * 4 + 1, none⟩ = some (.bool ca) ∧ (wr.alloc o).cell? ⟨g, k * 4 + 2, none⟩ = some (.bool cl) ∧ (wr.alloc o).cell? ⟨g, k * 4 + 3, none⟩ = some (.int .i64 cn) := fun o => (HS2.out.onlyNil ((Only.refl _ _).alloc o)).cell HT.out
      have a0 := fun o => (hAL o).1
      have a1 := fun o => (hAL o).2.1
      have a2 := fun o => (hAL o).2.2.1
      have a3 := fun o => (hAL o).2.2.2
      clear hAL
      have hki : (k : Int) < 32 := by omega
      have HNE : Hid (∀ q, (Value.slice A' M c').ownBlock = some q → q ≠ g) := Lib.hid (fun q hq he => own_blk_ne HW2.out HS2.out.blk (by decide) (by rw [hq, he]))
      go_upto_region 7 with fail
      go_cut [8, 9] (fun i p wd => i = .int .i64 k ∧ ∃ gb, p = .pointer (some ⟨gb, 0, none⟩) ∧ wr.heap.size ≤ gb ∧ Blk wd gb 58 #[.bool th, .bool ca, .bool cl, .int .i64 cn] ∧ Only Nil wr wd)
      case first =>
        go_region
        all_goals
          go_wp2_with fail
          go_meet
          case rel => exact ⟨rfl, _, rfl, Nat.le_refl _, by first | exact Blk.new _ _ _ | exact (Blk.new _ _ _).drew, by (repeat' (first | with_reducible exact Only.refl _ _ | with_reducible refine Only.setCell ?_ (Or.inl ?_) _ | with_reducible refine Only.drewN ?_ _ | with_reducible refine Only.drew ?_ | with_reducible refine Only.alloc ?_ _ | (fail)))⟩
      case rest =>
        obtain ⟨rfl, gb, rfl, hgb, hb, hOb⟩ := hcut
        have kb : ∀ i, wc.cell? ⟨gb, i, none⟩ = #[Value.bool th, .bool ca, .bool cl, .int .i64 cn][i]? := fun i => hb.cell i
        have HOB := Lib.hid hOb
        clear hb hOb c0 c1 c2 c3 a0 a1 a2 a3
        have hS3 := HS2.out.onlyNil HOB.out
        have hO3 := HO2.out.thenNil HOB.out
        have hW3 := own_onlyNil HW2.out HOB.out
        have HS3 := Lib.hid hS3
        have HO3 := Lib.hid hO3
        have HW3 := Lib.hid hW3
        clear hS3 hO3 hW3
        cases th
        · have hsu : aliveP s (k + 1) = L := HSU.out
          have HSU2 := Lib.hid hsu
          clear hsu
          go_wp2_with fail
          go_roundw
          case rel => exact ⟨k + 1, A', c', by omega, by go_num, by rw [HSU2.out, HMM.out], HS3.out, HO3.out, by rw [HSU2.out, HMM.out]; exact HW3.out⟩
          case measure => simp [intOf]; omega
        · have hsu : aliveP s (k + 1) = L ++ [k] := HSU.out
          have HSU2 := Lib.hid hsu
          clear hsu
          go_wp2_with (at_builtin; go_must (refine wpList_append_rd _ rfl (.tmp 29) (.tmp 31) _ rfl w.heap.size 3 i0 (.int .i64 0) 1 8 Try.underlying28 hi0 hz0 hz1 hz2 rfl (by omega) (.slice A' M c') M (icells L) rfl ?qown (wc.heap.size + 1) (some ⟨wc.heap.size, 0, none⟩) 1 1 [.int .i64 (k : Int)] rfl ?qrd (one_cell1 rfl) (M + 1) rfl _ rfl ?q63 ?qby ?qbase ?_))
          case qown => exact own_onlyNil HW3.out ((Only.refl _ _).alloc _)
          case qrd => exact Rd.newBlock wc #[.int .i64 (k : Int)] _ 1 1 rfl rfl
          case q63 => have := HM.out; unfold maxLen; omega
          case qby => have := HM.out; omega
          case qbase => have := HO3.out.size; simp; omega
          intro A4 c4 w4 hc4 hown4 hgr4 hat4
          have hO4 : Only (fun x => (Value.slice A' M c').ownBlock = some x) wc w4 := (((Only.refl _ _).alloc _).then_ (Only.of_grown hgr4))
          have hs4 : SB w4 g s := ⟨HS3.out.len, HS3.out.blk.only hO4 (fun hx => HNE.out g hx rfl)⟩
          have HO4 : Hid (Only Nil w w4) := Lib.hid (HO3.out.trans hO4 (fun x hx => .inr (ownBlock_ge HW3.out hx)))
          have HS4 := Lib.hid hs4
          have HW4 := Lib.hid hown4
          clear hO4 hs4 hown4 hgr4 hat4
          go_wp2_with fail
          go_roundw
          case rel =>
            have hlen : (L ++ [k]).length = M + 1 := by rw [List.length_append, HMM.out]; rfl
            refine ⟨k + 1, A4, c4, by omega, by go_num, by rw [HSU2.out, hlen], HS4.out, HO4.out, ?_⟩
            rw [HSU2.out, hlen]
            have := HW4.out
            rwa [show icells L ++ [Value.int .i64 (k : Int)] = icells (L ++ [k]) by simp [icells]] at this
          case measure => simp [intOf]; omega
    · have hk32 : k = 32 := by omega
      subst hk32
      go_wp2_with fail
      go_ret2
      refine ⟨HO2.out, A', c', ?_, ?_⟩
      · rw [HL.out, HMM.out]; rfl
      · rw [HL.out, HMM.out]; exact HW2.out

end Go.Proofs.Ytdejceojhkdjnaa
