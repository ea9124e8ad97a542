/-
  The walk of ratoonref54.Calls.
  Conditions: the entries can be read, each has at most 2 to the power 40 bytes.
-/
import Derived.Test.YtdejceojhkdjnaaRpW7
import Derived.Deep.CutBlock
import Derived.BigQuiet
namespace Go.Proofs.Ytdejceojhkdjnaa
open Go.RowKit

theorem rcall_info : (Try.prog.info? 61).map (fun i => (i.zero, i.size, i.bytes)) = some (some (.agg #[.int .i64 0, .int .i64 0, .int .i64 0, .int .i64 0, .int .i64 0, .slice none 0 0, .bool false, .int .i64 0, .slice none 0 0, .int .i64 0, .int .i64 0]), 11, 120) := by kernel_rfl
theorem rcall_zero (w : World) : (zeroValue 61).run Try.prog w = .ok (.agg #[.int .i64 0, .int .i64 0, .int .i64 0, .int .i64 0, .int .i64 0, .slice none 0 0, .bool false, .int .i64 0, .slice none 0 0, .int .i64 0, .int .i64 0]) w := by kernel_rfl

/-- The reference's calls, in rows of the call's own. -/
structure RRow (w : World) (base : Nat) (A : Option Addr) (c : Nat) (rs : List CR) : Prop where
  row : w.ownsRow base 61 11 (.slice A rs.length c) rs.length (rs.flatMap CR.cells)
  data : ∀ r ∈ rs, w.ownsRow base 5 1 (.slice r.Ad r.x.data.length r.cd) r.x.data.length (bcells r.x.data) ∧ w.ownsRow base 5 1 (.slice r.Ar r.x.reply.length r.cr) r.x.reply.length (bcells r.x.reply)
theorem RRow.onlyNil {w w' : World} {base : Nat} {A : Option Addr} {c : Nat} {rs : List CR} (h : RRow w base A c rs) (hO : Only Nil w w') : RRow w' base A c rs :=
  ⟨own_onlyNil h.row hO, fun r hr => ⟨own_onlyNil (h.data r hr).1 hO, own_onlyNil (h.data r hr).2 hO⟩⟩
theorem RRow.grow {w w' : World} {base : Nat} {A A' : Option Addr} {c c' : Nat} {rs : List CR} {r : CR} (h : RRow w base A c rs) (hO : Only (fun x => (Value.slice A rs.length c).ownBlock = some x) w w')
    (hr : w'.ownsRow base 61 11 (.slice A' (rs.length + 1) c') (rs.length + 1) (rs.flatMap CR.cells ++ r.cells))
    (h1 : w.ownsRow base 5 1 (.slice r.Ad r.x.data.length r.cd) r.x.data.length (bcells r.x.data)) (h2 : w.ownsRow base 5 1 (.slice r.Ar r.x.reply.length r.cr) r.x.reply.length (bcells r.x.reply)) : RRow w' base A' c' (rs ++ [r]) := by
  have keep : ∀ {v : Value} {n : Nat} {xs : List Value}, w.ownsRow base 5 1 v n xs → w'.ownsRow base 5 1 v n xs := fun hv => own_only hv hO fun q hq hx => own_own_ne h.row hv (by decide) hx hq
  refine ⟨?_, fun r' hr' => ?_⟩
  · have e : (rs ++ [r]).flatMap CR.cells = rs.flatMap CR.cells ++ r.cells := by simp
    rw [e, List.length_append, List.length_singleton]
    exact hr
  · rcases List.mem_append.1 hr' with h3 | h3
    · exact ⟨keep (h.data r' h3).1, keep (h.data r' h3).2⟩
    · rw [List.mem_singleton] at h3
      subst h3
      exact ⟨keep h1, keep h2⟩


def RCallsPost (l : List En) (w : World) (x : Ending) (w' : World) : Prop :=
  ∃ A c rs, x = .returned (.slice A rs.length c) ∧ rs.map CR.x = callsP l l.length ∧ RRow w' w.heap.size A c rs ∧ rs.length ≤ c ∧ Only Nil w w'

def RZero (base : Nat) : VPred := fun v w => ∃ g, v = .pointer (some ⟨g, 0, none⟩) ∧ base ≤ g ∧ Blk w g 61 #[.int .i64 0, .int .i64 0, .int .i64 0, .int .i64 0, .int .i64 0, .slice none 0 0, .bool false, .int .i64 0, .slice none 0 0, .int .i64 0, .int .i64 0]

theorem Stays.rzero (base : Nat) : Stays Nil (RZero base) := fun _ _ _ hO h => by
  obtain ⟨g, h1, h2, h3⟩ := h
  exact ⟨g, h1, h2, h3.onlyNil hO⟩


theorem put11r_blk {w : World} {g : Nat} {task call a0 a1 a2 : Int} {A : Option Addr} {n c k : Nat} {E : Int} (h : Blk w g 61 #[.int .i64 0, .int .i64 0, .int .i64 0, .int .i64 0, .int .i64 0, .slice none 0 0, .bool false, .int .i64 0, .slice none 0 0, .int .i64 0, .int .i64 0]) :
    Blk (put11 w g task call a0 a1 a2 A n c k E) g 61 #[.int .i64 task, .int .i64 call, .int .i64 a0, .int .i64 a1, .int .i64 a2, .slice A n c, .bool false, .int .i64 0, .slice none 0 0, .int .i64 k, .int .i64 E] :=
  by
    have := ((((((((((h.set_ 0 (.int .i64 task)).set_ 1 (.int .i64 call)).set_ 2 (.int .i64 a0)).set_ 3 (.int .i64 a1)).set_ 4 (.int .i64 a2)).set_ 5 (.slice A n c)).set_ 6 (.bool false)).set_ 7 (.int .i64 0)).set_ 8 (.slice none 0 0)).set_ 9 (.int .i64 k)).set_ 10 (.int .i64 E)
    simp only [List.setIfInBounds_toArray, List.set_cons_succ, List.set_cons_zero] at this
    exact this


def RAgg (base : Nat) (task call a0 a1 a2 : Int) (data : List UInt8) (k : Nat) (E : Int) : VPred := fun v w => ∃ A c, v = .agg #[.int .i64 task, .int .i64 call, .int .i64 a0, .int .i64 a1, .int .i64 a2, .slice A data.length c, .bool false, .int .i64 0, .slice none 0 0, .int .i64 k, .int .i64 E] ∧
  w.ownsRow base 5 1 (.slice A data.length c) data.length (bcells data)
theorem Stays.ragg (base : Nat) (task call a0 a1 a2 : Int) (data : List UInt8) (k : Nat) (E : Int) : Stays Nil (RAgg base task call a0 a1 a2 data k E) := fun _ _ _ hO h => by
  obtain ⟨A, c, h1, h2⟩ := h
  exact ⟨A, c, h1, own_onlyNil h2 hO⟩

set_option maxRecDepth 100000 in
set_option maxHeartbeats 4000000 in
theorem Ref.calls_any (A : Option Addr) (c : Nat) (rs : List ER) (w : World) (h : Es w w.heap.size A rs) (hl : rs.length ≤ 1099511627776) (hd : ∀ r ∈ rs, r.x.data.length ≤ 1099511627776) :
    Calls Try.prog 16 #[.slice A rs.length c] w (RCallsPost (rs.map ER.x) w) := by
  obtain ⟨j0, hj0, hy0, hy1, hy2⟩ := info_parts rcall_info
  obtain ⟨N, hN⟩ : ∃ N, rs.length = N := ⟨_, rfl⟩
  have HN := Lib.hid hN
  have HE := Lib.hid h
  have HDL := Lib.hid hd
  rw [hN] at hl ⊢
  clear hN h hd
  go_enter Try.func16, Try.ntmps16
  go_wp2_with fail
  go_loopw [4, 3] (fun i v wr => ∃ (k : Nat) (A' : Option Addr) (c' : Nat) (os : List CR), k ≤ N ∧ i = .int .i64 k ∧ v = .slice A' os.length c' ∧ os.length ≤ c' ∧ os.map CR.x = callsP (rs.map ER.x) k ∧ RRow wr w.heap.size A' c' os ∧ Only Nil w wr) (fun i _ _ => N - (intOf i).toNat)
  case atStart => exact ⟨0, none, 0, [], Nat.zero_le _, rfl, rfl, Nat.le_refl _, rfl, ⟨World.ownsRow_nil _ _ _ _, fun r hr => by cases hr⟩, Only.refl _ _⟩
  case round =>
    obtain ⟨k, A', c', os, hk, rfl, rfl, hoc, hos, hrow, hO⟩ := hrel
    obtain ⟨M, hM⟩ : ∃ M, os.length = M := ⟨_, rfl⟩
    rw [hM] at hoc ⊢
    have HMN : Hid (M ≤ k) := Lib.hid (by have := callsP_len (rs.map ER.x) k; rw [← hos, List.length_map, hM] at this; exact this)
    have HM := Lib.hid hM
    have HOC := Lib.hid hoc
    have HOS := Lib.hid hos
    have HROW := Lib.hid hrow
    have HO := Lib.hid hO
    clear hM hoc hos hrow hO
    by_cases hlt : k < N
    · obtain ⟨r, hr⟩ : ∃ r, rs[k]? = some r := ⟨rs[k]'(by rw [HN.out]; exact hlt), List.getElem?_eq_getElem _⟩
      obtain ⟨b, off, rfl, hb, hcs⟩ := (HE.out.next HO.out).at_ hr
      have hgd : (rs.map ER.x).getD k zEn = r.x := by rw [List.getD_eq_getElem?_getD, List.getElem?_map, hr]; rfl
      have hok := (HE.out.next HO.out).ok r (List.mem_of_getElem? hr)
      have hdl := HDL.out r (List.mem_of_getElem? hr)
      have hcp : callsP (rs.map ER.x) (k + 1) = if r.x.kind = 1 then callsP (rs.map ER.x) k ++ [callAt (rs.map ER.x) k r.x] else callsP (rs.map ER.x) k := by rw [callsP, hgd]
      obtain ⟨E, hE⟩ : ∃ E, endsFrom r.x.task ((rs.map ER.x).drop (k + 1)) (k + 1) = E := ⟨_, rfl⟩
      have hER := endsFrom_range r.x.task ((rs.map ER.x).drop (k + 1)) (k + 1)
      have hca : callAt (rs.map ER.x) k r.x = if 0 ≤ E then ⟨r.x.task, r.x.call, r.x.a0, r.x.a1, r.x.a2, r.x.data, true, ((rs.map ER.x).getD E.toNat zEn).result, ((rs.map ER.x).getD E.toNat zEn).data, k, E⟩ else ⟨r.x.task, r.x.call, r.x.a0, r.x.a1, r.x.a2, r.x.data, false, 0, [], k, E⟩ := by
        unfold callAt
        rw [hE]
      obtain ⟨CA, hCA⟩ : ∃ CA, callAt (rs.map ER.x) k r.x = CA := ⟨_, rfl⟩
      rw [hCA] at hca hcp
      rw [hE] at hER
      have hER' : E = -1 ∨ ((k : Int) + 1 ≤ E ∧ E < N) := by
        rw [List.length_drop, List.length_map, HN.out] at hER
        omega
      have HOK := Lib.hid hok
      have HDR := Lib.hid hdl
      have HCP := Lib.hid hcp
      have HCA := Lib.hid hca
      have HER := Lib.hid hER'
      have HEE := Lib.hid hE
      clear hr hgd hok hdl hcp hca hER hER' hE hb hCA
      obtain ⟨Ax, cx, kind, task, call, a0, a1, a2, result, data⟩ := r
      have c0 : wr.cell? ⟨b, off + k * 8, none⟩ = some (.int .i64 kind) := hcs 0 _ rfl
      have c1 : wr.cell? ⟨b, off + k * 8 + 1, none⟩ = some (.int .i64 task) := hcs 1 _ rfl
      have c2 : wr.cell? ⟨b, off + k * 8 + 2, none⟩ = some (.int .i64 call) := hcs 2 _ rfl
      have c3 : wr.cell? ⟨b, off + k * 8 + 3, none⟩ = some (.int .i64 a0) := hcs 3 _ rfl
      have c4 : wr.cell? ⟨b, off + k * 8 + 4, none⟩ = some (.int .i64 a1) := hcs 4 _ rfl
      have c5 : wr.cell? ⟨b, off + k * 8 + 5, none⟩ = some (.int .i64 a2) := hcs 5 _ rfl
      have c6 : wr.cell? ⟨b, off + k * 8 + 6, none⟩ = some (.int .i64 result) := hcs 6 _ rfl
      have c7 : wr.cell? ⟨b, off + k * 8 + 7, none⟩ = some (.slice Ax data.length cx) := hcs 7 _ rfl
      dsimp only at HCP HCA HDR
      clear hcs
      by_cases h1 : kind = 1
      rotate_left
      · have n1 : (kind != 1) = true := by simp [h1]
        rw [if_neg h1] at HCP
        clear h1
        go_wp2_with fail
        go_roundw
        case rel => exact ⟨k + 1, A', c', os, by omega, by go_num, by rw [HM.out], by rw [HM.out]; exact HOC.out, by rw [HCP.out]; exact HOS.out, HROW.out, HO.out⟩
        case measure => simp [intOf]; omega
      subst h1
      rw [if_pos rfl] at HCP
      have HOK4 : Hid (Bs wr wr.heap.size Ax data) := Lib.hid HOK.out.data
      have HCELL : Hid (∀ u, Only Nil wr u → u.cell? ⟨b, off + k * 8 + 1, none⟩ = some (.int .i64 task) ∧ u.cell? ⟨b, off + k * 8 + 2, none⟩ = some (.int .i64 call) ∧ u.cell? ⟨b, off + k * 8 + 3, none⟩ = some (.int .i64 a0) ∧ u.cell? ⟨b, off + k * 8 + 4, none⟩ = some (.int .i64 a1) ∧ u.cell? ⟨b, off + k * 8 + 5, none⟩ = some (.int .i64 a2) ∧ u.cell? ⟨b, off + k * 8 + 7, none⟩ = some (.slice Ax data.length cx)) := Lib.hid (fun u hO =>
        ⟨(hO.cell (lt_of_cell c1) (fun h => h)).trans c1, (hO.cell (lt_of_cell c2) (fun h => h)).trans c2, (hO.cell (lt_of_cell c3) (fun h => h)).trans c3, (hO.cell (lt_of_cell c4) (fun h => h)).trans c4, (hO.cell (lt_of_cell c5) (fun h => h)).trans c5, (hO.cell (lt_of_cell c7) (fun h => h)).trans c7⟩)
      have hki : (k : Int) < N := by omega
      go_upto_region 6 with fail
      go_cut [5] (fun p wd => ∃ gc Ad cd, p = .pointer (some ⟨gc, 0, none⟩) ∧ Blk wd gc 61 #[.int .i64 task, .int .i64 call, .int .i64 a0, .int .i64 a1, .int .i64 a2, .slice Ad data.length cd, .bool false, .int .i64 0, .slice none 0 0, .int .i64 k, .int .i64 (-1)] ∧ wr.heap.size ≤ gc ∧
        wd.ownsRow wr.heap.size 5 1 (.slice Ad data.length cd) data.length (bcells data) ∧ Only Nil wr wd)
      case first =>
        obtain ⟨i0, hi0, hz0, hz1, hz2⟩ := info_parts byte_info
        have HIN : Hid (∀ (L : Nat → Bool) (vs : Nat → Value) (u u' : World), Only Nil u u' → (fun _ _ u => Only Nil wr u) L vs u → (fun _ _ u => Only Nil wr u) L vs u') := Lib.hid (fun L vs u u' hO hI => by
          exact hI.thenNil hO)
        refine wp_region_any (by kernel_rfl) ?_
        change wpAny _ _ _ _ _ _ _ (World.drew _)
        refine take_first (i := 0) (v := ?v0_1) (some 20) rfl (by rfl) (by kernel_rfl) (by kernel_rfl) (by kernel_rfl) (fun _ _ _ h => h) (Or.inl ⟨by rfl, ?hy0_1⟩) ?rest0_1
        case hy0_1 => (intro w; go_simp <;> with_reducible rfl)
        refine take_first (i := 1) (v := ?v1_1) (some 21) rfl (by rfl) (by kernel_rfl) (by kernel_rfl) (by kernel_rfl) (fun _ _ _ h => h) (Or.inl ⟨by rfl, ?hy1_1⟩) ?rest1_1
        case hy1_1 => (intro w; go_simp <;> with_reducible rfl)
        refine take_first (i := 2) (v := ?v2_1) (some 22) rfl (by rfl) (by kernel_rfl) (by kernel_rfl) (by kernel_rfl) (fun _ _ _ h => h) (Or.inl ⟨by rfl, ?hy2_1⟩) ?rest2_1
        case hy2_1 => (intro w; go_simp <;> with_reducible rfl)
        refine take_first (i := 3) (v := ?v3_1) (some 23) rfl (by rfl) (by kernel_rfl) (by kernel_rfl) (by kernel_rfl) (fun _ _ _ h => h) (Or.inl ⟨by rfl, ?hy3_1⟩) ?rest3_1
        case hy3_1 => (intro w; go_simp <;> with_reducible rfl)
        refine take_first (i := 5) (v := ?v5_1) (some 25) rfl (by rfl) (by kernel_rfl) (by kernel_rfl) (by kernel_rfl) (fun _ _ _ h => h) (Or.inl ⟨by rfl, ?hy5_1⟩) ?rest5_1
        case hy5_1 => (intro w; go_simp <;> with_reducible rfl)
        refine take_first (i := 6) (v := ?v6_1) (some 26) rfl (by rfl) (by kernel_rfl) (by kernel_rfl) (by kernel_rfl) (fun _ _ _ h => h) (Or.inl ⟨by rfl, ?hy6_1⟩) ?rest6_1
        case hy6_1 => (intro w; go_simp <;> with_reducible rfl)
        refine take_first (i := 7) (v := ?v7_1) (some 27) rfl (by rfl) (by kernel_rfl) (by kernel_rfl) (by kernel_rfl) (fun _ _ _ h => h) (Or.inl ⟨by rfl, ?hy7_1⟩) ?rest7_1
        case hy7_1 => (intro w; go_simp <;> with_reducible rfl)
        refine take_first (i := 8) (v := ?v8_1) (some 28) rfl (by rfl) (by kernel_rfl) (by kernel_rfl) (by kernel_rfl) (fun _ _ _ h => h) (Or.inl ⟨by rfl, ?hy8_1⟩) ?rest8_1
        case hy8_1 => (intro w; go_simp <;> with_reducible rfl)
        refine take_first (i := 10) (v := ?v10_1) (some 30) rfl (by rfl) (by kernel_rfl) (by kernel_rfl) (by kernel_rfl) (fun _ _ _ h => h) (Or.inl ⟨by rfl, ?hy10_1⟩) ?rest10_1
        case hy10_1 => (intro w; go_simp <;> with_reducible rfl)
        refine take_first (i := 11) (v := ?v11_1) (some 31) rfl (by rfl) (by kernel_rfl) (by kernel_rfl) (by kernel_rfl) (fun _ _ _ h => h) (Or.inl ⟨by rfl, ?hy11_1⟩) ?rest11_1
        case hy11_1 => (intro w; go_simp <;> with_reducible rfl)
        refine take_first (i := 12) (v := ?v12_1) (some 32) rfl (by rfl) (by kernel_rfl) (by kernel_rfl) (by kernel_rfl) (fun _ _ _ h => h) (Or.inl ⟨by rfl, ?hy12_1⟩) ?rest12_1
        case hy12_1 => (intro w; go_simp <;> with_reducible rfl)
        refine take_first (i := 13) (v := ?v13_1) (some 33) rfl (by rfl) (by kernel_rfl) (by kernel_rfl) (by kernel_rfl) (fun _ _ _ h => h) (Or.inl ⟨by rfl, ?hy13_1⟩) ?rest13_1
        case hy13_1 => (intro w; go_simp <;> with_reducible rfl)
        refine take_first (i := 16) (v := ?v16_1) (some 36) rfl (by rfl) (by kernel_rfl) (by kernel_rfl) (by kernel_rfl) (fun _ _ _ h => h) (Or.inl ⟨by rfl, ?hy16_1⟩) ?rest16_1
        case hy16_1 => (intro w; go_simp <;> with_reducible rfl)
        refine take_first (i := 17) (v := ?v17_1) (some 37) rfl (by rfl) (by kernel_rfl) (by kernel_rfl) (by kernel_rfl) (fun _ _ _ h => h) (Or.inl ⟨by rfl, ?hy17_1⟩) ?rest17_1
        case hy17_1 => (intro w; go_simp <;> with_reducible rfl)
        refine take_first (i := 18) (v := ?v18_1) (some 38) rfl (by rfl) (by kernel_rfl) (by kernel_rfl) (by kernel_rfl) (fun _ _ _ h => h) (Or.inl ⟨by rfl, ?hy18_1⟩) ?rest18_1
        case hy18_1 => (intro w; go_simp <;> with_reducible rfl)
        refine take_first (i := 19) (v := ?v19_1) (some 39) rfl (by rfl) (by kernel_rfl) (by kernel_rfl) (by kernel_rfl) (fun _ _ _ h => h) (Or.inl ⟨by rfl, ?hy19_1⟩) ?rest19_1
        case hy19_1 => (intro w; go_simp <;> with_reducible rfl)
        refine take_first (i := 22) (v := ?v22_1) (some 42) rfl (by rfl) (by kernel_rfl) (by kernel_rfl) (by kernel_rfl) (fun _ _ _ h => h) (Or.inl ⟨by rfl, ?hy22_1⟩) ?rest22_1
        case hy22_1 => (intro w; go_simp <;> with_reducible rfl)
        refine wpAny_inv2 (X := [(4, some 24, []), (9, some 29, []), (14, some 34, []), (15, some 35, []), (20, some 40, []), (21, some 41, [15, 20]), (23, some 43, [4, 9, 14, 21]), (24, some 5, [])]) (n := 8) (g := 1) (m := 25) (l0 := [true, true, true, true, false, true, true, true, true, false, true, true, true, true, false, false, true, true, true, true, false, false, true, false, false, false]) (T := Nil) (Ps := [Any, Any, Any, Any, Cst (.int .i64 task), Any, Any, Any, Any, Cst (.int .i64 call), Any, Any, Any, Any, Cst (.agg #[.int .i64 a0, .int .i64 a1, .int .i64 a2]), Emp 5 wr.heap.size, Any, Any, Any, Any, Cst (.slice Ax data.length cx), OwnB 5 wr.heap.size data, Any, RAgg wr.heap.size task call a0 a1 a2 data k (-1), RZero wr.heap.size])
          (I := fun _ _ u => Only Nil wr u)
          (by kernel_rfl) rfl (by kernel_rfl) (by kernel_rfl) (by kernel_rfl) rfl ?h0_1 ?st_1 ?i0_1 ?step_1 ?fin_1
        case h0_1 =>
          intro j hj v u
          match j, hj with
          | 0, hj => trivial
          | 1, hj => trivial
          | 2, hj => trivial
          | 3, hj => trivial
          | 4, hj => exact absurd hj (by decide)
          | 5, hj => trivial
          | 6, hj => trivial
          | 7, hj => trivial
          | 8, hj => trivial
          | 9, hj => exact absurd hj (by decide)
          | 10, hj => trivial
          | 11, hj => trivial
          | 12, hj => trivial
          | 13, hj => trivial
          | 14, hj => exact absurd hj (by decide)
          | 15, hj => exact absurd hj (by decide)
          | 16, hj => trivial
          | 17, hj => trivial
          | 18, hj => trivial
          | 19, hj => trivial
          | 20, hj => exact absurd hj (by decide)
          | 21, hj => exact absurd hj (by decide)
          | 22, hj => trivial
          | 23, hj => exact absurd hj (by decide)
          | 24, hj => exact absurd hj (by decide)
          | 25, hj => exact absurd hj (by decide)
          | n + 26, hj => exact absurd hj (by simp)
        case st_1 =>
          have hT : ∀ x, (Nil) x → x < wr.heap.size := fun x h => h.elim
          intro p hp
          simp only [List.mem_cons, List.not_mem_nil, or_false] at hp
          rcases hp with rfl | rfl | rfl | rfl | rfl | rfl | rfl | rfl | rfl | rfl | rfl | rfl | rfl | rfl | rfl | rfl | rfl | rfl | rfl | rfl | rfl | rfl | rfl | rfl | rfl <;> first | exact Stays.cst _ | exact Stays.own hT | exact Stays.emp hT | exact Stays.any | exact Stays.ownNil | exact Stays.ragg _ _ _ _ _ _ _ _ _ | exact Stays.rzero _
        case i0_1 =>
          intro vs
          exact (Only.refl _ _).drew
        case step_1 =>
          intro x hx L vs u hI hA h0 hd
          simp only [List.mem_cons, List.not_mem_nil, or_false] at hx
          rcases hx with rfl | rfl | rfl | rfl | rfl | rfl | rfl | rfl
          · refine inv_step _ (by rfl) (by rfl) (fun K' hK => ?_)
            simp only [putAll, Act.put, List.setIfInBounds_toArray, List.set_cons_succ, List.set_cons_zero] at hK ⊢
            obtain ⟨k1, k2, k3, k4, k5, k7⟩ := HCELL.out _ hI
            go_simp
            exact hK _ _ ⟨Only.refl _ _, hI, rfl⟩
          · refine inv_step _ (by rfl) (by rfl) (fun K' hK => ?_)
            simp only [putAll, Act.put, List.setIfInBounds_toArray, List.set_cons_succ, List.set_cons_zero] at hK ⊢
            obtain ⟨k1, k2, k3, k4, k5, k7⟩ := HCELL.out _ hI
            go_simp
            exact hK _ _ ⟨Only.refl _ _, hI, rfl⟩
          · refine inv_step _ (by rfl) (by rfl) (fun K' hK => ?_)
            simp only [putAll, Act.put, List.setIfInBounds_toArray, List.set_cons_succ, List.set_cons_zero] at hK ⊢
            obtain ⟨k1, k2, k3, k4, k5, k7⟩ := HCELL.out _ hI
            go_simp
            exact hK _ _ ⟨Only.refl _ _, hI, rfl⟩
          · refine inv_step _ (by rfl) (by rfl) (fun K' hK => ?_)
            simp only [putAll, Act.put, List.setIfInBounds_toArray, List.set_cons_succ, List.set_cons_zero] at hK ⊢
            go_simp
            exact hK _ _ ⟨(Only.refl _ _).alloc _, HIN.out L vs _ _ ((Only.refl _ _).alloc _) hI, ⟨_, rfl, hI.size, Blk.new _ _ _⟩⟩
          · refine inv_step _ (by rfl) (by rfl) (fun K' hK => ?_)
            simp only [putAll, Act.put, List.setIfInBounds_toArray, List.set_cons_succ, List.set_cons_zero] at hK ⊢
            obtain ⟨k1, k2, k3, k4, k5, k7⟩ := HCELL.out _ hI
            go_simp
            exact hK _ _ ⟨Only.refl _ _, hI, rfl⟩
          · refine inv_step _ (by rfl) (by rfl) (fun K' hK => ?_)
            simp only [putAll, Act.put, List.setIfInBounds_toArray, List.set_cons_succ, List.set_cons_zero] at hK
            have e20 := hA 20 (hd 20 (by simp))
            change vs 20 = (.slice Ax data.length cx) at e20
            obtain ⟨g0, e15, hg0, hE0⟩ := hA 15 (hd 15 (by simp))
            refine step_append_new (by rfl) (.tmp 35) (.tmp 40) _ (by rfl) wr.heap.size 5 i0 (.int .u8 0) 1 1 Try.underlying38 hi0 hz0 hz1 hz2 rfl Nat.zero_lt_one g0 (by simp [Act.eval, putAll, Act.put, e15]) hE0 hg0 _ _ data.length _ (bcells data) (by simp [Act.eval, putAll, Act.put, e20] <;> rfl) (Rd.more (HOK4.out.onlyNil hI (Nat.le_refl _)) hI.size) (bcells_one _) (by have := HDR.out; unfold maxLen; omega) (by have := HDR.out; omega) hI.size ?_
            intro A3 c3 u3 hc3 hown3 hO3 hat3
            simp only [putAll, Act.put, List.setIfInBounds_toArray, List.set_cons_succ, List.set_cons_zero]
            exact hK _ _ ⟨hO3, hI.thenNil hO3, ⟨A3, c3, rfl, hc3, hown3⟩⟩
          · refine inv_step _ (by rfl) (by rfl) (fun K' hK => ?_)
            simp only [putAll, Act.put, List.setIfInBounds_toArray, List.set_cons_succ, List.set_cons_zero] at hK ⊢
            have e4 := hA 4 (hd 4 (by simp))
            change vs 4 = (.int .i64 task) at e4
            have e9 := hA 9 (hd 9 (by simp))
            change vs 9 = (.int .i64 call) at e9
            have e14 := hA 14 (hd 14 (by simp))
            change vs 14 = (.agg #[.int .i64 a0, .int .i64 a1, .int .i64 a2]) at e14
            simp only [e4, e9, e14] at hK
            obtain ⟨A2, c2, e21, hc2, ho2⟩ := hA 21 (hd 21 (by simp))
            simp only [e21] at hK
            have hz := rcall_zero
            go_simp
            exact hK _ _ ⟨Only.refl _ _, hI, ⟨A2, c2, rfl, ho2⟩⟩
          · refine inv_step _ (by rfl) (by rfl) (fun K' hK => ?_)
            simp only [putAll, Act.put, List.setIfInBounds_toArray, List.set_cons_succ, List.set_cons_zero] at hK ⊢
            go_simp
            exact hK _ _ ⟨(Only.refl _ _).alloc _, HIN.out L vs _ _ ((Only.refl _ _).alloc _) hI, ⟨_, rfl, hI.size, Blk.new _ _ _⟩⟩
        case fin_1 =>
          intro L vs u hI hL hA
          simp only [putAll, Act.put, List.setIfInBounds_toArray, List.set_cons_succ, List.set_cons_zero, List.drop_succ_cons, List.drop_zero]
          obtain ⟨A2, c2, e23, ho2⟩ := hA 23 (by omega)
          obtain ⟨g, e24, hg, hz⟩ := hA 24 (by omega)
          simp only [e23, e24]
          have kz : ∀ i, u.cell? ⟨g, i, none⟩ = #[Value.int .i64 0, .int .i64 0, .int .i64 0, .int .i64 0, .int .i64 0, .slice none 0 0, .bool false, .int .i64 0, .slice none 0 0, .int .i64 0, .int .i64 0][i]? := fun i => hz.cell i
          have fz : ∀ i, u.frozen? ⟨g, i, none⟩ = false := fun i => hz.frozen i
          have HZ := Lib.hid hz
          have HI5 := Lib.hid hI
          have HOW5 := Lib.hid ho2
          clear hA hL hz e23 e24 hI ho2
          go_wp2_with fail
          go_meet
          case rel =>
            have hS : Only (One g) u (put11 u g task call a0 a1 a2 A2 data.length c2 k (-1)) := put11_only _ _ _ _ _ _ _ _ _ _ _ _
            exact ⟨g, A2, c2, rfl, put11r_blk HZ.out, hg, own_only HOW5.out hS (fun q hq hx => own_blk_ne HOW5.out HZ.out (by decide) (by rw [hq, hx])), HI5.out.trans hS (fun x hx => .inr (by unfold One at hx; omega))⟩
      case rest =>
        obtain ⟨gc, Ad, cd, rfl, hbc, hgc, hod, hO6⟩ := hcut
        have HBC := Lib.hid hbc
        have HOD := Lib.hid hod
        have HROW6 := Lib.hid (HROW.out.onlyNil hO6)
        have HNR : Hid (∀ q, (Value.slice A' os.length c').ownBlock = some q → ¬ One gc q) := Lib.hid (fun q hq hx => by have := own_lt HROW.out.row hq; unfold One at hx; omega)
        have HO6 := Lib.hid (HO.out.thenNil hO6)
        have hgw : w.heap.size ≤ gc := Nat.le_trans HO.out.size hgc
        have hco : Hid (wc.ownsRow w.heap.size 5 1 (.slice Ad data.length cd) data.length (bcells data)) := Lib.hid (own_base HOD.out HO.out.size)
        clear hbc hod hO6 c0 c1 c2 c3 c4 c5 c6 c7
        obtain ⟨EF, hEF⟩ : ∃ EF, endsFrom task ((rs.map ER.x).drop (k + 1)) (k + 1) = EF := ⟨_, rfl⟩
        have HEF := Lib.hid hEF
        have hEE : EF = E := by rw [← hEF]; exact HEE.out
        subst hEE
        clear hEF
        go_upto_block 2 with fail
        go_cut [] from 46 to 89 (fun wd => ∃ Ar cr, Blk wd gc 61 (CR.cells ⟨Ad, cd, Ar, cr, CA⟩).toArray ∧
            wd.ownsRow w.heap.size 5 1 (.slice Ad data.length cd) data.length (bcells data) ∧
            wd.ownsRow w.heap.size 5 1 (.slice Ar CA.reply.length cr) CA.reply.length (bcells CA.reply) ∧
            RRow wd w.heap.size A' c' os ∧ Only Nil w wd)
        case first =>
          obtain ⟨w6, rfl⟩ : ∃ w6, w6 = wc := ⟨_, rfl⟩
          go_wp2_with fail
          go_loopw [6] (fun i wr => ∃ kk : Nat, kk ≤ N ∧ k + 1 ≤ kk ∧ i = .int .i64 kk ∧ endsFrom task ((rs.map ER.x).drop kk) kk = EF ∧ Only Nil w6 wr) (fun i _ => N - (intOf i).toNat)
          case atStart => exact ⟨k + 1, by omega, Nat.le_refl _, by go_num, HEF.out, Only.refl _ _⟩
          case round =>
            obtain ⟨kk, hkk, hkk1, rfl, hef, hO7⟩ := hrel
            have HO67 := Lib.hid hO7
            have HEK := Lib.hid hef
            have HO7 := Lib.hid (HO6.out.thenNil hO7)
            have HB7 := Lib.hid (HBC.out.onlyNil hO7)
            have HR7 := Lib.hid (HROW6.out.onlyNil hO7)
            have HC7 := Lib.hid (own_onlyNil hco.out hO7)
            clear hef hO7
            obtain ⟨w7, rfl⟩ : ∃ w7, w7 = wr := ⟨_, rfl⟩
            by_cases hlt2 : kk < N
            rotate_left
            · have hkN : kk = N := by omega
              have hE1 : EF = -1 := by
                have h1 := HEK.out
                rw [List.drop_eq_nil_of_le (by rw [List.length_map, HN.out]; omega)] at h1
                rw [← h1]; rfl
              have HCA2 := Lib.hid HCA.out
              rw [if_neg (by omega)] at HCA2
              clear hkN
              have hkki : ¬ (kk : Int) < N := by omega
              go_wp2_with fail
              go_meet
              case rel =>
                subst hE1
                rw [HCA2.out]
                exact ⟨none, 0, HB7.out, HC7.out, World.ownsRow_nil _ _ _ _, HR7.out, HO7.out⟩
            obtain ⟨ry, hry⟩ : ∃ r, rs[kk]? = some r := ⟨rs[kk]'(by rw [HN.out]; exact hlt2), List.getElem?_eq_getElem _⟩
            have hgy : (rs.map ER.x).getD kk zEn = ry.x := by rw [List.getD_eq_getElem?_getD, List.getElem?_map, hry]; rfl
            have hdrop := drop_map_succ hry
            obtain ⟨b2, off2, e2, hb2, hcs⟩ := (HE.out.next HO7.out).at_ hry
            have hoky := (HE.out.next HO7.out).ok ry (List.mem_of_getElem? hry)
            have hdly := HDL.out ry (List.mem_of_getElem? hry)
            injection e2 with e2
            injection e2 with e3 e4 _
            subst e3 e4
            have HOKY := Lib.hid hoky.data
            have HDY := Lib.hid hdly
            have HGY := Lib.hid hgy
            have hef2 := HEK.out
            rw [hdrop] at hef2
            have HEF2 := Lib.hid hef2
            clear hry hgy hoky hdly hb2 hdrop hef2
            obtain ⟨Ay, cy, kind', task', call', b0, b1, b3, result', data'⟩ := ry
            have c0 : w7.cell? ⟨b, off + kk * 8, none⟩ = some (.int .i64 kind') := hcs 0 _ rfl
            have c1 : w7.cell? ⟨b, off + kk * 8 + 1, none⟩ = some (.int .i64 task') := hcs 1 _ rfl
            have c2 : w7.cell? ⟨b, off + kk * 8 + 2, none⟩ = some (.int .i64 call') := hcs 2 _ rfl
            have c3 : w7.cell? ⟨b, off + kk * 8 + 3, none⟩ = some (.int .i64 b0) := hcs 3 _ rfl
            have c4 : w7.cell? ⟨b, off + kk * 8 + 4, none⟩ = some (.int .i64 b1) := hcs 4 _ rfl
            have c5 : w7.cell? ⟨b, off + kk * 8 + 5, none⟩ = some (.int .i64 b3) := hcs 5 _ rfl
            have c6 : w7.cell? ⟨b, off + kk * 8 + 6, none⟩ = some (.int .i64 result') := hcs 6 _ rfl
            have c7 : w7.cell? ⟨b, off + kk * 8 + 7, none⟩ = some (.slice Ay data'.length cy) := hcs 7 _ rfl
            dsimp only at HGY HOKY HDY HEF2
            have hkki : (kk : Int) < N := by omega
            clear hcs
            go_upto_region 10 with fail
            go_cut [7] (fun p wd => ∃ gy, p = .pointer (some ⟨gy, 0, none⟩) ∧ Blk wd gy 42 #[Value.int .i64 kind', .int .i64 task', .int .i64 call', .int .i64 b0, .int .i64 b1, .int .i64 b3, .int .i64 result', .slice Ay data'.length cy] ∧ gc < gy ∧ Only Nil w7 wd)
            case first =>
              have hgc0 := HB7.out.lt
              go_wp2_with fail
              go_meet
              case rel => exact ⟨_, rfl, Blk.new _ _ _, hgc0, by (repeat' (first | with_reducible exact Only.refl _ _ | with_reducible refine Only.setCell ?_ (Or.inl ?_) _ | with_reducible refine Only.drewN ?_ _ | with_reducible refine Only.drew ?_ | with_reducible refine Only.alloc ?_ _ | (fail)))⟩
            case rest =>
              obtain ⟨gy, rfl, hby, hgy, hO8⟩ := hcut
              have HBY := Lib.hid hby
              have HBC8 := Lib.hid (HB7.out.onlyNil hO8)
              have HOKY8 : Hid (Bs wc wc.heap.size Ay data') := Lib.hid ((HOKY.out.onlyNil hO8 (Nat.le_refl _)).up hO8.size)
              have HRW8 := Lib.hid (HR7.out.onlyNil hO8)
              have HCO8 := Lib.hid (own_onlyNil HC7.out hO8)
              have HO68 := Lib.hid (HO67.out.thenNil hO8)
              have HO78 := Lib.hid hO8
              have HO8 := Lib.hid (HO7.out.thenNil hO8)
              have HLT : Hid (gc < wc.heap.size) := Lib.hid HBC8.out.lt
              have HNG : Hid (¬ One gc gy) := Lib.hid (fun hx => by unfold One at hx; omega)
              have ky : ∀ i, wc.cell? ⟨gy, i, none⟩ = #[Value.int .i64 kind', .int .i64 task', .int .i64 call', .int .i64 b0, .int .i64 b1, .int .i64 b3, .int .i64 result', .slice Ay data'.length cy][i]? := fun i => hby.cell i
              have kc : ∀ i, wc.cell? ⟨gc, i, none⟩ = #[Value.int .i64 task, .int .i64 call, .int .i64 a0, .int .i64 a1, .int .i64 a2, .slice Ad data.length cd, .bool false, .int .i64 0, .slice none 0 0, .int .i64 k, .int .i64 (-1)][i]? := fun i => HBC8.out.cell i
              clear hby hO8 c0 c1 c2 c3 c4 c5 c6 c7
              by_cases hT : task' = task
              rotate_left
              · have h1 : (task' == task) = false := beq_false_of_ne hT
                have h2 : (task' != task) = true := by simp [hT]
                have HNX := Lib.hid (show endsFrom task ((rs.map ER.x).drop (kk + 1)) (kk + 1) = EF by have := HEF2.out; rw [endsFrom, if_neg hT] at this; exact this)
                clear hT
                go_wp2_with fail
                go_roundw
                case rel => exact ⟨kk + 1, by omega, by omega, by go_num, HNX.out, HO68.out⟩
                case measure => simp [intOf]; omega
              have h1 : (task' == task) = true := by simp [hT]
              have h2 : (task' != task) = false := by simp [hT]
              have HEF3 := Lib.hid (show (if kind' = 2 then (kk : Int) else if kind' = 1 then -1 else if kind' = 6 then -1 else endsFrom task ((rs.map ER.x).drop (kk + 1)) (kk + 1)) = EF by have := HEF2.out; rw [endsFrom, if_pos hT] at this; exact this)
              clear hT
              by_cases hk2 : kind' = 2
              · subst hk2
                have hEk := HEF3.out
                rw [if_pos rfl] at hEk
                have HCA2 := Lib.hid HCA.out
                rw [← hEk, if_pos (by omega), Int.toNat_natCast, HGY.out] at HCA2
                have HEk := Lib.hid hEk
                clear hEk
                dsimp only at HCA2
                go_upto_if 78 with fail
                obtain ⟨i0, hi0, hz0, hz1, hz2⟩ := info_parts byte_info
                go_wp2_with fail
                have HIN : Hid (∀ (L : Nat → Bool) (vs : Nat → Value) (u u' : World), Only Nil u u' → (fun L _ u => Only (One gc) wc u ∧ Blk u gc 61 #[.int .i64 task, .int .i64 call, .int .i64 a0, .int .i64 a1, .int .i64 a2, .slice Ad data.length cd, .bool (L 8), .int .i64 (if L 10 = true then result' else 0), .slice none 0 0, .int .i64 k, .int .i64 (-1)]) L vs u → (fun L _ u => Only (One gc) wc u ∧ Blk u gc 61 #[.int .i64 task, .int .i64 call, .int .i64 a0, .int .i64 a1, .int .i64 a2, .slice Ad data.length cd, .bool (L 8), .int .i64 (if L 10 = true then result' else 0), .slice none 0 0, .int .i64 k, .int .i64 (-1)]) L vs u') := Lib.hid (fun L vs u u' hO hI => by
                  exact ⟨hI.1.thenNil hO, hI.2.onlyNil hO⟩)
                refine wp_region_any (by kernel_rfl) ?_
                change wpAny _ _ _ _ _ _ _ (World.drew _)
                refine take_first (i := 0) (v := ?v0_2) (some 79) rfl (by rfl) (by kernel_rfl) (by kernel_rfl) (by kernel_rfl) (fun _ _ _ h => h) (Or.inl ⟨by rfl, ?hy0_2⟩) ?rest0_2
                case hy0_2 => (intro w; go_simp <;> with_reducible rfl)
                refine take_first (i := 3) (v := ?v3_2) (some 82) rfl (by rfl) (by kernel_rfl) (by kernel_rfl) (by kernel_rfl) (fun _ _ _ h => h) (Or.inl ⟨by rfl, ?hy3_2⟩) ?rest3_2
                case hy3_2 => (intro w; go_simp <;> with_reducible rfl)
                refine take_first (i := 6) (v := ?v6_2) (some 85) rfl (by rfl) (by kernel_rfl) (by kernel_rfl) (by kernel_rfl) (fun _ _ _ h => h) (Or.inl ⟨by rfl, ?hy6_2⟩) ?rest6_2
                case hy6_2 => (intro w; go_simp <;> with_reducible rfl)
                refine take_first (i := 7) (v := ?v7_2) (some 86) rfl (by rfl) (by kernel_rfl) (by kernel_rfl) (by kernel_rfl) (fun _ _ _ h => h) (Or.inl ⟨by rfl, ?hy7_2⟩) ?rest7_2
                case hy7_2 => (intro w; go_simp <;> with_reducible rfl)
                refine wpAny_inv2 (X := [(1, some 80, []), (2, some 81, []), (4, some 83, []), (5, some 84, [2, 4]), (8, none, []), (9, some 87, [8]), (10, none, [1, 9])]) (n := 7) (g := 4) (m := 11) (l0 := [true, false, false, true, false, false, true, true, false, false, false, false, false, false, false]) (T := One gc) (Ps := [Any, Cst (.int .i64 result'), Emp 5 wc.heap.size, Any, Cst (.slice Ay data'.length cy), OwnB 5 wc.heap.size data', Any, Any, Any, Cst (.pointer (some ⟨gc, 7, none⟩)), Any])
                  (I := fun L _ u => Only (One gc) wc u ∧ Blk u gc 61 #[.int .i64 task, .int .i64 call, .int .i64 a0, .int .i64 a1, .int .i64 a2, .slice Ad data.length cd, .bool (L 8), .int .i64 (if L 10 = true then result' else 0), .slice none 0 0, .int .i64 k, .int .i64 (-1)])
                  (by kernel_rfl) rfl (by kernel_rfl) (by kernel_rfl) (by kernel_rfl) rfl ?h0_2 ?st_2 ?i0_2 ?step_2 ?fin_2
                case h0_2 =>
                  intro j hj v u
                  match j, hj with
                  | 0, hj => trivial
                  | 1, hj => exact absurd hj (by decide)
                  | 2, hj => exact absurd hj (by decide)
                  | 3, hj => trivial
                  | 4, hj => exact absurd hj (by decide)
                  | 5, hj => exact absurd hj (by decide)
                  | 6, hj => trivial
                  | 7, hj => trivial
                  | 8, hj => exact absurd hj (by decide)
                  | 9, hj => exact absurd hj (by decide)
                  | 10, hj => exact absurd hj (by decide)
                  | 11, hj => exact absurd hj (by decide)
                  | 12, hj => exact absurd hj (by decide)
                  | 13, hj => exact absurd hj (by decide)
                  | 14, hj => exact absurd hj (by decide)
                  | n + 15, hj => exact absurd hj (by simp)
                case st_2 =>
                  have hT : ∀ x, (One gc) x → x < wc.heap.size := fun x h => by unfold One at h; have := HLT.out; omega
                  intro p hp
                  simp only [List.mem_cons, List.not_mem_nil, or_false] at hp
                  rcases hp with rfl | rfl | rfl | rfl | rfl | rfl | rfl | rfl | rfl | rfl | rfl <;> first | exact Stays.cst _ | exact Stays.own hT | exact Stays.emp hT | exact Stays.any
                case i0_2 =>
                  intro vs
                  exact ⟨(Only.refl _ _).drew, HBC8.out.drew⟩
                case step_2 =>
                  intro x hx L vs u hI hA h0 hd
                  simp only [List.mem_cons, List.not_mem_nil, or_false] at hx
                  rcases hx with rfl | rfl | rfl | rfl | rfl | rfl | rfl
                  · refine inv_step _ (by rfl) (by rfl) (fun K' hK => ?_)
                    simp only [putAll, Act.put, List.setIfInBounds_toArray, List.set_cons_succ, List.set_cons_zero] at hK ⊢
                    have ks := fun i => (HBY.out.only hI.1 HNG.out).cell i
                    go_simp
                    exact hK _ _ ⟨Only.refl _ _, hI, rfl⟩
                  · refine inv_step _ (by rfl) (by rfl) (fun K' hK => ?_)
                    simp only [putAll, Act.put, List.setIfInBounds_toArray, List.set_cons_succ, List.set_cons_zero] at hK ⊢
                    go_simp
                    exact hK _ _ ⟨(Only.refl _ _).alloc _, HIN.out L vs _ _ ((Only.refl _ _).alloc _) hI, ⟨_, rfl, hI.1.size, Blk.new _ _ _⟩⟩
                  · refine inv_step _ (by rfl) (by rfl) (fun K' hK => ?_)
                    simp only [putAll, Act.put, List.setIfInBounds_toArray, List.set_cons_succ, List.set_cons_zero] at hK ⊢
                    have ks := fun i => (HBY.out.only hI.1 HNG.out).cell i
                    go_simp
                    exact hK _ _ ⟨Only.refl _ _, hI, rfl⟩
                  · refine inv_step _ (by rfl) (by rfl) (fun K' hK => ?_)
                    simp only [putAll, Act.put, List.setIfInBounds_toArray, List.set_cons_succ, List.set_cons_zero] at hK
                    have e4 := hA 4 (hd 4 (by simp))
                    change vs 4 = (.slice Ay data'.length cy) at e4
                    obtain ⟨g0, e2, hg0, hE0⟩ := hA 2 (hd 2 (by simp))
                    refine step_append_new (by rfl) (.tmp 81) (.tmp 83) _ (by rfl) wc.heap.size 5 i0 (.int .u8 0) 1 1 Try.underlying38 hi0 hz0 hz1 hz2 rfl Nat.zero_lt_one g0 (by simp [Act.eval, putAll, Act.put, e2]) hE0 hg0 _ _ data'.length _ (bcells data') (by simp [Act.eval, putAll, Act.put, e4] <;> rfl) (Rd.more (Bs.box HOKY8.out HBC8.out (by intro i z; match i with | 0 => simp | 1 => simp | 2 => simp | 3 => simp | 4 => simp | 5 => simp | 6 => simp | 7 => simp | 8 => simp | 9 => simp | 10 => simp | n + 11 => simp) hI.1 (Nat.le_refl _)) hI.1.size) (bcells_one _) (by have := HDY.out; unfold maxLen; omega) (by have := HDY.out; omega) hI.1.size ?_
                    intro A3 c3 u3 hc3 hown3 hO3 hat3
                    simp only [putAll, Act.put, List.setIfInBounds_toArray, List.set_cons_succ, List.set_cons_zero]
                    exact hK _ _ ⟨hO3.any, HIN.out L vs _ _ hO3 hI, ⟨A3, c3, rfl, hc3, hown3⟩⟩
                  · refine inv_step _ (by rfl) (by rfl) (fun K' hK => ?_)
                    simp only [putAll, Act.put, List.setIfInBounds_toArray, List.set_cons_succ, List.set_cons_zero] at hK ⊢
                    have kb := fun i => hI.2.cell i
                    have kf := fun i => hI.2.frozen i
                    go_simp
                    refine hK undef _ ⟨(Only.refl _ _).setCell (p := ⟨gc, 6, none⟩) (Or.inl (show One gc gc from rfl)) _, ⟨hI.1.setCell (p := ⟨gc, 6, none⟩) (Or.inl (show One gc gc from rfl)) _, ?_⟩, trivial⟩
                    have hb2 := hI.2.set_ 6 (.bool true)
                    simp only [List.setIfInBounds_toArray, List.set_cons_succ, List.set_cons_zero] at hb2
                    exact hb2
                  · refine inv_step _ (by rfl) (by rfl) (fun K' hK => ?_)
                    simp only [putAll, Act.put, List.setIfInBounds_toArray, List.set_cons_succ, List.set_cons_zero] at hK ⊢
                    go_simp
                    exact hK _ _ ⟨Only.refl _ _, hI, rfl⟩
                  · refine inv_step _ (by rfl) (by rfl) (fun K' hK => ?_)
                    simp only [putAll, Act.put, List.setIfInBounds_toArray, List.set_cons_succ, List.set_cons_zero] at hK ⊢
                    have e1 := hA 1 (hd 1 (by simp))
                    change vs 1 = (.int .i64 result') at e1
                    have e9 := hA 9 (hd 9 (by simp))
                    change vs 9 = (.pointer (some ⟨gc, 7, none⟩)) at e9
                    simp only [e1, e9] at hK
                    have kb := fun i => hI.2.cell i
                    have kf := fun i => hI.2.frozen i
                    go_simp
                    refine hK undef _ ⟨(Only.refl _ _).setCell (p := ⟨gc, 7, none⟩) (Or.inl (show One gc gc from rfl)) _, ⟨hI.1.setCell (p := ⟨gc, 7, none⟩) (Or.inl (show One gc gc from rfl)) _, ?_⟩, trivial⟩
                    have hb2 := hI.2.set_ 7 (.int .i64 result')
                    simp only [List.setIfInBounds_toArray, List.set_cons_succ, List.set_cons_zero] at hb2
                    exact hb2
                case fin_2 =>
                  intro L vs u hI hL hA
                  simp only [putAll, Act.put, List.setIfInBounds_toArray, List.set_cons_succ, List.set_cons_zero, List.drop_succ_cons, List.drop_zero]
                  obtain ⟨hO, hb⟩ := hI
                  rw [hL 8 (by omega), if_pos (hL 10 (by omega))] at hb
                  obtain ⟨A4, c4, e4, hc4, ho4⟩ := hA 5 (by omega)
                  simp only [e4]
                  have kb : ∀ i, u.cell? ⟨gc, i, none⟩ = #[Value.int .i64 task, .int .i64 call, .int .i64 a0, .int .i64 a1, .int .i64 a2, .slice Ad data.length cd, .bool true, .int .i64 result', .slice none 0 0, .int .i64 k, .int .i64 (-1)][i]? := fun i => hb.cell i
                  have kf : ∀ i, u.frozen? ⟨gc, i, none⟩ = false := fun i => hb.frozen i
                  have HBU := Lib.hid hb
                  have HOU := Lib.hid hO
                  have HO4 := Lib.hid ho4
                  clear hA hL hb hO ho4 e4
                  go_wp2_with fail
                  go_meet
                  case rel =>
                    have hS : Only (One gc) u ((u.setCell ⟨gc, 8, none⟩ (.slice A4 data'.length c4)).setCell ⟨gc, 10, none⟩ (.int .i64 kk)) := by (repeat' (first | with_reducible exact Only.refl _ _ | with_reducible refine Only.setCell ?_ (Or.inl ?_) _ | with_reducible refine Only.drewN ?_ _ | with_reducible refine Only.drew ?_ | with_reducible refine Only.alloc ?_ _ | (exact rfl)))
                    have hb8 := (HBU.out.set_ 8 (.slice A4 data'.length c4)).set_ 10 (.int .i64 kk)
                    simp only [List.setIfInBounds_toArray, List.set_cons_succ, List.set_cons_zero] at hb8
                    have hSS := HOU.out.then_ hS
                    have hfar : ∀ {v : Value} {n : Nat} {xs : List Value}, wc.ownsRow w.heap.size 5 1 v n xs → ((u.setCell ⟨gc, 8, none⟩ (.slice A4 data'.length c4)).setCell ⟨gc, 10, none⟩ (.int .i64 kk)).ownsRow w.heap.size 5 1 v n xs := fun h => own_only h hSS (fun q hq hx => own_blk_ne h HBC8.out (by decide) (by rw [hq, hx]))
                    rw [HCA2.out]
                    refine ⟨A4, c4, hb8, hfar HCO8.out, own_base (own_only HO4.out hS (fun q hq hx => own_blk_ne HO4.out HBU.out (by decide) (by rw [hq, hx]))) HO8.out.size, ⟨?_, fun r hr => ⟨hfar (HRW8.out.data r hr).1, hfar (HRW8.out.data r hr).2⟩⟩, HO8.out.trans hSS (fun x hx => .inr (by unfold One at hx; omega))⟩
                    exact own_only HRW8.out.row hSS (fun q hq hx => HNR.out q hq hx)
              have k2a : (kind' == 2) = false := beq_false_of_ne hk2
              have k2b : (kind' != 2) = true := by simp [hk2]
              have HEF4 := Lib.hid (show (if kind' = 1 then -1 else if kind' = 6 then -1 else endsFrom task ((rs.map ER.x).drop (kk + 1)) (kk + 1)) = EF by have := HEF3.out; rw [if_neg hk2] at this; exact this)
              clear hk2
              by_cases hk1 : kind' = 1
              · subst hk1
                have hE1 := HEF4.out
                rw [if_pos rfl] at hE1
                have HCA2 := Lib.hid HCA.out
                rw [← hE1, if_neg (by omega)] at HCA2
                clear hE1
                go_wp2_with fail
                go_meet
                case rel =>
                  rw [HCA2.out]
                  exact ⟨none, 0, HBC8.out, HCO8.out, World.ownsRow_nil _ _ _ _, HRW8.out, HO8.out⟩
              have k1a : (kind' == 1) = false := beq_false_of_ne hk1
              have k1b : (kind' != 1) = true := by simp [hk1]
              have HEF5 := Lib.hid (show (if kind' = 6 then -1 else endsFrom task ((rs.map ER.x).drop (kk + 1)) (kk + 1)) = EF by have := HEF4.out; rw [if_neg hk1] at this; exact this)
              clear hk1
              by_cases hk6 : kind' = 6
              · subst hk6
                have hE1 := HEF5.out
                rw [if_pos rfl] at hE1
                have HCA2 := Lib.hid HCA.out
                rw [← hE1, if_neg (by omega)] at HCA2
                clear hE1
                go_wp2_with fail
                go_meet
                case rel =>
                  rw [HCA2.out]
                  exact ⟨none, 0, HBC8.out, HCO8.out, World.ownsRow_nil _ _ _ _, HRW8.out, HO8.out⟩
              have k6a : (kind' == 6) = false := beq_false_of_ne hk6
              have k6b : (kind' != 6) = true := by simp [hk6]
              have HNX := Lib.hid (show endsFrom task ((rs.map ER.x).drop (kk + 1)) (kk + 1) = EF by have := HEF5.out; rw [if_neg hk6] at this; exact this)
              clear hk6
              go_wp2_with fail
              go_roundw
              case rel => exact ⟨kk + 1, by omega, by omega, by go_num, HNX.out, HO68.out⟩
              case measure => simp [intOf]; omega
        case rest =>
          obtain ⟨Ar, cr, hbc, hod, hor, hrow, hO9⟩ := hcut
          have hcd : CA.data = data := by rw [HCA.out]; split <;> rfl
          rw [← hcd] at hod
          have HCPF := Lib.hid HCP.out
          clear hcd HCP HCA
          obtain ⟨ct, cn, x0, x1, x2, cdat, cdone, cres, crep, cbeg, cfin⟩ := CA
          dsimp only at hod hor
          have kc : ∀ i, wc.cell? ⟨gc, i, none⟩ = #[Value.int .i64 ct, .int .i64 cn, .int .i64 x0, .int .i64 x1, .int .i64 x2, .slice Ad cdat.length cd, .bool cdone, .int .i64 cres, .slice Ar crep.length cr, .int .i64 cbeg, .int .i64 cfin][i]? := fun i => hbc.cell i
          have HOD9 := Lib.hid hod
          have HOR9 := Lib.hid hor
          have HRW9 := Lib.hid hrow
          have HO9 := Lib.hid hO9
          clear hbc hod hor hrow hO9
          go_wp2_with (at_builtin; go_must (refine wpList_append_rd _ rfl (.tmp 90) (.tmp 92) _ rfl w.heap.size 61 j0 _ 11 120 Try.underlying32 hj0 hy0 hy1 hy2 rfl (by omega) (.slice A' M c') M (os.flatMap CR.cells) rfl ?qown (wc.heap.size + 1) (some ⟨wc.heap.size, 0, none⟩) 1 1 [.int .i64 ct, .int .i64 cn, .int .i64 x0, .int .i64 x1, .int .i64 x2, .slice Ad cdat.length cd, .bool cdone, .int .i64 cres, .slice Ar crep.length cr, .int .i64 cbeg, .int .i64 cfin] rfl ?qrd ?qone (M + 1) rfl _ rfl ?q63 ?qby ?qbase ?_))
          case qown => have := own_onlyNil HRW9.out.row ((Only.refl Nil wc).alloc (.cells #[.int .i64 ct, .int .i64 cn, .int .i64 x0, .int .i64 x1, .int .i64 x2, .slice Ad cdat.length cd, .bool cdone, .int .i64 cres, .slice Ar crep.length cr, .int .i64 cbeg, .int .i64 cfin] 61)); rw [HM.out] at this; exact this
          case qrd => exact Rd.newBlock wc #[.int .i64 ct, .int .i64 cn, .int .i64 x0, .int .i64 x1, .int .i64 x2, .slice Ad cdat.length cd, .bool cdone, .int .i64 cres, .slice Ar crep.length cr, .int .i64 cbeg, .int .i64 cfin] _ 11 1 rfl rfl
          case qone => first | exact CR.cells_one ⟨Ad, cd, Ar, cr, ⟨ct, cn, x0, x1, x2, cdat, cdone, cres, crep, cbeg, cfin⟩⟩ | exact ⟨rfl, rfl, rfl, rfl, rfl, rfl, rfl, rfl, rfl, rfl, rfl⟩
          case q63 => have := HMN.out; unfold maxLen; omega
          case qby => have := HMN.out; omega
          case qbase => have := HO9.out.size; simp; omega
          intro A4 c4 w4 hc4 hown4 hgr4 hat4
          have hO4 : Only (fun x => (Value.slice A' os.length c').ownBlock = some x) (wc.alloc (.cells #[.int .i64 ct, .int .i64 cn, .int .i64 x0, .int .i64 x1, .int .i64 x2, .slice Ad cdat.length cd, .bool cdone, .int .i64 cres, .slice Ar crep.length cr, .int .i64 cbeg, .int .i64 cfin] 61)) w4 := by rw [HM.out]; exact Only.of_grown hgr4
          have hrow4 : RRow w4 w.heap.size A4 c4 (os ++ [⟨Ad, cd, Ar, cr, ⟨ct, cn, x0, x1, x2, cdat, cdone, cres, crep, cbeg, cfin⟩⟩]) :=
            RRow.grow (HRW9.out.onlyNil ((Only.refl _ _).alloc _)) hO4 (by rw [HM.out]; exact hown4) (own_onlyNil HOD9.out ((Only.refl _ _).alloc _)) (own_onlyNil HOR9.out ((Only.refl _ _).alloc _))
          have HO10 : Hid (Only Nil w w4) := Lib.hid ((HO9.out.alloc _).trans hO4 (fun x hx => .inr (ownBlock_ge HRW9.out.row hx)))
          have HR4 := Lib.hid hrow4
          have HC4 := Lib.hid hc4
          clear hO4 hrow4 hown4 hgr4 hat4 hc4
          go_wp2_with fail
          go_roundw
          case rel =>
            have hlen : (os ++ [(⟨Ad, cd, Ar, cr, ⟨ct, cn, x0, x1, x2, cdat, cdone, cres, crep, cbeg, cfin⟩⟩ : CR)]).length = M + 1 := by rw [List.length_append, HM.out]; rfl
            refine ⟨k + 1, A4, c4, _, by omega, by go_num, by rw [hlen], by rw [hlen]; exact HC4.out, ?_, HR4.out, HO10.out⟩
            rw [HCPF.out, List.map_append, HOS.out]
            rfl
          case measure => simp [intOf]; omega
    · have hkN : k = N := by omega
      subst hkN
      go_wp2_with fail
      go_ret
      exact ⟨A', c', os, by rw [HM.out]; rfl, by rw [HOS.out, List.length_map, HN.out], HROW.out, by rw [HM.out]; exact HOC.out, HO.out⟩

end Go.Proofs.Ytdejceojhkdjnaa
