/-
  The walk of replay.Calls.
  Conditions: the entries can be read, each has at most 2 to the power 40 bytes.
-/
import Derived.Test.YtdejceojhkdjnaaRpW6
import Derived.Test.YtdejceojhkdjnaaInv
import Derived.Deep.RegionHeld3
namespace Go.Proofs.Ytdejceojhkdjnaa
open Go.RowKit

/-- A system call of a list. -/
structure Cl where
  task : Int
  number : Int
  a0 : Int
  a1 : Int
  a2 : Int
  data : List UInt8
  done : Bool
  result : Int
  reply : List UInt8
  beg : Nat
  fin : Int
structure CR where
  Ad : Option Addr
  cd : Nat
  Ar : Option Addr
  cr : Nat
  x : Cl
def CR.cells (r : CR) : List Value :=
  [.int .i64 r.x.task, .int .i64 r.x.number, .int .i64 r.x.a0, .int .i64 r.x.a1, .int .i64 r.x.a2, .slice r.Ad r.x.data.length r.cd, .bool r.x.done, .int .i64 r.x.result, .slice r.Ar r.x.reply.length r.cr, .int .i64 r.x.beg, .int .i64 r.x.fin]
theorem CR.cells_len (r : CR) : r.cells.length = 11 := rfl
theorem CR.cells_one (r : CR) : ∀ u ∈ r.cells, u.oneCell' = true := by
  intro u hu
  simp only [CR.cells, List.mem_cons, List.not_mem_nil, or_false] at hu
  rcases hu with rfl | rfl | rfl | rfl | rfl | rfl | rfl | rfl | rfl | rfl | rfl <;> rfl
theorem call_info : (Try.prog.info? 40).map (fun i => (i.zero, i.size, i.bytes)) = some (some (.agg #[.int .i64 0, .int .i64 0, .int .i64 0, .int .i64 0, .int .i64 0, .slice none 0 0, .bool false, .int .i64 0, .slice none 0 0, .int .i64 0, .int .i64 0]), 11, 120) := by kernel_rfl

theorem call_zero (w : World) : (zeroValue 40).run Try.prog w = .ok (.agg #[.int .i64 0, .int .i64 0, .int .i64 0, .int .i64 0, .int .i64 0, .slice none 0 0, .bool false, .int .i64 0, .slice none 0 0, .int .i64 0, .int .i64 0]) w := by kernel_rfl

def zEn : En := ⟨0, 0, 0, 0, 0, 0, 0, []⟩
/-- The call that begins at place i. -/
def callAt (l : List En) (i : Nat) (x : En) : Cl :=
  if 0 ≤ endsFrom x.task (l.drop (i + 1)) (i + 1) then
    ⟨x.task, x.call, x.a0, x.a1, x.a2, x.data, true, (l.getD (endsFrom x.task (l.drop (i + 1)) (i + 1)).toNat zEn).result, (l.getD (endsFrom x.task (l.drop (i + 1)) (i + 1)).toNat zEn).data, i, endsFrom x.task (l.drop (i + 1)) (i + 1)⟩
  else ⟨x.task, x.call, x.a0, x.a1, x.a2, x.data, false, 0, [], i, endsFrom x.task (l.drop (i + 1)) (i + 1)⟩
/-- The calls that begin ahead of place k. -/
def callsP (l : List En) : Nat → List Cl
  | 0 => []
  | k + 1 => if (l.getD k zEn).kind = 1 then callsP l k ++ [callAt l k (l.getD k zEn)] else callsP l k
theorem callsP_len (l : List En) (k : Nat) : (callsP l k).length ≤ k := by
  induction k with
  | zero => exact Nat.le_refl _
  | succ k ih =>
    unfold callsP
    split
    · rw [List.length_append, List.length_singleton]; omega
    · omega
theorem endsFrom_range (t : Int) (l : List En) (i : Nat) : endsFrom t l i = -1 ∨ ((i : Int) ≤ endsFrom t l i ∧ endsFrom t l i < i + l.length) := by
  induction l generalizing i with
  | nil => exact .inl rfl
  | cons x l ih =>
    have h := ih (i + 1)
    have hl : (x :: l).length = l.length + 1 := rfl
    unfold endsFrom
    rw [hl]
    split
    · split
      · exact .inr ⟨Int.le_refl _, by omega⟩
      · split
        · exact .inl rfl
        · split
          · exact .inl rfl
          · rcases h with h | h
            · exact .inl h
            · exact .inr ⟨by omega, by omega⟩
    · rcases h with h | h
      · exact .inl h
      · exact .inr ⟨by omega, by omega⟩

/-- The calls, in rows of the call's own. -/
structure CRow (w : World) (base : Nat) (A : Option Addr) (c : Nat) (rs : List CR) : Prop where
  row : w.ownsRow base 40 11 (.slice A rs.length c) rs.length (rs.flatMap CR.cells)
  data : ∀ r ∈ rs, w.ownsRow base 5 1 (.slice r.Ad r.x.data.length r.cd) r.x.data.length (bcells r.x.data) ∧ w.ownsRow base 5 1 (.slice r.Ar r.x.reply.length r.cr) r.x.reply.length (bcells r.x.reply)
theorem CRow.onlyNil {w w' : World} {base : Nat} {A : Option Addr} {c : Nat} {rs : List CR} (h : CRow w base A c rs) (hO : Only Nil w w') : CRow w' base A c rs :=
  ⟨own_onlyNil h.row hO, fun r hr => ⟨own_onlyNil (h.data r hr).1 hO, own_onlyNil (h.data r hr).2 hO⟩⟩
theorem CRow.grow {w w' : World} {base : Nat} {A A' : Option Addr} {c c' : Nat} {rs : List CR} {r : CR} (h : CRow w base A c rs) (hO : Only (fun x => (Value.slice A rs.length c).ownBlock = some x) w w')
    (hr : w'.ownsRow base 40 11 (.slice A' (rs.length + 1) c') (rs.length + 1) (rs.flatMap CR.cells ++ r.cells))
    (h1 : w.ownsRow base 5 1 (.slice r.Ad r.x.data.length r.cd) r.x.data.length (bcells r.x.data)) (h2 : w.ownsRow base 5 1 (.slice r.Ar r.x.reply.length r.cr) r.x.reply.length (bcells r.x.reply)) : CRow w' base A' c' (rs ++ [r]) := by
  have keep : ∀ {v : Value} {n : Nat} {xs : List Value}, w.ownsRow base 5 1 v n xs → w'.ownsRow base 5 1 v n xs := fun hv => own_only hv hO fun q hq hx => own_own_ne h.row hv (by decide) hx hq
  refine ⟨?_, fun r' hr' => ?_⟩
  · have e : (rs ++ [r]).flatMap CR.cells = rs.flatMap CR.cells ++ r.cells := by simp
    rw [e, List.length_append, List.length_singleton]
    exact hr
  · rcases List.mem_append.1 hr' with h3 | h3
    · exact ⟨keep (h.data r' h3).1, keep (h.data r' h3).2⟩
    · rw [List.mem_singleton] at h3
      subst h3
      exact ⟨keep h1, keep h2⟩

def CallsPost (l : List En) (w : World) (x : Ending) (w' : World) : Prop :=
  ∃ A c rs, x = .returned (.slice A rs.length c) ∧ rs.map CR.x = callsP l l.length ∧ CRow w' w.heap.size A c rs ∧ rs.length ≤ c ∧ Only Nil w w'

/-- What the literal of a call leaves. -/
def CAgg (base : Nat) (task call a0 a1 a2 : Int) (data : List UInt8) (k : Nat) (E : Int) : VPred := fun v w => ∃ A c, v = .agg #[.int .i64 task, .int .i64 call, .int .i64 a0, .int .i64 a1, .int .i64 a2, .slice A data.length c, .bool false, .int .i64 0, .slice none 0 0, .int .i64 k, .int .i64 E] ∧
  w.ownsRow base 5 1 (.slice A data.length c) data.length (bcells data)
def CZero (base : Nat) : VPred := fun v w => ∃ g, v = .pointer (some ⟨g, 0, none⟩) ∧ base ≤ g ∧ Blk w g 40 #[.int .i64 0, .int .i64 0, .int .i64 0, .int .i64 0, .int .i64 0, .slice none 0 0, .bool false, .int .i64 0, .slice none 0 0, .int .i64 0, .int .i64 0]
theorem Stays.cagg (base : Nat) (task call a0 a1 a2 : Int) (data : List UInt8) (k : Nat) (E : Int) : Stays Nil (CAgg base task call a0 a1 a2 data k E) := fun _ _ _ hO h => by
  obtain ⟨A, c, h1, h2⟩ := h
  exact ⟨A, c, h1, own_onlyNil h2 hO⟩
theorem Stays.czero (base : Nat) : Stays Nil (CZero base) := fun _ _ _ hO h => by
  obtain ⟨g, h1, h2, h3⟩ := h
  exact ⟨g, h1, h2, h3.onlyNil hO⟩

/-- A literal of a call stored into its box. -/
def put11 (w : World) (g : Nat) (task call a0 a1 a2 : Int) (A : Option Addr) (n c : Nat) (k : Nat) (E : Int) : World :=
  (((((((((((w.setCell ⟨g, 0, none⟩ (.int .i64 task)).setCell ⟨g, 1, none⟩ (.int .i64 call)).setCell ⟨g, 2, none⟩ (.int .i64 a0)).setCell ⟨g, 3, none⟩ (.int .i64 a1)).setCell ⟨g, 4, none⟩ (.int .i64 a2)).setCell ⟨g, 5, none⟩ (.slice A n c)).setCell ⟨g, 6, none⟩ (.bool false)).setCell ⟨g, 7, none⟩ (.int .i64 0)).setCell ⟨g, 8, none⟩ (.slice none 0 0)).setCell ⟨g, 9, none⟩ (.int .i64 k)).setCell ⟨g, 10, none⟩ (.int .i64 E))
theorem put11_only (w : World) (g : Nat) (task call a0 a1 a2 : Int) (A : Option Addr) (n c : Nat) (k : Nat) (E : Int) : Only (One g) w (put11 w g task call a0 a1 a2 A n c k E) := by
  unfold put11
  (repeat' (first | with_reducible exact Only.refl _ _ | with_reducible refine Only.setCell ?_ (Or.inl ?_) _ | with_reducible refine Only.drewN ?_ _ | with_reducible refine Only.drew ?_ | with_reducible refine Only.alloc ?_ _ | (exact rfl)))
theorem put11_blk {w : World} {g : Nat} {task call a0 a1 a2 : Int} {A : Option Addr} {n c k : Nat} {E : Int} (h : Blk w g 40 #[.int .i64 0, .int .i64 0, .int .i64 0, .int .i64 0, .int .i64 0, .slice none 0 0, .bool false, .int .i64 0, .slice none 0 0, .int .i64 0, .int .i64 0]) :
    Blk (put11 w g task call a0 a1 a2 A n c k E) g 40 #[.int .i64 task, .int .i64 call, .int .i64 a0, .int .i64 a1, .int .i64 a2, .slice A n c, .bool false, .int .i64 0, .slice none 0 0, .int .i64 k, .int .i64 E] :=
  by
    have := ((((((((((h.set_ 0 (.int .i64 task)).set_ 1 (.int .i64 call)).set_ 2 (.int .i64 a0)).set_ 3 (.int .i64 a1)).set_ 4 (.int .i64 a2)).set_ 5 (.slice A n c)).set_ 6 (.bool false)).set_ 7 (.int .i64 0)).set_ 8 (.slice none 0 0)).set_ 9 (.int .i64 k)).set_ 10 (.int .i64 E)
    simp only [List.setIfInBounds_toArray, List.set_cons_succ, List.set_cons_zero] at this
    exact this

set_option maxRecDepth 100000 in
set_option maxHeartbeats 4000000 in
theorem calls_any (A : Option Addr) (c : Nat) (rs : List ER) (w : World) (h : Es w w.heap.size A rs) (hl : rs.length ≤ 1099511627776) (hd : ∀ r ∈ rs, r.x.data.length ≤ 1099511627776) :
    Calls Try.prog 17 #[.slice A rs.length c] w (CallsPost (rs.map ER.x) w) := by
  obtain ⟨j0, hj0, hy0, hy1, hy2⟩ := info_parts call_info
  obtain ⟨N, hN⟩ : ∃ N, rs.length = N := ⟨_, rfl⟩
  have HN := Lib.hid hN
  have HE := Lib.hid h
  have HDL := Lib.hid hd
  rw [hN] at hl ⊢
  have HEN : Hid (∀ (u : World) (b : Nat) (rb : ER), Only Nil w u → rs[b]? = some rb → Calls Try.prog 28 #[.slice A N c, .int .i64 b] u fun e w' => e = .returned (.int .i64 (endsFrom rb.x.task ((rs.map ER.x).drop (b + 1)) (b + 1))) ∧ Only Nil u w') := Lib.hid (fun u b rb hO hb => by
    have := ends_any A c rs b rb u (h.next hO) (by omega) hb
    rwa [hN] at this)
  clear hN h hd
  go_enter Try.func17, Try.ntmps17
  go_wp2_with fail
  go_loopw [10, 3] (fun i v wr => ∃ (k : Nat) (A' : Option Addr) (c' : Nat) (os : List CR), k ≤ N ∧ i = .int .i64 k ∧ v = .slice A' os.length c' ∧ os.length ≤ c' ∧ os.map CR.x = callsP (rs.map ER.x) k ∧ CRow wr w.heap.size A' c' os ∧ Only Nil w wr) (fun i _ _ => N - (intOf i).toNat)
  case atStart => exact ⟨0, none, 0, [], Nat.zero_le _, rfl, rfl, Nat.le_refl _, rfl, ⟨World.ownsRow_nil _ _ _ _, fun r hr => by cases hr⟩, Only.refl _ _⟩
  case round =>
    obtain ⟨k, A', c', os, hk, rfl, rfl, hoc, hos, hrow, hO⟩ := hrel
    obtain ⟨M, hM⟩ : ∃ M, os.length = M := ⟨_, rfl⟩
    rw [hM] at hoc ⊢
    have HMN : Hid (M ≤ k) := Lib.hid (by have := callsP_len (rs.map ER.x) k; rw [← hos, List.length_map, hM] at this; exact this)
    have HM := Lib.hid hM
    have HOC := Lib.hid hoc
    have HOS := Lib.hid hos
    have HROW := Lib.hid hrow
    have HO := Lib.hid hO
    clear hM hoc hos hrow hO
    by_cases hlt : k < N
    · obtain ⟨r, hr⟩ : ∃ r, rs[k]? = some r := ⟨rs[k]'(by rw [HN.out]; exact hlt), List.getElem?_eq_getElem _⟩
      obtain ⟨b, off, rfl, hb, hcs⟩ := (HE.out.next HO.out).at_ hr
      have hgd : (rs.map ER.x).getD k zEn = r.x := by rw [List.getD_eq_getElem?_getD, List.getElem?_map, hr]; rfl
      have hok := (HE.out.next HO.out).ok r (List.mem_of_getElem? hr)
      have hdl := HDL.out r (List.mem_of_getElem? hr)
      have hen := fun u hO => HEN.out u k r hO hr
      have hcp : callsP (rs.map ER.x) (k + 1) = if r.x.kind = 1 then callsP (rs.map ER.x) k ++ [callAt (rs.map ER.x) k r.x] else callsP (rs.map ER.x) k := by rw [callsP, hgd]
      obtain ⟨E, hE⟩ : ∃ E, endsFrom r.x.task ((rs.map ER.x).drop (k + 1)) (k + 1) = E := ⟨_, rfl⟩
      have hER := endsFrom_range r.x.task ((rs.map ER.x).drop (k + 1)) (k + 1)
      have hca : callAt (rs.map ER.x) k r.x = if 0 ≤ E then ⟨r.x.task, r.x.call, r.x.a0, r.x.a1, r.x.a2, r.x.data, true, ((rs.map ER.x).getD E.toNat zEn).result, ((rs.map ER.x).getD E.toNat zEn).data, k, E⟩ else ⟨r.x.task, r.x.call, r.x.a0, r.x.a1, r.x.a2, r.x.data, false, 0, [], k, E⟩ := by
        unfold callAt
        rw [hE]
      obtain ⟨CA, hCA⟩ : ∃ CA, callAt (rs.map ER.x) k r.x = CA := ⟨_, rfl⟩
      rw [hCA] at hca hcp
      rw [hE] at hER hen
      have hER' : E = -1 ∨ ((k : Int) + 1 ≤ E ∧ E < N) := by
        rw [List.length_drop, List.length_map, HN.out] at hER
        omega
      have HOK := Lib.hid hok
      have HDR := Lib.hid hdl
      have HENR := Lib.hid hen
      have HCP := Lib.hid hcp
      have HCA := Lib.hid hca
      have HER := Lib.hid hER'
      clear hr hgd hok hdl hen hcp hca hER hER' hE hb hCA
      obtain ⟨Ax, cx, kind, task, call, a0, a1, a2, result, data⟩ := r
      have c0 : wr.cell? ⟨b, off + k * 8, none⟩ = some (.int .i64 kind) := hcs 0 _ rfl
      have c1 : wr.cell? ⟨b, off + k * 8 + 1, none⟩ = some (.int .i64 task) := hcs 1 _ rfl
      have c2 : wr.cell? ⟨b, off + k * 8 + 2, none⟩ = some (.int .i64 call) := hcs 2 _ rfl
      have c3 : wr.cell? ⟨b, off + k * 8 + 3, none⟩ = some (.int .i64 a0) := hcs 3 _ rfl
      have c4 : wr.cell? ⟨b, off + k * 8 + 4, none⟩ = some (.int .i64 a1) := hcs 4 _ rfl
      have c5 : wr.cell? ⟨b, off + k * 8 + 5, none⟩ = some (.int .i64 a2) := hcs 5 _ rfl
      have c6 : wr.cell? ⟨b, off + k * 8 + 6, none⟩ = some (.int .i64 result) := hcs 6 _ rfl
      have c7 : wr.cell? ⟨b, off + k * 8 + 7, none⟩ = some (.slice Ax data.length cx) := hcs 7 _ rfl
      dsimp only at HCP HCA HDR
      clear hcs
      by_cases h1 : kind = 1
      rotate_left
      · have n1 : (kind != 1) = true := by simp [h1]
        rw [if_neg h1] at HCP
        clear h1
        go_wp2_with fail
        go_roundw
        case rel => exact ⟨k + 1, A', c', os, by omega, by go_num, by rw [HM.out], by rw [HM.out]; exact HOC.out, by rw [HCP.out]; exact HOS.out, HROW.out.onlyNil ((Only.refl _ _).alloc _), HO.out.alloc _⟩
        case measure => simp [intOf]; omega
      subst h1
      rw [if_pos rfl] at HCP
      go_upto_region 4 with fail
      go_cut [4, 5] (fun i p wd => i = .int .i64 k ∧ ∃ gb, p = .pointer (some ⟨gb, 0, none⟩) ∧ Blk wd gb 42 #[Value.int .i64 1, .int .i64 task, .int .i64 call, .int .i64 a0, .int .i64 a1, .int .i64 a2, .int .i64 result, .slice Ax data.length cx] ∧ Only Nil wr wd)
      case first =>
        go_wp2_with fail
        go_meet
        case rel => exact ⟨rfl, _, rfl, Blk.new _ _ _, by (repeat' (first | with_reducible exact Only.refl _ _ | with_reducible refine Only.setCell ?_ (Or.inl ?_) _ | with_reducible refine Only.drewN ?_ _ | with_reducible refine Only.drew ?_ | with_reducible refine Only.alloc ?_ _ | (fail)))⟩
      case rest =>
        obtain ⟨rfl, gb, rfl, hbx, hO4⟩ := hcut
        have kb : ∀ i, wc.cell? ⟨gb, i, none⟩ = #[Value.int .i64 1, .int .i64 task, .int .i64 call, .int .i64 a0, .int .i64 a1, .int .i64 a2, .int .i64 result, .slice Ax data.length cx][i]? := fun i => hbx.cell i
        have HBX := Lib.hid hbx
        have HO4 := Lib.hid (HO.out.thenNil hO4)
        have HROW4 := Lib.hid (HROW.out.onlyNil hO4)
        have HOK4 : Hid (Bs wc wc.heap.size Ax data) := Lib.hid ((HOK.out.data.onlyNil hO4 (Nat.le_refl _)).up hO4.size)
        clear hbx hO4 c0 c1 c2 c3 c4 c5 c6 c7
        go_upto_region 6 with fail
        go_cut [6] (fun p wd => ∃ gc Ad cd, p = .pointer (some ⟨gc, 0, none⟩) ∧ Blk wd gc 40 #[.int .i64 task, .int .i64 call, .int .i64 a0, .int .i64 a1, .int .i64 a2, .slice Ad data.length cd, .bool false, .int .i64 0, .slice none 0 0, .int .i64 k, .int .i64 E] ∧ wc.heap.size ≤ gc ∧
          wd.ownsRow wc.heap.size 5 1 (.slice Ad data.length cd) data.length (bcells data) ∧ Only Nil wc wd)
        case first =>
          have HIN : Hid (∀ (L : Nat → Bool) (vs : Nat → Value) (u u' : World), Only Nil u u' → (fun _ _ u => Only Nil wc u) L vs u → (fun _ _ u => Only Nil wc u) L vs u') := Lib.hid (fun L vs u u' hO hI => by
            exact hI.thenNil hO)
          refine wp_region_any (by kernel_rfl) ?_
          change wpAny _ _ _ _ _ _ _ (World.drew _)
          refine take_first (i := 0) (v := ?v0_6) (some 18) rfl (by rfl) (by kernel_rfl) (by kernel_rfl) (by kernel_rfl) (fun _ _ _ h => h) (Or.inl ⟨by rfl, ?hy0_6⟩) ?rest0_6
          case hy0_6 => (intro w; go_simp <;> with_reducible rfl)
          refine take_first (i := 2) (v := ?v2_6) (some 20) rfl (by rfl) (by kernel_rfl) (by kernel_rfl) (by kernel_rfl) (fun _ _ _ h => h) (Or.inl ⟨by rfl, ?hy2_6⟩) ?rest2_6
          case hy2_6 => (intro w; go_simp <;> with_reducible rfl)
          refine take_first (i := 4) (v := ?v4_6) (some 22) rfl (by rfl) (by kernel_rfl) (by kernel_rfl) (by kernel_rfl) (fun _ _ _ h => h) (Or.inl ⟨by rfl, ?hy4_6⟩) ?rest4_6
          case hy4_6 => (intro w; go_simp <;> with_reducible rfl)
          refine take_first (i := 6) (v := ?v6_6) (some 24) rfl (by rfl) (by kernel_rfl) (by kernel_rfl) (by kernel_rfl) (fun _ _ _ h => h) (Or.inl ⟨by rfl, ?hy6_6⟩) ?rest6_6
          case hy6_6 => (intro w; go_simp <;> with_reducible rfl)
          refine take_first (i := 9) (v := ?v9_6) (some 27) rfl (by rfl) (by kernel_rfl) (by kernel_rfl) (by kernel_rfl) (fun _ _ _ h => h) (Or.inl ⟨by rfl, ?hy9_6⟩) ?rest9_6
          case hy9_6 => (intro w; go_simp <;> with_reducible rfl)
          refine take_first (i := 10) (v := ?v10_6) (some 28) rfl (by rfl) (by kernel_rfl) (by kernel_rfl) (by kernel_rfl) (fun _ _ _ h => h) (Or.inl ⟨by rfl, ?hy10_6⟩) ?rest10_6
          case hy10_6 => (intro w; go_simp <;> with_reducible rfl)
          refine take_first (i := 11) (v := ?v11_6) (some 29) rfl (by rfl) (by kernel_rfl) (by kernel_rfl) (by kernel_rfl) (fun _ _ _ h => h) (Or.inl ⟨by rfl, ?hy11_6⟩) ?rest11_6
          case hy11_6 => (intro w; go_simp <;> with_reducible rfl)
          refine wpAny_inv2 (X := [(1, some 19, []), (3, some 21, []), (5, some 23, []), (7, some 25, []), (8, some 26, [7]), (12, some 30, []), (13, some 31, [1, 3, 5, 8, 12]), (14, some 6, [])]) (n := 8) (g := 1) (m := 15) (l0 := [true, false, true, false, true, false, true, false, false, true, true, true, false, false, false, false]) (T := Nil) (Ps := [Any, Cst (.int .i64 task), Any, Cst (.int .i64 call), Any, Cst (.agg #[.int .i64 a0, .int .i64 a1, .int .i64 a2]), Any, Cst (.slice Ax data.length cx), OwnB 5 wc.heap.size data, Any, Any, Any, Cst (.int .i64 E), CAgg wc.heap.size task call a0 a1 a2 data k E, CZero wc.heap.size])
            (I := fun _ _ u => Only Nil wc u)
            (by kernel_rfl) rfl (by kernel_rfl) (by kernel_rfl) (by kernel_rfl) rfl ?h0_6 ?st_6 ?i0_6 ?step_6 ?fin_6
          case h0_6 =>
            intro j hj v u
            match j, hj with
            | 0, hj => trivial
            | 1, hj => exact absurd hj (by decide)
            | 2, hj => trivial
            | 3, hj => exact absurd hj (by decide)
            | 4, hj => trivial
            | 5, hj => exact absurd hj (by decide)
            | 6, hj => trivial
            | 7, hj => exact absurd hj (by decide)
            | 8, hj => exact absurd hj (by decide)
            | 9, hj => trivial
            | 10, hj => trivial
            | 11, hj => trivial
            | 12, hj => exact absurd hj (by decide)
            | 13, hj => exact absurd hj (by decide)
            | 14, hj => exact absurd hj (by decide)
            | 15, hj => exact absurd hj (by decide)
            | n + 16, hj => exact absurd hj (by simp)
          case st_6 =>
            have hT : ∀ x, (Nil) x → x < 0 := fun x h => h.elim
            intro p hp
            simp only [List.mem_cons, List.not_mem_nil, or_false] at hp
            rcases hp with rfl | rfl | rfl | rfl | rfl | rfl | rfl | rfl | rfl | rfl | rfl | rfl | rfl | rfl | rfl <;> first | exact Stays.cst _ | exact Stays.own hT | exact Stays.emp hT | exact Stays.any | exact Stays.ownNil | exact Stays.cagg _ _ _ _ _ _ _ _ _ | exact Stays.czero _
          case i0_6 =>
            intro vs
            exact (Only.refl _ _).drew
          case step_6 =>
            intro x hx L vs u hI hA h0 hd
            simp only [List.mem_cons, List.not_mem_nil, or_false] at hx
            rcases hx with rfl | rfl | rfl | rfl | rfl | rfl | rfl | rfl
            · refine inv_step _ (by rfl) (by rfl) (fun K' hK => ?_)
              simp only [putAll, Act.put, List.setIfInBounds_toArray, List.set_cons_succ, List.set_cons_zero] at hK ⊢
              have ks := fun i => (HBX.out.onlyNil hI).cell i
              go_simp
              exact hK _ _ ⟨Only.refl _ _, hI, rfl⟩
            · refine inv_step _ (by rfl) (by rfl) (fun K' hK => ?_)
              simp only [putAll, Act.put, List.setIfInBounds_toArray, List.set_cons_succ, List.set_cons_zero] at hK ⊢
              have ks := fun i => (HBX.out.onlyNil hI).cell i
              go_simp
              exact hK _ _ ⟨Only.refl _ _, hI, rfl⟩
            · refine inv_step _ (by rfl) (by rfl) (fun K' hK => ?_)
              simp only [putAll, Act.put, List.setIfInBounds_toArray, List.set_cons_succ, List.set_cons_zero] at hK ⊢
              have ks := fun i => (HBX.out.onlyNil hI).cell i
              go_simp
              exact hK _ _ ⟨Only.refl _ _, hI, rfl⟩
            · refine inv_step _ (by rfl) (by rfl) (fun K' hK => ?_)
              simp only [putAll, Act.put, List.setIfInBounds_toArray, List.set_cons_succ, List.set_cons_zero] at hK ⊢
              have ks := fun i => (HBX.out.onlyNil hI).cell i
              go_simp
              exact hK _ _ ⟨Only.refl _ _, hI, rfl⟩
            · refine inv_step _ (by rfl) (by rfl) (fun K' hK => ?_)
              simp only [putAll, Act.put, List.setIfInBounds_toArray, List.set_cons_succ, List.set_cons_zero] at hK ⊢
              have e7 := hA 7 (hd 7 (by simp))
              change vs 7 = (.slice Ax data.length cx) at e7
              simp only [e7] at hK
              go_simp
              go_at_call 27
              refine (clone_any Ax cx data _ ((HOK4.out.onlyNil hI (Nat.le_refl _)).up hI.size) HDR.out).mono ?_
              rintro x u2 ⟨A2, c2, rfl, hc2, ho2, hO2⟩
              go_simp
              exact hK _ _ ⟨hO2, HIN.out L vs _ _ hO2 hI, ⟨A2, c2, rfl, hc2, own_base ho2 hI.size⟩⟩
            · refine inv_step _ (by rfl) (by rfl) (fun K' hK => ?_)
              simp only [putAll, Act.put, List.setIfInBounds_toArray, List.set_cons_succ, List.set_cons_zero] at hK ⊢
              go_simp
              go_at_call 28
              refine (HENR.out _ (HO4.out.thenNil hI)).mono ?_
              rintro x u2 ⟨rfl, hO2⟩
              go_simp
              exact hK _ _ ⟨hO2, HIN.out L vs _ _ hO2 hI, rfl⟩
            · refine inv_step _ (by rfl) (by rfl) (fun K' hK => ?_)
              simp only [putAll, Act.put, List.setIfInBounds_toArray, List.set_cons_succ, List.set_cons_zero] at hK ⊢
              have e1 := hA 1 (hd 1 (by simp))
              change vs 1 = (.int .i64 task) at e1
              have e3 := hA 3 (hd 3 (by simp))
              change vs 3 = (.int .i64 call) at e3
              have e5 := hA 5 (hd 5 (by simp))
              change vs 5 = (.agg #[.int .i64 a0, .int .i64 a1, .int .i64 a2]) at e5
              have e12 := hA 12 (hd 12 (by simp))
              change vs 12 = (.int .i64 E) at e12
              simp only [e1, e3, e5, e12] at hK
              obtain ⟨A2, c2, e8, hc2, ho2⟩ := hA 8 (hd 8 (by simp))
              simp only [e8] at hK
              have hz := call_zero
              go_simp
              exact hK _ _ ⟨Only.refl _ _, hI, ⟨A2, c2, rfl, ho2⟩⟩
            · refine inv_step _ (by rfl) (by rfl) (fun K' hK => ?_)
              simp only [putAll, Act.put, List.setIfInBounds_toArray, List.set_cons_succ, List.set_cons_zero] at hK ⊢
              go_simp
              exact hK _ _ ⟨(Only.refl _ _).alloc _, HIN.out L vs _ _ ((Only.refl _ _).alloc _) hI, ⟨_, rfl, hI.size, Blk.new _ _ _⟩⟩
          case fin_6 =>
            intro L vs u hI hL hA
            simp only [putAll, Act.put, List.setIfInBounds_toArray, List.set_cons_succ, List.set_cons_zero, List.drop_succ_cons, List.drop_zero]
            obtain ⟨A2, c2, e13, ho2⟩ := hA 13 (by omega)
            obtain ⟨g, e14, hg, hz⟩ := hA 14 (by omega)
            simp only [e13, e14]
            have kz : ∀ i, u.cell? ⟨g, i, none⟩ = #[Value.int .i64 0, .int .i64 0, .int .i64 0, .int .i64 0, .int .i64 0, .slice none 0 0, .bool false, .int .i64 0, .slice none 0 0, .int .i64 0, .int .i64 0][i]? := fun i => hz.cell i
            have fz : ∀ i, u.frozen? ⟨g, i, none⟩ = false := fun i => hz.frozen i
            have HZ := Lib.hid hz
            have HI5 := Lib.hid hI
            have HOW5 := Lib.hid ho2
            clear hA hL hz e13 e14 hI ho2
            go_wp2_with fail
            go_meet
            case rel =>
              have hS : Only (One g) u (put11 u g task call a0 a1 a2 A2 data.length c2 k E) := put11_only _ _ _ _ _ _ _ _ _ _ _ _
              exact ⟨g, A2, c2, rfl, put11_blk HZ.out, hg, own_only HOW5.out hS (fun q hq hx => own_blk_ne HOW5.out HZ.out (by decide) (by rw [hq, hx])), HI5.out.trans hS (fun x hx => .inr (by unfold One at hx; omega))⟩
        case rest =>
          obtain ⟨gc, Ad, cd, rfl, hbc, hgc, hod, hO6⟩ := hcut
          have kc : ∀ i, wc.cell? ⟨gc, i, none⟩ = #[Value.int .i64 task, .int .i64 call, .int .i64 a0, .int .i64 a1, .int .i64 a2, .slice Ad data.length cd, .bool false, .int .i64 0, .slice none 0 0, .int .i64 k, .int .i64 E][i]? := fun i => hbc.cell i
          have HBC := Lib.hid hbc
          have HOD := Lib.hid hod
          have HO6 := Lib.hid (HO4.out.thenNil hO6)
          have HROW6 := Lib.hid (HROW4.out.onlyNil hO6)
          have hgw : w.heap.size ≤ gc := Nat.le_trans HO4.out.size hgc
          have HBASE := Lib.hid HO4.out.size
          have HNR : Hid (∀ q, (Value.slice A' os.length c').ownBlock = some q → ¬ One gc q) := Lib.hid (fun q hq hx => by have := own_lt HROW4.out.row hq; unfold One at hx; omega)
          clear hbc hod hO6 kb
          go_upto_if 34 with fail
          go_cut [] (fun wd => ∃ Ar cr, Blk wd gc 40 (CR.cells ⟨Ad, cd, Ar, cr, CA⟩).toArray ∧
            wd.ownsRow w.heap.size 5 1 (.slice Ad data.length cd) data.length (bcells data) ∧
            wd.ownsRow w.heap.size 5 1 (.slice Ar CA.reply.length cr) CA.reply.length (bcells CA.reply) ∧
            CRow wd w.heap.size A' c' os ∧ Only Nil w wd)
          case first =>
            have hco : Hid (wc.ownsRow w.heap.size 5 1 (.slice Ad data.length cd) data.length (bcells data)) := Lib.hid (own_base HOD.out HBASE.out)
            by_cases hE0 : 0 ≤ E
            rotate_left
            · have hE1 : E = -1 := by have := HER.out; omega
              subst hE1
              rw [if_neg (by omega)] at HCA
              go_wp2_with fail
              go_meet
              case rel =>
                rw [HCA.out]
                exact ⟨none, 0, HBC.out, hco.out, World.ownsRow_nil _ _ _ _, HROW6.out, HO6.out⟩
            rw [if_pos hE0] at HCA
            obtain ⟨e, he⟩ : ∃ e : Nat, E = e := Int.eq_ofNat_of_zero_le hE0
            subst he
            have heN : e < N := by have := HER.out; omega
            obtain ⟨ry, hry⟩ : ∃ r, rs[e]? = some r := ⟨rs[e]'(by rw [HN.out]; exact heN), List.getElem?_eq_getElem _⟩
            have hgy : (rs.map ER.x).getD (e : Int).toNat zEn = ry.x := by rw [Int.toNat_natCast, List.getD_eq_getElem?_getD, List.getElem?_map, hry]; rfl
            rw [hgy] at HCA
            obtain ⟨b2, off2, e2, hb2, hcs⟩ := (HE.out.next HO6.out).at_ hry
            have hoky := (HE.out.next HO6.out).ok ry (List.mem_of_getElem? hry)
            have hdly := HDL.out ry (List.mem_of_getElem? hry)
            injection e2 with e2
            injection e2 with e3 e4 _
            subst e3 e4
            have HOKY := Lib.hid hoky.data
            have HDY := Lib.hid hdly
            clear hry hgy hoky hdly hb2
            obtain ⟨Ay, cy, kind', task', call', b0, b1, b3, result', data'⟩ := ry
            have c0 : wc.cell? ⟨b, off + e * 8, none⟩ = some (.int .i64 kind') := hcs 0 _ rfl
            have c1 : wc.cell? ⟨b, off + e * 8 + 1, none⟩ = some (.int .i64 task') := hcs 1 _ rfl
            have c2 : wc.cell? ⟨b, off + e * 8 + 2, none⟩ = some (.int .i64 call') := hcs 2 _ rfl
            have c3 : wc.cell? ⟨b, off + e * 8 + 3, none⟩ = some (.int .i64 b0) := hcs 3 _ rfl
            have c4 : wc.cell? ⟨b, off + e * 8 + 4, none⟩ = some (.int .i64 b1) := hcs 4 _ rfl
            have c5 : wc.cell? ⟨b, off + e * 8 + 5, none⟩ = some (.int .i64 b3) := hcs 5 _ rfl
            have c6 : wc.cell? ⟨b, off + e * 8 + 6, none⟩ = some (.int .i64 result') := hcs 6 _ rfl
            have c7 : wc.cell? ⟨b, off + e * 8 + 7, none⟩ = some (.slice Ay data'.length cy) := hcs 7 _ rfl
            dsimp only at HCA HOKY HDY
            have heI : (e : Int) < N := by omega
            clear hcs
            go_upto_region 8 with fail
            go_cut [7] (fun p wd => ∃ gy, p = .pointer (some ⟨gy, 0, none⟩) ∧ Blk wd gy 42 #[Value.int .i64 kind', .int .i64 task', .int .i64 call', .int .i64 b0, .int .i64 b1, .int .i64 b3, .int .i64 result', .slice Ay data'.length cy] ∧ gc < gy ∧ Only Nil wc wd)
            case first =>
              have hgc0 := HBC.out.lt
              go_wp2_with fail
              go_meet
              case rel => exact ⟨_, rfl, Blk.new _ _ _, hgc0, by (repeat' (first | with_reducible exact Only.refl _ _ | with_reducible refine Only.setCell ?_ (Or.inl ?_) _ | with_reducible refine Only.drewN ?_ _ | with_reducible refine Only.drew ?_ | with_reducible refine Only.alloc ?_ _ | (fail)))⟩
            case rest =>
              obtain ⟨gy, rfl, hby, hgy, hO8⟩ := hcut
              have HBY := Lib.hid hby
              have hbc8 := HBC.out.onlyNil hO8
              have HBC8 := Lib.hid hbc8
              have HOKY8 : Hid (Bs wc wc.heap.size Ay data') := Lib.hid ((HOKY.out.onlyNil hO8 (Nat.le_refl _)).up hO8.size)
              have HO8 := Lib.hid (HO6.out.thenNil hO8)
              have HRW8 := Lib.hid (HROW6.out.onlyNil hO8)
              have HCO8 := Lib.hid (own_onlyNil hco.out hO8)
              clear hby hbc8 hO8 kc c0 c1 c2 c3 c4 c5 c6 c7
              have HLT : Hid (gc < wc.heap.size) := Lib.hid HBC8.out.lt
              have HNG : Hid (¬ One gc gy) := Lib.hid (fun hx => by unfold One at hx; omega)
              go_wp2_with fail
              have HIN : Hid (∀ (L : Nat → Bool) (vs : Nat → Value) (u u' : World), Only Nil u u' → (fun L _ u => Only (One gc) wc u ∧ Blk u gc 40 #[.int .i64 task, .int .i64 call, .int .i64 a0, .int .i64 a1, .int .i64 a2, .slice Ad data.length cd, .bool (L 6), .int .i64 (if L 8 = true then result' else 0), .slice none 0 0, .int .i64 k, .int .i64 e]) L vs u → (fun L _ u => Only (One gc) wc u ∧ Blk u gc 40 #[.int .i64 task, .int .i64 call, .int .i64 a0, .int .i64 a1, .int .i64 a2, .slice Ad data.length cd, .bool (L 6), .int .i64 (if L 8 = true then result' else 0), .slice none 0 0, .int .i64 k, .int .i64 e]) L vs u') := Lib.hid (fun L vs u u' hO hI => by
                exact ⟨hI.1.thenNil hO, hI.2.onlyNil hO⟩)
              refine wp_region_any (by kernel_rfl) ?_
              change wpAny _ _ _ _ _ _ _ (World.drew _)
              refine take_first (i := 0) (v := ?v0_7) (some 40) rfl (by rfl) (by kernel_rfl) (by kernel_rfl) (by kernel_rfl) (fun _ _ _ h => h) (Or.inl ⟨by rfl, ?hy0_7⟩) ?rest0_7
              case hy0_7 => (intro w; go_simp <;> with_reducible rfl)
              refine take_first (i := 2) (v := ?v2_7) (some 42) rfl (by rfl) (by kernel_rfl) (by kernel_rfl) (by kernel_rfl) (fun _ _ _ h => h) (Or.inl ⟨by rfl, ?hy2_7⟩) ?rest2_7
              case hy2_7 => (intro w; go_simp <;> with_reducible rfl)
              refine take_first (i := 5) (v := ?v5_7) (some 45) rfl (by rfl) (by kernel_rfl) (by kernel_rfl) (by kernel_rfl) (fun _ _ _ h => h) (Or.inl ⟨by rfl, ?hy5_7⟩) ?rest5_7
              case hy5_7 => (intro w; go_simp <;> with_reducible rfl)
              refine wpAny_inv2 (X := [(1, some 41, []), (3, some 43, []), (4, some 44, [3]), (6, none, []), (7, some 46, [6]), (8, none, [1, 7])]) (n := 6) (g := 2) (m := 9) (l0 := [true, false, true, false, false, true, false, false, false, false, false]) (T := One gc) (Ps := [Any, Cst (.int .i64 result'), Any, Cst (.slice Ay data'.length cy), OwnB 5 wc.heap.size data', Any, Any, Cst (.pointer (some ⟨gc, 7, none⟩)), Any])
                (I := fun L _ u => Only (One gc) wc u ∧ Blk u gc 40 #[.int .i64 task, .int .i64 call, .int .i64 a0, .int .i64 a1, .int .i64 a2, .slice Ad data.length cd, .bool (L 6), .int .i64 (if L 8 = true then result' else 0), .slice none 0 0, .int .i64 k, .int .i64 e])
                (by kernel_rfl) rfl (by kernel_rfl) (by kernel_rfl) (by kernel_rfl) rfl ?h0_7 ?st_7 ?i0_7 ?step_7 ?fin_7
              case h0_7 =>
                intro j hj v u
                match j, hj with
                | 0, hj => trivial
                | 1, hj => exact absurd hj (by decide)
                | 2, hj => trivial
                | 3, hj => exact absurd hj (by decide)
                | 4, hj => exact absurd hj (by decide)
                | 5, hj => trivial
                | 6, hj => exact absurd hj (by decide)
                | 7, hj => exact absurd hj (by decide)
                | 8, hj => exact absurd hj (by decide)
                | 9, hj => exact absurd hj (by decide)
                | 10, hj => exact absurd hj (by decide)
                | n + 11, hj => exact absurd hj (by simp)
              case st_7 =>
                have hT : ∀ x, (One gc) x → x < wc.heap.size := fun x h => by unfold One at h; have := HLT.out; omega
                intro p hp
                simp only [List.mem_cons, List.not_mem_nil, or_false] at hp
                rcases hp with rfl | rfl | rfl | rfl | rfl | rfl | rfl | rfl | rfl <;> first | exact Stays.cst _ | exact Stays.own hT | exact Stays.emp hT | exact Stays.any
              case i0_7 =>
                intro vs
                exact ⟨(Only.refl _ _).drew, HBC8.out.drew⟩
              case step_7 =>
                intro x hx L vs u hI hA h0 hd
                simp only [List.mem_cons, List.not_mem_nil, or_false] at hx
                rcases hx with rfl | rfl | rfl | rfl | rfl | rfl
                · refine inv_step _ (by rfl) (by rfl) (fun K' hK => ?_)
                  simp only [putAll, Act.put, List.setIfInBounds_toArray, List.set_cons_succ, List.set_cons_zero] at hK ⊢
                  have ks := fun i => (HBY.out.only hI.1 HNG.out).cell i
                  go_simp
                  exact hK _ _ ⟨Only.refl _ _, hI, rfl⟩
                · refine inv_step _ (by rfl) (by rfl) (fun K' hK => ?_)
                  simp only [putAll, Act.put, List.setIfInBounds_toArray, List.set_cons_succ, List.set_cons_zero] at hK ⊢
                  have ks := fun i => (HBY.out.only hI.1 HNG.out).cell i
                  go_simp
                  exact hK _ _ ⟨Only.refl _ _, hI, rfl⟩
                · refine inv_step _ (by rfl) (by rfl) (fun K' hK => ?_)
                  simp only [putAll, Act.put, List.setIfInBounds_toArray, List.set_cons_succ, List.set_cons_zero] at hK ⊢
                  have e3 := hA 3 (hd 3 (by simp))
                  change vs 3 = (.slice Ay data'.length cy) at e3
                  simp only [e3] at hK
                  go_simp
                  go_at_call 27
                  refine (clone_any Ay cy data' _ ((Bs.box HOKY8.out HBC8.out (by intro i z; match i with | 0 => simp | 1 => simp | 2 => simp | 3 => simp | 4 => simp | 5 => simp | 6 => simp | 7 => simp | 8 => simp | 9 => simp | 10 => simp | n + 11 => simp) hI.1 (Nat.le_refl _)).up hI.1.size) HDY.out).mono ?_
                  rintro x u2 ⟨A2, c2, rfl, hc2, ho2, hO2⟩
                  go_simp
                  exact hK _ _ ⟨hO2.any, HIN.out L vs _ _ hO2 hI, ⟨A2, c2, rfl, hc2, own_base ho2 hI.1.size⟩⟩
                · refine inv_step _ (by rfl) (by rfl) (fun K' hK => ?_)
                  simp only [putAll, Act.put, List.setIfInBounds_toArray, List.set_cons_succ, List.set_cons_zero] at hK ⊢
                  have kb := fun i => hI.2.cell i
                  have kf := fun i => hI.2.frozen i
                  go_simp
                  refine hK undef _ ⟨(Only.refl _ _).setCell (p := ⟨gc, 6, none⟩) (Or.inl (show One gc gc from rfl)) _, ⟨hI.1.setCell (p := ⟨gc, 6, none⟩) (Or.inl (show One gc gc from rfl)) _, ?_⟩, trivial⟩
                  have hb2 := hI.2.set_ 6 (.bool true)
                  simp only [List.setIfInBounds_toArray, List.set_cons_succ, List.set_cons_zero] at hb2
                  exact hb2
                · refine inv_step _ (by rfl) (by rfl) (fun K' hK => ?_)
                  simp only [putAll, Act.put, List.setIfInBounds_toArray, List.set_cons_succ, List.set_cons_zero] at hK ⊢
                  go_simp
                  exact hK _ _ ⟨Only.refl _ _, hI, rfl⟩
                · refine inv_step _ (by rfl) (by rfl) (fun K' hK => ?_)
                  simp only [putAll, Act.put, List.setIfInBounds_toArray, List.set_cons_succ, List.set_cons_zero] at hK ⊢
                  have e1 := hA 1 (hd 1 (by simp))
                  change vs 1 = (.int .i64 result') at e1
                  have e7 := hA 7 (hd 7 (by simp))
                  change vs 7 = (.pointer (some ⟨gc, 7, none⟩)) at e7
                  simp only [e1, e7] at hK
                  have kb := fun i => hI.2.cell i
                  have kf := fun i => hI.2.frozen i
                  go_simp
                  refine hK undef _ ⟨(Only.refl _ _).setCell (p := ⟨gc, 7, none⟩) (Or.inl (show One gc gc from rfl)) _, ⟨hI.1.setCell (p := ⟨gc, 7, none⟩) (Or.inl (show One gc gc from rfl)) _, ?_⟩, trivial⟩
                  have hb2 := hI.2.set_ 7 (.int .i64 result')
                  simp only [List.setIfInBounds_toArray, List.set_cons_succ, List.set_cons_zero] at hb2
                  exact hb2
              case fin_7 =>
                intro L vs u hI hL hA
                simp only [putAll, Act.put, List.setIfInBounds_toArray, List.set_cons_succ, List.set_cons_zero, List.drop_succ_cons, List.drop_zero]
                obtain ⟨hO, hb⟩ := hI
                rw [hL 6 (by omega), if_pos (hL 8 (by omega))] at hb
                obtain ⟨A4, c4, e4, hc4, ho4⟩ := hA 4 (by omega)
                simp only [e4]
                have kb : ∀ i, u.cell? ⟨gc, i, none⟩ = #[Value.int .i64 task, .int .i64 call, .int .i64 a0, .int .i64 a1, .int .i64 a2, .slice Ad data.length cd, .bool true, .int .i64 result', .slice none 0 0, .int .i64 k, .int .i64 e][i]? := fun i => hb.cell i
                have kf : ∀ i, u.frozen? ⟨gc, i, none⟩ = false := fun i => hb.frozen i
                have HBU := Lib.hid hb
                have HOU := Lib.hid hO
                have HO4 := Lib.hid ho4
                clear hA hL hb hO ho4 e4
                go_wp2_with fail
                go_meet
                case rel =>
                  have hS : Only (One gc) u (u.setCell ⟨gc, 8, none⟩ (.slice A4 data'.length c4)) := by (repeat' (first | with_reducible exact Only.refl _ _ | with_reducible refine Only.setCell ?_ (Or.inl ?_) _ | with_reducible refine Only.drewN ?_ _ | with_reducible refine Only.drew ?_ | with_reducible refine Only.alloc ?_ _ | (exact rfl)))
                  have hb8 := HBU.out.set_ 8 (.slice A4 data'.length c4)
                  simp only [List.setIfInBounds_toArray, List.set_cons_succ, List.set_cons_zero] at hb8
                  have hSS := HOU.out.then_ hS
                  have hfar : ∀ {v : Value} {n : Nat} {xs : List Value}, wc.ownsRow w.heap.size 5 1 v n xs → (u.setCell ⟨gc, 8, none⟩ (.slice A4 data'.length c4)).ownsRow w.heap.size 5 1 v n xs := fun h => own_only h hSS (fun q hq hx => own_blk_ne h HBC8.out (by decide) (by rw [hq, hx]))
                  rw [HCA.out]
                  refine ⟨A4, c4, hb8, hfar HCO8.out, own_base (own_only HO4.out hS (fun q hq hx => own_blk_ne HO4.out HBU.out (by decide) (by rw [hq, hx]))) HO8.out.size, ⟨?_, fun r hr => ⟨hfar (HRW8.out.data r hr).1, hfar (HRW8.out.data r hr).2⟩⟩, HO8.out.trans hSS (fun x hx => .inr (by unfold One at hx; omega))⟩
                  exact own_only HRW8.out.row hSS (fun q hq hx => HNR.out q hq hx)
          case rest =>
            obtain ⟨Ar, cr, hbc, hod, hor, hrow, hO9⟩ := hcut
            have hcd : CA.data = data := by rw [HCA.out]; split <;> rfl
            rw [← hcd] at hod
            have HCPF := Lib.hid HCP.out
            clear hcd HCP HCA
            obtain ⟨ct, cn, x0, x1, x2, cdat, cdone, cres, crep, cbeg, cfin⟩ := CA
            dsimp only at hod hor
            have kc : ∀ i, wc.cell? ⟨gc, i, none⟩ = #[Value.int .i64 ct, .int .i64 cn, .int .i64 x0, .int .i64 x1, .int .i64 x2, .slice Ad cdat.length cd, .bool cdone, .int .i64 cres, .slice Ar crep.length cr, .int .i64 cbeg, .int .i64 cfin][i]? := fun i => hbc.cell i
            have HOD9 := Lib.hid hod
            have HOR9 := Lib.hid hor
            have HRW9 := Lib.hid hrow
            have HO9 := Lib.hid hO9
            clear hbc hod hor hrow hO9
            go_wp2_with (at_builtin; go_must (refine wpList_append_rd _ rfl (.tmp 48) (.tmp 50) _ rfl w.heap.size 40 j0 _ 11 120 Try.underlying35 hj0 hy0 hy1 hy2 rfl (by omega) (.slice A' M c') M (os.flatMap CR.cells) rfl ?qown (wc.heap.size + 1) (some ⟨wc.heap.size, 0, none⟩) 1 1 [.int .i64 ct, .int .i64 cn, .int .i64 x0, .int .i64 x1, .int .i64 x2, .slice Ad cdat.length cd, .bool cdone, .int .i64 cres, .slice Ar crep.length cr, .int .i64 cbeg, .int .i64 cfin] rfl ?qrd ?qone (M + 1) rfl _ rfl ?q63 ?qby ?qbase ?_))
            case qown => have := own_onlyNil HRW9.out.row ((Only.refl Nil wc).alloc (.cells #[.int .i64 ct, .int .i64 cn, .int .i64 x0, .int .i64 x1, .int .i64 x2, .slice Ad cdat.length cd, .bool cdone, .int .i64 cres, .slice Ar crep.length cr, .int .i64 cbeg, .int .i64 cfin] 40)); rw [HM.out] at this; exact this
            case qrd => exact Rd.newBlock wc #[.int .i64 ct, .int .i64 cn, .int .i64 x0, .int .i64 x1, .int .i64 x2, .slice Ad cdat.length cd, .bool cdone, .int .i64 cres, .slice Ar crep.length cr, .int .i64 cbeg, .int .i64 cfin] _ 11 1 rfl rfl
            case qone => exact CR.cells_one ⟨Ad, cd, Ar, cr, ⟨ct, cn, x0, x1, x2, cdat, cdone, cres, crep, cbeg, cfin⟩⟩
            case q63 => have := HMN.out; unfold maxLen; omega
            case qby => have := HMN.out; omega
            case qbase => have := HO9.out.size; simp; omega
            intro A4 c4 w4 hc4 hown4 hgr4 hat4
            have hO4 : Only (fun x => (Value.slice A' os.length c').ownBlock = some x) (wc.alloc (.cells #[.int .i64 ct, .int .i64 cn, .int .i64 x0, .int .i64 x1, .int .i64 x2, .slice Ad cdat.length cd, .bool cdone, .int .i64 cres, .slice Ar crep.length cr, .int .i64 cbeg, .int .i64 cfin] 40)) w4 := by rw [HM.out]; exact Only.of_grown hgr4
            have hrow4 : CRow w4 w.heap.size A4 c4 (os ++ [⟨Ad, cd, Ar, cr, ⟨ct, cn, x0, x1, x2, cdat, cdone, cres, crep, cbeg, cfin⟩⟩]) :=
              CRow.grow (HRW9.out.onlyNil ((Only.refl _ _).alloc _)) hO4 (by rw [HM.out]; exact hown4) (own_onlyNil HOD9.out ((Only.refl _ _).alloc _)) (own_onlyNil HOR9.out ((Only.refl _ _).alloc _))
            have HO10 : Hid (Only Nil w w4) := Lib.hid ((HO9.out.alloc _).trans hO4 (fun x hx => .inr (ownBlock_ge HRW9.out.row hx)))
            have HR4 := Lib.hid hrow4
            have HC4 := Lib.hid hc4
            clear hO4 hrow4 hown4 hgr4 hat4 hc4
            go_wp2_with fail
            go_roundw
            case rel =>
              have hlen : (os ++ [(⟨Ad, cd, Ar, cr, ⟨ct, cn, x0, x1, x2, cdat, cdone, cres, crep, cbeg, cfin⟩⟩ : CR)]).length = M + 1 := by rw [List.length_append, HM.out]; rfl
              refine ⟨k + 1, A4, c4, _, by omega, by go_num, by rw [hlen], by rw [hlen]; exact HC4.out, ?_, HR4.out, HO10.out⟩
              rw [HCPF.out, List.map_append, HOS.out]
              rfl
            case measure => simp [intOf]; omega
    · have hkN : k = N := by omega
      subst hkN
      go_wp2_with fail
      go_ret
      exact ⟨A', c', os, by rw [HM.out]; rfl, by rw [HOS.out, List.length_map, HN.out], HROW.out, by rw [HM.out]; exact HOC.out, HO.out⟩

end Go.Proofs.Ytdejceojhkdjnaa
