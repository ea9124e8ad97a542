/-
  Walks of replay.copied, replay.Project, ratoonref54.Project.
  Conditions: the entries can be read; each has at most 2 to the power 38 bytes.
-/
import Derived.Test.YtdejceojhkdjnaaRpC1
import Derived.LoopTactic
namespace Go.Proofs.Ytdejceojhkdjnaa
open Go.RowKit

def ECopyPost (x : En) (w : World) (e : Ending) (w' : World) : Prop :=
  ∃ A c, e = .returned (.agg #[.int .i64 x.kind, .int .i64 x.task, .int .i64 x.call, .int .i64 x.a0, .int .i64 x.a1, .int .i64 x.a2, .int .i64 x.result, .slice A x.data.length c]) ∧ x.data.length ≤ c ∧ w'.ownsRow w.heap.size 5 1 (.slice A x.data.length c) x.data.length (bcells x.data) ∧ Only Nil w w'

def zEC : Array Value := #[.int .i64 0, .int .i64 0, .int .i64 0, .int .i64 0, .int .i64 0, .int .i64 0, .int .i64 0, .slice none 0 0]

set_option maxRecDepth 100000 in
set_option maxHeartbeats 1000000 in
theorem ecopied_any (r : ER) (w : World) (h : Bs w w.heap.size r.A r.x.data) (hl : r.x.data.length ≤ 1099511627776) :
    Calls Try.prog 32 #[.agg r.cells.toArray] w (ECopyPost r.x w) := by
  obtain ⟨A, c, ⟨kind, task, call, a0, a1, a2, result, data⟩⟩ := r
  dsimp only at h hl
  have HCL := Lib.hid (fun (u : World) (hu : Only Nil w u) => clone_any A c data u ((h.onlyNil hu (Nat.le_refl _)).up hu.size) hl)
  unfold ER.cells ECopyPost
  dsimp only
  obtain ⟨D, hD⟩ : ∃ D, data.length = D := ⟨_, rfl⟩
  unfold BytesPost at HCL
  rw [hD] at HCL ⊢
  clear h hl hD
  go_enter Try.func32, Try.ntmps32
  go_upto_region 0 with fail
  go_cut [1, 2] (fun p q wd => ∃ g1 g2, p = .pointer (some ⟨g1, 0, none⟩) ∧ q = .pointer (some ⟨g2, 0, none⟩) ∧ g1 ≠ g2 ∧ w.heap.size ≤ g1 ∧ w.heap.size ≤ g2 ∧ Blk wd g1 42 #[.int .i64 kind, .int .i64 task, .int .i64 call, .int .i64 a0, .int .i64 a1, .int .i64 a2, .int .i64 result, .slice A D c] ∧ Blk wd g2 42 zEC ∧ Only Nil w wd)
  case first =>
    go_wp2_with fail
    go_meet
    case rel => exact ⟨w.heap.size, w.heap.size + 1, rfl, by simp, by omega, Nat.le_refl _, by omega, (Blk.new _ _ _).alloc _, by have := Blk.new (w.alloc (.cells #[.int .i64 kind, .int .i64 task, .int .i64 call, .int .i64 a0, .int .i64 a1, .int .i64 a2, .int .i64 result, .slice A D c] 42)) 42 zEC; simp only [World.size_alloc] at this; exact this, by (repeat' (first | with_reducible exact Only.refl _ _ | with_reducible refine Only.setCell ?_ (Or.inl ?_) _ | with_reducible refine Only.drewN ?_ _ | with_reducible refine Only.drew ?_ | with_reducible refine Only.alloc ?_ _ | (fail)))⟩
  case rest =>
  obtain ⟨g1, g2, rfl, rfl, hne, hg1, hg2, hb1, hb2, hO⟩ := hcut
  have hne' := hne.symm
  have k1 : ∀ i, wc.cell? ⟨g1, i, none⟩ = #[Value.int .i64 kind, .int .i64 task, .int .i64 call, .int .i64 a0, .int .i64 a1, .int .i64 a2, .int .i64 result, .slice A D c][i]? := fun i => hb1.cell i
  have HB1 := Lib.hid hb1
  have HB2 := Lib.hid hb2
  have HO := Lib.hid hO
  clear hb1 hb2 hO
  go_wp2_with fail
  refine (HCL.out _ HO.out).mono ?_
  rintro e w2 ⟨A2, c2, rfl, hc2, hown, hO2⟩
  have hb1 := HB1.out.onlyNil hO2
  have hb2 := HB2.out.onlyNil hO2
  have m1 : ∀ i, w2.cell? ⟨g1, i, none⟩ = #[Value.int .i64 kind, .int .i64 task, .int .i64 call, .int .i64 a0, .int .i64 a1, .int .i64 a2, .int .i64 result, .slice A D c][i]? := fun i => hb1.cell i
  have m2 : ∀ i, w2.cell? ⟨g2, i, none⟩ = #[Value.int .i64 0, .int .i64 0, .int .i64 0, .int .i64 0, .int .i64 0, .int .i64 0, .int .i64 0, .slice none 0 0][i]? := fun i => hb2.cell i
  have f1 : ∀ i, w2.frozen? ⟨g1, i, none⟩ = false := fun i => hb1.frozen i
  have f2 : ∀ i, w2.frozen? ⟨g2, i, none⟩ = false := fun i => hb2.frozen i
  have HW := Lib.hid hown
  have HC := Lib.hid hc2
  have HO2 := Lib.hid (HO.out.thenNil hO2)
  have HSZ := Lib.hid (show w.heap.size ≤ wc.heap.size from HO.out.size)
  have HL1 := Lib.hid HB1.out.lt
  have HL2 := Lib.hid HB2.out.lt
  clear hb1 hb2 hown hc2 hO2 k1
  go_wp2_with fail
  refine bodyPost_ret (v := .agg #[.int .i64 kind, .int .i64 task, .int .i64 call, .int .i64 a0, .int .i64 a1, .int .i64 a2, .int .i64 result, .slice A2 D c2]) (by simp [results, Try.results32, go_sem, m2]) rfl ?_
  have hfin : ∀ u, Only (fun x => x = g1 ∨ x = g2) w2 u → ECopyPost ⟨kind, task, call, a0, a1, a2, result, data⟩ w (.returned (.agg #[.int .i64 kind, .int .i64 task, .int .i64 call, .int .i64 a0, .int .i64 a1, .int .i64 a2, .int .i64 result, .slice A2 D c2])) u ∨ True := fun u hu => .inr trivial
  clear hfin
  refine ⟨A2, c2, rfl, HC.out, own_base (own_only HW.out (S := fun x => x = g1 ∨ x = g2) (by (repeat' (first | with_reducible exact Only.refl _ _ | with_reducible refine Only.setCell ?_ (Or.inl ?_) _ | with_reducible refine Only.drewN ?_ _ | with_reducible refine Only.drew ?_ | with_reducible refine Only.alloc ?_ _ | (first | exact Or.inl rfl | exact Or.inr rfl)))) (fun q hq hx => ?_)) HSZ.out, HO2.out.trans (S' := fun x => x = g1 ∨ x = g2) (by (repeat' (first | with_reducible exact Only.refl _ _ | with_reducible refine Only.setCell ?_ (Or.inl ?_) _ | with_reducible refine Only.drewN ?_ _ | with_reducible refine Only.drew ?_ | with_reducible refine Only.alloc ?_ _ | (first | exact Or.inl rfl | exact Or.inr rfl)))) (fun x hx => .inr (by rcases hx with hx | hx <;> omega))⟩
  have h1 := ownBlock_ge HW.out hq
  have h2 := HL1.out
  have h3 := HL2.out
  rcases hx with hx | hx <;> omega

/-- Entries in rows of the call's own. -/
structure ERow (w : World) (base : Nat) (A : Option Addr) (c : Nat) (rs : List ER) : Prop where
  row : w.ownsRow base 42 8 (.slice A rs.length c) rs.length (rs.flatMap ER.cells)
  data : ∀ r ∈ rs, w.ownsRow base 5 1 (.slice r.A r.x.data.length r.c) r.x.data.length (bcells r.x.data)
theorem ERow.onlyNil {w w' : World} {base : Nat} {A : Option Addr} {c : Nat} {rs : List ER} (h : ERow w base A c rs) (hO : Only Nil w w') : ERow w' base A c rs :=
  ⟨own_onlyNil h.row hO, fun r hr => own_onlyNil (h.data r hr) hO⟩
theorem ERow.ed {w : World} {base : Nat} {A : Option Addr} {c : Nat} {rs : List ER} (h : ERow w base A c rs) : Ed w A rs :=
  ⟨Rd.of_own h.row, fun r hr => (Bs.of_own (h.data r hr)).1⟩
theorem ERow.grow {w w' : World} {base : Nat} {A A' : Option Addr} {c c' : Nat} {rs : List ER} {r : ER} (h : ERow w base A c rs) (hO : Only (fun x => (Value.slice A rs.length c).ownBlock = some x) w w')
    (hr : w'.ownsRow base 42 8 (.slice A' (rs.length + 1) c') (rs.length + 1) (rs.flatMap ER.cells ++ r.cells))
    (h1 : w.ownsRow base 5 1 (.slice r.A r.x.data.length r.c) r.x.data.length (bcells r.x.data)) : ERow w' base A' c' (rs ++ [r]) := by
  have keep : ∀ {v : Value} {n : Nat} {xs : List Value}, w.ownsRow base 5 1 v n xs → w'.ownsRow base 5 1 v n xs := fun hv => own_only hv hO fun q hq hx => own_own_ne h.row hv (by decide) hx hq
  refine ⟨?_, fun r' hr' => ?_⟩
  · have e : (rs ++ [r]).flatMap ER.cells = rs.flatMap ER.cells ++ r.cells := by simp
    rw [e, List.length_append, List.length_singleton]
    exact hr
  · rcases List.mem_append.1 hr' with h3 | h3
    · exact keep (h.data r' h3)
    · rw [List.mem_singleton] at h3
      subst h3
      exact keep h1

def projE (task : Int) (l : List En) : List En := l.filter fun x => x.task == task
theorem projE_snoc (task : Int) (l : List En) (x : En) : projE task (l ++ [x]) = if x.task = task then projE task l ++ [x] else projE task l := by
  unfold projE
  rw [List.filter_append]
  split
  · rename_i h
    rw [List.filter_cons_of_pos (by simp [h]), List.filter_nil]
  · rename_i h
    rw [List.filter_cons_of_neg (by simp [h]), List.filter_nil, List.append_nil]
theorem projE_len (task : Int) (l : List En) : (projE task l).length ≤ l.length := List.length_filter_le _ _
def ProjPost (task : Int) (l : List En) (w : World) (x : Ending) (w' : World) : Prop :=
  ∃ A c os, x = .returned (.slice A os.length c) ∧ os.map ER.x = projE task l ∧ ERow w' w.heap.size A c os ∧ Only Nil w w'
theorem ER.take_succ {rs : List ER} {k : Nat} {r : ER} (hr : rs[k]? = some r) : (rs.take (k + 1)).map ER.x = (rs.take k).map ER.x ++ [r.x] := by
  obtain ⟨hk, e⟩ := List.getElem?_eq_some_iff.1 hr
  rw [List.take_succ_eq_append_getElem hk, e, List.map_append]
  rfl

-- PROJECT
theorem entry_info2 : (Try.prog.info? 42).map (fun i => (i.zero, i.size, i.bytes)) = some (some (.agg #[.int .i64 0, .int .i64 0, .int .i64 0, .int .i64 0, .int .i64 0, .int .i64 0, .int .i64 0, .slice none 0 0]), 8, 80) := by kernel_rfl

set_option maxRecDepth 100000 in
set_option maxHeartbeats 2000000 in
theorem project_any (A : Option Addr) (c : Nat) (task : Int) (rs : List ER) (w : World) (h : Es w w.heap.size A rs) (hl : rs.length ≤ 1099511627776) (hd : ∀ r ∈ rs, r.x.data.length ≤ 1099511627776) :
    Calls Try.prog 21 #[.slice A rs.length c, .int .i64 task] w (ProjPost task (rs.map ER.x) w) := by
  obtain ⟨j0, hj0, hy0, hy1, hy2⟩ := info_parts entry_info2
  obtain ⟨N, hN⟩ : ∃ N, rs.length = N := ⟨_, rfl⟩
  rw [hN] at hl ⊢
  have HN := Lib.hid hN
  have HE := Lib.hid h
  have HDL := Lib.hid hd
  clear hN h hd
  go_enter Try.func21, Try.ntmps21
  go_wp2_with fail
  go_loopw [10, 5] (fun i v wr => ∃ (k : Nat) (A' : Option Addr) (c' : Nat) (os : List ER), k ≤ N ∧ i = .int .i64 k ∧ v = .slice A' os.length c' ∧ os.map ER.x = projE task ((rs.take k).map ER.x) ∧ ERow wr w.heap.size A' c' os ∧ Only Nil w wr) (fun i _ _ => N - (intOf i).toNat)
  case atStart => exact ⟨0, none, 0, [], Nat.zero_le _, rfl, rfl, rfl, ⟨World.ownsRow_nil _ _ _ _, fun r hr => by cases hr⟩, Only.refl _ _⟩
  case round =>
    obtain ⟨k, A', c', os, hk, rfl, rfl, hos, hrow, hO⟩ := hrel
    obtain ⟨M, hM⟩ : ∃ M, os.length = M := ⟨_, rfl⟩
    rw [hM]
    have HMN : Hid (M ≤ k) := Lib.hid (by
      have h1 := projE_len task ((rs.take k).map ER.x)
      rw [← hos, List.length_map, List.length_map, List.length_take, hM] at h1
      omega)
    have HM := Lib.hid hM
    have HOS := Lib.hid hos
    have HROW := Lib.hid hrow
    have HO := Lib.hid hO
    clear hM hos hrow hO
    obtain ⟨w3, rfl⟩ : ∃ w3, w3 = wr := ⟨_, rfl⟩
    by_cases hlt : k < N
    · obtain ⟨r, hr⟩ : ∃ r, rs[k]? = some r := ⟨rs[k]'(by rw [HN.out]; exact hlt), List.getElem?_eq_getElem _⟩
      obtain ⟨b, off, rfl, hb, hcs⟩ := (HE.out.next HO.out).at_ hr
      have hok := (HE.out.next HO.out).ok r (List.mem_of_getElem? hr)
      have hdl := HDL.out r (List.mem_of_getElem? hr)
      have hpj := projE_snoc task ((rs.take k).map ER.x) r.x
      rw [← ER.take_succ hr] at hpj
      have HPJ := Lib.hid hpj
      have HOK := Lib.hid hok.data
      have HDR := Lib.hid hdl
      clear hr hok hdl hpj hb
      obtain ⟨Ax, cx, kind, task', call, a0, a1, a2, result, data⟩ := r
      dsimp only at HPJ HOK HDR
      obtain ⟨D, hD⟩ : ∃ D, data.length = D := ⟨_, rfl⟩
      have c0 : w3.cell? ⟨b, off + k * 8, none⟩ = some (.int .i64 kind) := hcs 0 _ rfl
      have c1 : w3.cell? ⟨b, off + k * 8 + 1, none⟩ = some (.int .i64 task') := hcs 1 _ rfl
      have c2 : w3.cell? ⟨b, off + k * 8 + 2, none⟩ = some (.int .i64 call) := hcs 2 _ rfl
      have c3 : w3.cell? ⟨b, off + k * 8 + 3, none⟩ = some (.int .i64 a0) := hcs 3 _ rfl
      have c4 : w3.cell? ⟨b, off + k * 8 + 4, none⟩ = some (.int .i64 a1) := hcs 4 _ rfl
      have c5 : w3.cell? ⟨b, off + k * 8 + 5, none⟩ = some (.int .i64 a2) := hcs 5 _ rfl
      have c6 : w3.cell? ⟨b, off + k * 8 + 6, none⟩ = some (.int .i64 result) := hcs 6 _ rfl
      have c7 : w3.cell? ⟨b, off + k * 8 + 7, none⟩ = some (.slice Ax D cx) := by rw [← hD]; exact hcs 7 _ rfl
      have HD := Lib.hid hD
      have hki : (k : Int) < N := by omega
      clear hcs hD
      go_upto_region 4 with fail
      go_cut [7] (fun p wd => ∃ gb, p = .pointer (some ⟨gb, 0, none⟩) ∧ w3.heap.size ≤ gb ∧ Blk wd gb 42 #[.int .i64 kind, .int .i64 task', .int .i64 call, .int .i64 a0, .int .i64 a1, .int .i64 a2, .int .i64 result, .slice Ax D cx] ∧ Only Nil w3 wd)
      case first =>
        go_wp2_with fail
        go_meet
        case rel => exact ⟨_, rfl, Nat.le_refl _, Blk.new _ _ _, by (repeat' (first | with_reducible exact Only.refl _ _ | with_reducible refine Only.setCell ?_ (Or.inl ?_) _ | with_reducible refine Only.drewN ?_ _ | with_reducible refine Only.drew ?_ | with_reducible refine Only.alloc ?_ _ | (fail)))⟩
      case rest =>
      obtain ⟨gb, rfl, hgb, hbb, hO4⟩ := hcut
      have kb : ∀ i, wc.cell? ⟨gb, i, none⟩ = #[Value.int .i64 kind, .int .i64 task', .int .i64 call, .int .i64 a0, .int .i64 a1, .int .i64 a2, .int .i64 result, .slice Ax D cx][i]? := fun i => hbb.cell i
      have HBB := Lib.hid hbb
      have HO4 := Lib.hid hO4
      clear hbb hO4 c0 c1 c2 c3 c4 c5 c6 c7
      by_cases hT : task' = task
      rotate_left
      · have b1 : (task' == task) = false := beq_false_of_ne hT
        have HT := Lib.hid hT
        clear hT
        go_wp2_with fail
        go_roundw
        case rel => exact ⟨k + 1, A', c', os, by omega, by go_num, by rw [HM.out], by rw [HPJ.out, if_neg HT.out]; exact HOS.out, HROW.out.onlyNil HO4.out, HO.out.thenNil HO4.out⟩
        case measure => simp [intOf]; omega
      have b1 : (task' == task) = true := by simp [hT]
      have HT := Lib.hid hT
      clear hT
      have hcp := ecopied_any ⟨Ax, cx, ⟨kind, task', call, a0, a1, a2, result, data⟩⟩ wc ((HOK.out.onlyNil HO4.out (Nat.le_refl _)).up HO4.out.size) HDR.out
      unfold ER.cells ECopyPost at hcp
      dsimp only at hcp
      rw [HD.out] at hcp
      have HCP := Lib.hid hcp
      clear hcp
      go_wp2_with fail
      refine HCP.out.mono ?_
      rintro e w9 ⟨A9, d9, rfl, hc9, hown9, hO9⟩
      have HROW9 := Lib.hid ((HROW.out.onlyNil HO4.out).onlyNil hO9)
      have HW9 := Lib.hid (own_base hown9 (Nat.le_trans HO.out.size HO4.out.size))
      have HO9 := Lib.hid ((HO.out.thenNil HO4.out).thenNil hO9)
      clear hc9 hown9 hO9 kb
      go_wp2_with (at_builtin; go_must (refine wpList_append_rd _ rfl (.tmp 18) (.tmp 21) _ rfl w.heap.size 42 j0 _ 8 80 Try.underlying22 hj0 hy0 hy1 hy2 rfl (by omega) (.slice A' M c') M (os.flatMap ER.cells) rfl ?qown (w9.heap.size + 1) (some ⟨w9.heap.size, 0, none⟩) 1 1 [.int .i64 kind, .int .i64 task', .int .i64 call, .int .i64 a0, .int .i64 a1, .int .i64 a2, .int .i64 result, .slice A9 D d9] rfl ?qrd ?qone (M + 1) rfl _ rfl ?q63 ?qby ?qbase ?_))
      case qown => have := own_onlyNil HROW9.out.row ((Only.refl Nil w9).alloc (.cells #[.int .i64 kind, .int .i64 task', .int .i64 call, .int .i64 a0, .int .i64 a1, .int .i64 a2, .int .i64 result, .slice A9 D d9] 42)); rw [HM.out] at this; exact this
      case qrd => exact Rd.newBlock w9 #[.int .i64 kind, .int .i64 task', .int .i64 call, .int .i64 a0, .int .i64 a1, .int .i64 a2, .int .i64 result, .slice A9 D d9] _ 8 1 rfl rfl
      case qone => first | (have h1 := ER.cells_one ⟨A9, d9, ⟨kind, task', call, a0, a1, a2, result, data⟩⟩; unfold ER.cells at h1; dsimp only at h1; rw [HD.out] at h1; exact h1) | exact ⟨rfl, rfl, rfl, rfl, rfl, rfl, rfl, rfl⟩
      case q63 => have := HMN.out; unfold maxLen; omega
      case qby => have := HMN.out; omega
      case qbase => have := HO9.out.size; simp; omega
      intro A4 c4 w4 hc4 hown4 hgr4 hat4
      have hO4 : Only (fun x => (Value.slice A' os.length c').ownBlock = some x) (w9.alloc (.cells #[.int .i64 kind, .int .i64 task', .int .i64 call, .int .i64 a0, .int .i64 a1, .int .i64 a2, .int .i64 result, .slice A9 D d9] 42)) w4 := by rw [HM.out]; exact Only.of_grown hgr4
      have hrow4 : ERow w4 w.heap.size A4 c4 (os ++ [⟨A9, d9, ⟨kind, task', call, a0, a1, a2, result, data⟩⟩]) :=
        ERow.grow (HROW9.out.onlyNil ((Only.refl _ _).alloc _)) hO4 (by rw [HM.out]; unfold ER.cells; dsimp only; rw [HD.out]; exact hown4) (own_onlyNil (by dsimp only; rw [HD.out]; exact HW9.out) ((Only.refl _ _).alloc _))
      have HO10 : Hid (Only Nil w w4) := Lib.hid ((HO9.out.alloc _).trans hO4 (fun x hx => .inr (ownBlock_ge HROW9.out.row hx)))
      have HR4 := Lib.hid hrow4
      clear hO4 hrow4 hown4 hgr4 hat4 hc4
      go_wp2_with fail
      go_roundw
      case rel =>
        have hlen : (os ++ [(⟨A9, d9, ⟨kind, task', call, a0, a1, a2, result, data⟩⟩ : ER)]).length = M + 1 := by rw [List.length_append, HM.out]; rfl
        refine ⟨k + 1, A4, c4, _, by omega, by go_num, by rw [hlen], ?_, HR4.out, HO10.out⟩
        rw [HPJ.out, if_pos HT.out, List.map_append, HOS.out]
        rfl
      case measure => simp [intOf]; omega
    · have hkN : k = N := by omega
      subst hkN
      go_wp2_with fail
      go_ret
      refine ⟨A', c', os, by rw [HM.out]; rfl, ?_, HROW.out, HO.out⟩
      rw [HOS.out, List.take_of_length_le (by rw [HN.out]; exact Nat.le_refl _)]

set_option maxRecDepth 100000 in
set_option maxHeartbeats 2000000 in
theorem Ref.project_any (A : Option Addr) (c : Nat) (task : Int) (rs : List ER) (w : World) (h : Es w w.heap.size A rs) (hl : rs.length ≤ 1099511627776) (hd : ∀ r ∈ rs, r.x.data.length ≤ 1099511627776) :
    Calls Try.prog 22 #[.slice A rs.length c, .int .i64 task] w (ProjPost task (rs.map ER.x) w) := by
  obtain ⟨j0, hj0, hy0, hy1, hy2⟩ := info_parts entry_info2
  obtain ⟨N, hN⟩ : ∃ N, rs.length = N := ⟨_, rfl⟩
  rw [hN] at hl ⊢
  have HN := Lib.hid hN
  have HE := Lib.hid h
  have HDL := Lib.hid hd
  clear hN h hd
  go_enter Try.func22, Try.ntmps22
  go_wp2_with fail
  go_loopw [6, 5] (fun i v wr => ∃ (k : Nat) (A' : Option Addr) (c' : Nat) (os : List ER), k ≤ N ∧ i = .int .i64 k ∧ v = .slice A' os.length c' ∧ os.map ER.x = projE task ((rs.take k).map ER.x) ∧ ERow wr w.heap.size A' c' os ∧ Only Nil w wr) (fun i _ _ => N - (intOf i).toNat)
  case atStart => exact ⟨0, none, 0, [], Nat.zero_le _, rfl, rfl, rfl, ⟨World.ownsRow_nil _ _ _ _, fun r hr => by cases hr⟩, Only.refl _ _⟩
  case round =>
    obtain ⟨k, A', c', os, hk, rfl, rfl, hos, hrow, hO⟩ := hrel
    obtain ⟨M, hM⟩ : ∃ M, os.length = M := ⟨_, rfl⟩
    rw [hM]
    have HMN : Hid (M ≤ k) := Lib.hid (by
      have h1 := projE_len task ((rs.take k).map ER.x)
      rw [← hos, List.length_map, List.length_map, List.length_take, hM] at h1
      omega)
    have HM := Lib.hid hM
    have HOS := Lib.hid hos
    have HROW := Lib.hid hrow
    have HO := Lib.hid hO
    clear hM hos hrow hO
    obtain ⟨w3, rfl⟩ : ∃ w3, w3 = wr := ⟨_, rfl⟩
    by_cases hlt : k < N
    · obtain ⟨r, hr⟩ : ∃ r, rs[k]? = some r := ⟨rs[k]'(by rw [HN.out]; exact hlt), List.getElem?_eq_getElem _⟩
      obtain ⟨b, off, rfl, hb, hcs⟩ := (HE.out.next HO.out).at_ hr
      have hok := (HE.out.next HO.out).ok r (List.mem_of_getElem? hr)
      have hdl := HDL.out r (List.mem_of_getElem? hr)
      have hpj := projE_snoc task ((rs.take k).map ER.x) r.x
      rw [← ER.take_succ hr] at hpj
      have HPJ := Lib.hid hpj
      have HOK := Lib.hid hok.data
      have HDR := Lib.hid hdl
      clear hr hok hdl hpj hb
      obtain ⟨Ax, cx, kind, task', call, a0, a1, a2, result, data⟩ := r
      dsimp only at HPJ HOK HDR
      obtain ⟨D, hD⟩ : ∃ D, data.length = D := ⟨_, rfl⟩
      have c0 : w3.cell? ⟨b, off + k * 8, none⟩ = some (.int .i64 kind) := hcs 0 _ rfl
      have c1 : w3.cell? ⟨b, off + k * 8 + 1, none⟩ = some (.int .i64 task') := hcs 1 _ rfl
      have c2 : w3.cell? ⟨b, off + k * 8 + 2, none⟩ = some (.int .i64 call) := hcs 2 _ rfl
      have c3 : w3.cell? ⟨b, off + k * 8 + 3, none⟩ = some (.int .i64 a0) := hcs 3 _ rfl
      have c4 : w3.cell? ⟨b, off + k * 8 + 4, none⟩ = some (.int .i64 a1) := hcs 4 _ rfl
      have c5 : w3.cell? ⟨b, off + k * 8 + 5, none⟩ = some (.int .i64 a2) := hcs 5 _ rfl
      have c6 : w3.cell? ⟨b, off + k * 8 + 6, none⟩ = some (.int .i64 result) := hcs 6 _ rfl
      have c7 : w3.cell? ⟨b, off + k * 8 + 7, none⟩ = some (.slice Ax D cx) := by rw [← hD]; exact hcs 7 _ rfl
      have HD := Lib.hid hD
      have hki : (k : Int) < N := by omega
      clear hcs hD
      by_cases hT : task' = task
      rotate_left
      · have b1 : (task' == task) = false := beq_false_of_ne hT
        have HT := Lib.hid hT
        clear hT
        go_wp2_with fail
        go_roundw
        case rel => exact ⟨k + 1, A', c', os, by omega, by go_num, by rw [HM.out], by rw [HPJ.out, if_neg HT.out]; exact HOS.out, HROW.out, HO.out⟩
        case measure => simp [intOf]; omega
      have b1 : (task' == task) = true := by simp [hT]
      have HT := Lib.hid hT
      clear hT
      go_upto_region 6 with fail
      go_cut [7] (fun p wd => ∃ gb, p = .pointer (some ⟨gb, 0, none⟩) ∧ w3.heap.size ≤ gb ∧ Blk wd gb 42 #[.int .i64 kind, .int .i64 task', .int .i64 call, .int .i64 a0, .int .i64 a1, .int .i64 a2, .int .i64 result, .slice Ax D cx] ∧ Only Nil w3 wd)
      case first =>
        go_wp2_with fail
        go_meet
        case rel => exact ⟨_, rfl, Nat.le_refl _, Blk.new _ _ _, by (repeat' (first | with_reducible exact Only.refl _ _ | with_reducible refine Only.setCell ?_ (Or.inl ?_) _ | with_reducible refine Only.drewN ?_ _ | with_reducible refine Only.drew ?_ | with_reducible refine Only.alloc ?_ _ | (fail)))⟩
      case rest =>
      obtain ⟨gb, rfl, hgb, hbb, hO4⟩ := hcut
      have kb : ∀ i, wc.cell? ⟨gb, i, none⟩ = #[Value.int .i64 kind, .int .i64 task', .int .i64 call, .int .i64 a0, .int .i64 a1, .int .i64 a2, .int .i64 result, .slice Ax D cx][i]? := fun i => hbb.cell i
      have HBB := Lib.hid hbb
      have HO4 := Lib.hid hO4
      clear hbb hO4 c0 c1 c2 c3 c4 c5 c6 c7
      obtain ⟨i0, hi0, hz0, hz1, hz2⟩ := info_parts byte_info
      obtain ⟨w5, rfl⟩ : ∃ w5, w5 = wc := ⟨_, rfl⟩
      have HBD := Lib.hid (show Rd w5 w5.heap.size 1 Ax D (bcells data) by have := (HOK.out.onlyNil HO4.out (Nat.le_refl _)).up HO4.out.size; unfold Bs at this; rw [HD.out] at this; exact this)
      have HDD := Lib.hid (show D ≤ 1099511627776 by rw [← HD.out]; exact HDR.out)
      go_upto_region 7 with fail
      go_cut [] (fun wd => ∃ A9 d9, Blk wd gb 42 #[.int .i64 kind, .int .i64 task', .int .i64 call, .int .i64 a0, .int .i64 a1, .int .i64 a2, .int .i64 result, .slice A9 D d9] ∧ wd.ownsRow w5.heap.size 5 1 (.slice A9 D d9) D (bcells data) ∧ Only (One gb) w5 wd)
      case first =>
        have fb : ∀ i, w5.frozen? ⟨gb, i, none⟩ = false := fun i => HBB.out.frozen i
        have ka : ∀ o i, (w5.alloc o).cell? ⟨gb, i, none⟩ = #[Value.int .i64 kind, .int .i64 task', .int .i64 call, .int .i64 a0, .int .i64 a1, .int .i64 a2, .int .i64 result, .slice Ax D cx][i]? := fun o i => (HBB.out.alloc o).cell i
        go_wp2_with (at_builtin; go_must (refine wpList_append_rd _ rfl (.tmp 25) (.tmp 27) _ rfl w5.heap.size 5 i0 (.int .u8 0) 1 1 Try.underlying38 hi0 hz0 hz1 hz2 rfl (by omega) (.slice (some ⟨w5.heap.size, 0, none⟩) 0 0) 0 [] rfl ?qown w5.heap.size Ax D cx (bcells data) rfl ?qrd (bcells_one data) D (by omega) _ rfl ?q63 ?qby ?qbase ?_))
        case qown => exact World.ownsRow_lit w5 #[] 0 (Nat.le_refl _) (by unfold maxLen; omega) rfl
        case qrd => exact Rd.onlyNil HBD.out ((Only.refl _ _).alloc _) (Nat.le_refl _)
        case q63 => have := HDD.out; unfold maxLen; omega
        case qby => have := HDD.out; omega
        case qbase => simp
        intro A9 d9 w6 hc6 hown6 hgr6 hat6
        have hO6 : Only Nil w5 w6 := ((Only.refl _ _).alloc _).grown hgr6 (fun q hq => .inr (Nat.le_of_eq (by simpa [Value.ownBlock] using hq)))
        have hb6 := HBB.out.onlyNil hO6
        have kb6 : ∀ i, w6.cell? ⟨gb, i, none⟩ = #[Value.int .i64 kind, .int .i64 task', .int .i64 call, .int .i64 a0, .int .i64 a1, .int .i64 a2, .int .i64 result, .slice Ax D cx][i]? := fun i => hb6.cell i
        have fb6 : ∀ i, w6.frozen? ⟨gb, i, none⟩ = false := fun i => hb6.frozen i
        have HB6 := Lib.hid hb6
        have HO6 := Lib.hid hO6
        have HW6 : Hid (w6.ownsRow w5.heap.size 5 1 (.slice A9 D d9) D (bcells data)) := Lib.hid (by simpa using hown6)
        clear hb6 hO6 hown6 hgr6 hat6 hc6 kb ka
        go_wp2_with fail
        go_meet
        case rel =>
          have hS : Only (One gb) w6 (w6.setCell ⟨gb, 7, none⟩ (.slice A9 D d9)) := by (repeat' (first | with_reducible exact Only.refl _ _ | with_reducible refine Only.setCell ?_ (Or.inl ?_) _ | with_reducible refine Only.drewN ?_ _ | with_reducible refine Only.drew ?_ | with_reducible refine Only.alloc ?_ _ | (exact rfl)))
          have hb7 := HB6.out.set_ 7 (.slice A9 D d9)
          simp only [List.setIfInBounds_toArray, List.set_cons_succ, List.set_cons_zero] at hb7
          exact ⟨A9, d9, hb7, own_only HW6.out hS (fun q hq hx => own_blk_ne HW6.out HB6.out (by decide) (by rw [hq, hx])), HO6.out.any.then_ hS⟩
      case rest =>
      obtain ⟨A9, d9, hb9, hown9, hO9⟩ := hcut
      obtain ⟨w9, rfl⟩ : ∃ w9, w9 = wc := ⟨_, rfl⟩
      clear kb
      have kb : ∀ i, w9.cell? ⟨gb, i, none⟩ = #[Value.int .i64 kind, .int .i64 task', .int .i64 call, .int .i64 a0, .int .i64 a1, .int .i64 a2, .int .i64 result, .slice A9 D d9][i]? := fun i => hb9.cell i
      have hgbw : w.heap.size ≤ gb := Nat.le_trans HO.out.size hgb
      have HROW9 := Lib.hid (show ERow w9 w.heap.size A' c' os from ⟨own_only ((HROW.out.onlyNil HO4.out).row) hO9 (fun q hq hx => by have := own_lt HROW.out.row hq; unfold One at hx; omega), fun r hr => own_only ((HROW.out.onlyNil HO4.out).data r hr) hO9 (fun q hq hx => by have := own_lt (HROW.out.data r hr) hq; unfold One at hx; omega)⟩)
      have HW9 := Lib.hid (own_base hown9 (Nat.le_trans HO.out.size HO4.out.size))
      have HO9 := Lib.hid ((HO.out.thenNil HO4.out).trans hO9 (fun x hx => .inr (by unfold One at hx; omega)))
      clear hb9 hown9 hO9
      go_wp2_with (at_builtin; go_must (refine wpList_append_rd _ rfl (.tmp 30) (.tmp 32) _ rfl w.heap.size 42 j0 _ 8 80 Try.underlying22 hj0 hy0 hy1 hy2 rfl (by omega) (.slice A' M c') M (os.flatMap ER.cells) rfl ?qown (w9.heap.size + 1) (some ⟨w9.heap.size, 0, none⟩) 1 1 [.int .i64 kind, .int .i64 task', .int .i64 call, .int .i64 a0, .int .i64 a1, .int .i64 a2, .int .i64 result, .slice A9 D d9] rfl ?qrd ?qone (M + 1) rfl _ rfl ?q63 ?qby ?qbase ?_))
      case qown => have := own_onlyNil HROW9.out.row ((Only.refl Nil w9).alloc (.cells #[.int .i64 kind, .int .i64 task', .int .i64 call, .int .i64 a0, .int .i64 a1, .int .i64 a2, .int .i64 result, .slice A9 D d9] 42)); rw [HM.out] at this; exact this
      case qrd => exact Rd.newBlock w9 #[.int .i64 kind, .int .i64 task', .int .i64 call, .int .i64 a0, .int .i64 a1, .int .i64 a2, .int .i64 result, .slice A9 D d9] _ 8 1 rfl rfl
      case qone => first | (have h1 := ER.cells_one ⟨A9, d9, ⟨kind, task', call, a0, a1, a2, result, data⟩⟩; unfold ER.cells at h1; dsimp only at h1; rw [HD.out] at h1; exact h1) | exact ⟨rfl, rfl, rfl, rfl, rfl, rfl, rfl, rfl⟩
      case q63 => have := HMN.out; unfold maxLen; omega
      case qby => have := HMN.out; omega
      case qbase => have := HO9.out.size; simp; omega
      intro A4 c4 w4 hc4 hown4 hgr4 hat4
      have hO4 : Only (fun x => (Value.slice A' os.length c').ownBlock = some x) (w9.alloc (.cells #[.int .i64 kind, .int .i64 task', .int .i64 call, .int .i64 a0, .int .i64 a1, .int .i64 a2, .int .i64 result, .slice A9 D d9] 42)) w4 := by rw [HM.out]; exact Only.of_grown hgr4
      have hrow4 : ERow w4 w.heap.size A4 c4 (os ++ [⟨A9, d9, ⟨kind, task', call, a0, a1, a2, result, data⟩⟩]) :=
        ERow.grow (HROW9.out.onlyNil ((Only.refl _ _).alloc _)) hO4 (by rw [HM.out]; unfold ER.cells; dsimp only; rw [HD.out]; exact hown4) (own_onlyNil (by dsimp only; rw [HD.out]; exact HW9.out) ((Only.refl _ _).alloc _))
      have HO10 : Hid (Only Nil w w4) := Lib.hid ((HO9.out.alloc _).trans hO4 (fun x hx => .inr (ownBlock_ge HROW9.out.row hx)))
      have HR4 := Lib.hid hrow4
      clear hO4 hrow4 hown4 hgr4 hat4 hc4
      go_wp2_with fail
      go_roundw
      case rel =>
        have hlen : (os ++ [(⟨A9, d9, ⟨kind, task', call, a0, a1, a2, result, data⟩⟩ : ER)]).length = M + 1 := by rw [List.length_append, HM.out]; rfl
        refine ⟨k + 1, A4, c4, _, by omega, by go_num, by rw [hlen], ?_, HR4.out, HO10.out⟩
        rw [HPJ.out, if_pos HT.out, List.map_append, HOS.out]
        rfl
      case measure => simp [intOf]; omega
    · have hkN : k = N := by omega
      subst hkN
      go_wp2_with fail
      go_ret
      refine ⟨A', c', os, by rw [HM.out]; rfl, ?_, HROW.out, HO.out⟩
      rw [HOS.out, List.take_of_length_le (by rw [HN.out]; exact Nat.le_refl _)]

end Go.Proofs.Ytdejceojhkdjnaa
