/-
  The walk of record.Read.
  Conditions: the bytes can be read.
-/
import Derived.Test.YtkcmdibpndkfbaaRcR2
import Derived.Test.YtkcmdibpndkfbaaRcC2
namespace Go.Proofs.Ytkcmdibpndkfbaa
open Go.RowKit

theorem entry_info : (Try.prog.info? 39).map (fun i => (i.zero, i.size, i.bytes)) = some (some (.agg #[.int .i64 0, .int .i64 0, .int .i64 0, .int .i64 0, .int .i64 0, .int .i64 0, .int .i64 0, .slice none 0 0]), 8, 80) := by kernel_rfl

/-- What record.Read answers. -/
def RdPost (r : List En × Nat × Int) (w : World) (e : Ending) (w' : World) : Prop :=
  ∃ A c rs, rs.map ER.x = r.1 ∧ e = .returned (.tuple #[.slice A rs.length c, .int .i64 (r.2.1 : Nat), .int .i64 r.2.2]) ∧ rs.length ≤ c ∧ EL w.heap.size w' A c rs ∧ Only Nil w w'

set_option maxRecDepth 100000 in
set_option maxHeartbeats 4000000 in
theorem read_any (A : Option Addr) (c : Nat) (l : List UInt8) (w : World) (hb : Bs w w.heap.size A l) (hl : l.length ≤ 1000000) (hlc : l.length ≤ c) :
    Calls Try.prog 10 #[.slice A l.length c] w (RdPost (readR l) w) := by
  obtain ⟨N, hN⟩ : ∃ N, l.length = N := ⟨_, rfl⟩
  obtain ⟨R, hR⟩ : ∃ R, readR l = R := ⟨_, rfl⟩
  rw [hN, hR]
  unfold readR at hR
  rw [hN] at hR
  have HN := Lib.hid hN
  have HB := Lib.hid hb
  have hlN : N ≤ 1000000 := by omega
  have hNc : N ≤ c := by omega
  have hno : ∀ e, ([], 0, 4) = R → e = .returned (.tuple #[.slice none 0 0, .int .i64 0, .int .i64 4]) → ∀ u, Only Nil w u → RdPost R w e u := fun e h1 h2 u hu => by
    rw [← h1, h2]
    exact ⟨none, 0, [], rfl, rfl, Nat.le_refl _, ⟨World.ownsRow_nil _ _ _ _, fun r hr => by cases hr⟩, hu⟩
  have HNO := Lib.hid hno
  clear hno hb hl hlc
  by_cases h5 : N < 5
  · have h5i : (N : Int) < 5 := by omega
    rw [if_neg (fun e => by have h1 := congrArg List.length e; rw [List.length_take, hN] at h1; have h2 : magic.length = 5 := rfl; omega)] at hR
    have HR := Lib.hid hR
    clear hR hN h5
    go_enter Try.func10, Try.ntmps10
    go_wp2_with fail
    refine bodyPost_ret (v := .tuple #[.slice none 0 0, .int .i64 0, .int .i64 4]) (by simp [results, Try.results10, go_sem]) rfl ?_
    exact HNO.out _ HR.out rfl _ (by (repeat' (first | with_reducible exact Only.refl _ _ | with_reducible refine Only.setCell ?_ (Or.inl ?_) _ | with_reducible refine Only.drewN ?_ _ | with_reducible refine Only.drew ?_ | with_reducible refine Only.alloc ?_ _ | (fail))))
  have h5i : ¬ (N : Int) < 5 := by omega
  have h5c : (5 : Int) ≤ (c : Int) := by omega
  obtain ⟨T, hT⟩ : ∃ T, l.take 5 = T := ⟨_, rfl⟩
  have htk := Bs.take HB.out 5 (by rw [HN.out]; omega)
  rw [hT] at htk hR
  have hTl : 5 = T.length := by rw [← hT, List.length_take, HN.out]; omega
  have kst := run_str (P := Try.prog) w 26 9 5 Try.underlying26 Try.underlying5 Try.underlying9 (c := c) htk hTl
  by_cases hm : T = magic
  rotate_left
  · rw [if_neg hm] at hR
    have HR := Lib.hid hR
    have hst : (T == [82, 84, 78, 82, 49]) = false := by rw [beq_eq_false_iff_ne]; exact hm
    clear hR hN h5 hm hT htk hTl
    go_enter Try.func10, Try.ntmps10
    go_wp2_with fail
    refine bodyPost_ret (v := .tuple #[.slice none 0 0, .int .i64 0, .int .i64 4]) (by simp [results, Try.results10, go_sem]) rfl ?_
    exact HNO.out _ HR.out rfl _ (by (repeat' (first | with_reducible exact Only.refl _ _ | with_reducible refine Only.setCell ?_ (Or.inl ?_) _ | with_reducible refine Only.drewN ?_ _ | with_reducible refine Only.drew ?_ | with_reducible refine Only.alloc ?_ _ | (fail))))
  obtain ⟨i0, hi0, hz0, hz1, hz2⟩ := info_parts entry_info
  rw [if_pos hm] at hR
  subst hm
  obtain ⟨W1, hW1⟩ : ∃ W1, W1 = w.alloc (.cells #[.int .u8 82, .int .u8 84, .int .u8 78, .int .u8 82, .int .u8 49] 5 (5, 6)) := ⟨_, rfl⟩
  have hO1 : Only Nil w W1 := by rw [hW1]; exact (Only.refl _ _).alloc _
  have hown1 : OwnX W1 w.heap.size (some ⟨w.heap.size, 0, none⟩) 5 magic := by
    rw [hW1]
    exact .inr ⟨_, _, rfl, rfl, Nat.le_refl _, heap_alloc_new w _, Nat.le_refl _, by decide, by decide⟩
  have hof := of_any _ 5 magic W1 hown1.bs (by decide)
  rw [show magic.length = 5 from rfl] at hof
  obtain ⟨S, hS⟩ : ∃ S, ofS magic = S := ⟨_, rfl⟩
  have hSl : S < 18446744073709551616 := by rw [← hS]; exact ofS_lt magic
  rw [hS] at hof hR
  have HOF := Lib.hid hof
  have HW1 := Lib.hid hW1
  have HO1 := Lib.hid hO1
  have HSL := Lib.hid hSl
  have HR := Lib.hid hR
  unfold magic at kst
  have kc := Lib.run_convert_bytes_const (P := Try.prog) w 26 5 #[.int .u8 82, .int .u8 84, .int .u8 78, .int .u8 82, .int .u8 49] 5 5 Try.underlying26 Try.underlying5
  have KC := Lib.hid kc
  have h5n : 5 ≤ N := by omega
  clear kc hof hW1 hO1 hown1 hS hSl hR hN h5 hT htk hTl
  go_enter Try.func10, Try.ntmps10
  go_upto_region 4 with fail
  go_wp2_with fail
  rw [KC.out]
  go_wp2_with fail
  rw [← HW1.out]
  refine HOF.out.mono ?_
  rintro e w2 ⟨rfl, hO2⟩
  have HO2 := Lib.hid (HO1.out.thenNil hO2)
  clear hO2 kst
  go_wp2_with fail
  go_loopw [5, 6, 7] (fun vo vh va wr => ∃ (Ao : Option Addr) (co : Nat) (rs : List ER) (h k f : Nat), vo = .slice Ao rs.length co ∧ vh = .int .u64 h ∧ va = .int .i64 k ∧ k ≤ N ∧ h < 18446744073709551616 ∧ N < f + k ∧ rs.length ≤ k ∧ rs.length ≤ co ∧
    rs.map ER.x ++ (readB f (l.drop k) h).1 = R.1 ∧ k + (readB f (l.drop k) h).2.1 = R.2.1 ∧ (readB f (l.drop k) h).2.2 = R.2.2 ∧ EL w.heap.size wr Ao co rs ∧ Only Nil w wr) (fun _ _ va _ => N - (intOf va).toNat)
  case atStart =>
    refine ⟨none, 0, [], S, 5, N, rfl, rfl, rfl, h5n, HSL.out, by omega, Nat.zero_le _, Nat.le_refl _, ?_, ?_, ?_, ⟨World.ownsRow_nil _ _ _ _, fun r hr => by cases hr⟩, HO2.out⟩
    · rw [← HR.out]; rfl
    · rw [← HR.out]
    · rw [← HR.out]
  case round =>
    obtain ⟨Ao, co, rs, h, k, f, rfl, rfl, rfl, hk, hh, hf, hrk, hco, hr1, hr2, hr3, hel, hO⟩ := hrel
    obtain ⟨M, hM⟩ : ∃ M, rs.length = M := ⟨_, rfl⟩
    rw [hM] at hrk hco ⊢
    have HEL := Lib.hid hel
    have HO := Lib.hid hO
    have HM := Lib.hid hM
    have HK := Lib.hid hk
    have HRK := Lib.hid hrk
    have HCO := Lib.hid hco
    obtain ⟨f, rfl⟩ : ∃ f', f = f' + 1 := ⟨f - 1, by omega⟩
    by_cases hlt : k < N
    · have hki : (k : Int) < N := by omega
      have hkc : ¬ c = k := by omega
      have hkc1 : (k : Int) ≤ (c : Int) := by omega
      have hkN1 : (k : Int) ≤ (N : Int) := by omega
      have hb1 := (HB.out.onlyNil HO.out (Nat.le_refl _)).up HO.out.size
      obtain ⟨g, off, rfl, _, _⟩ := HB.out.2 (by rw [HN.out]; omega)
      have hcut := Bs.cut (k := k) (cap := c) hb1 (by rw [HN.out]; omega) (by rw [HN.out]; omega)
      rw [if_neg hkc, show Option.map (fun x : Addr => x.add k) (some ⟨g, off, none⟩) = some ⟨g, off + k, none⟩ from congrArg some (add_at g off k)] at hcut
      have hfr := frame_any (some ⟨g, off + k, none⟩) (c - k) (l.drop k) h wr hcut (by rw [List.length_drop, HN.out]; omega) (by rw [List.length_drop, HN.out]; omega) hh
      rw [List.length_drop, HN.out] at hfr
      have hN0 : ¬ (l.drop k).length = 0 := by rw [List.length_drop, HN.out]; omega
      have hfb := frameR_bound (l.drop k) h
      rw [List.length_drop, HN.out] at hfb
      unfold readB at hr1 hr2 hr3
      rw [if_neg hN0] at hr1 hr2 hr3
      obtain ⟨⟨x, h2, n, q⟩, hF⟩ : ∃ F, frameR (l.drop k) h = F := ⟨_, rfl⟩
      rw [hF] at hfr hr1 hr2 hr3 hfb
      dsimp only at hr1 hr2 hr3 hfb
      have HFR := Lib.hid hfr
      have HRR := Lib.hid (And.intro hr1 (And.intro hr2 hr3))
      have HF := Lib.hid hf
      have HFB := Lib.hid hfb
      clear hfr hr1 hr2 hr3 hF hfb hcut hb1 hN0 hel hO hM hk hrk hco hlt hf
      go_wp2_with fail
      refine HFR.out.mono ?_
      rintro e w4 ⟨Ax, cx, rfl, hcx, hown, hO4⟩
      obtain ⟨kind, task, call, a0, a1, a2, result, data⟩ := x
      obtain ⟨w5, hw5⟩ : ∃ w5, w5 = w4.alloc (.cells #[Value.int .i64 kind, .int .i64 task, .int .i64 call, .int .i64 a0, .int .i64 a1, .int .i64 a2, .int .i64 result, .slice Ax data.length cx] 39) := ⟨_, rfl⟩
      have hO5 : Only Nil w4 w5 := by rw [hw5]; exact (Only.refl _ _).alloc _
      have hb5 : Blk w5 w4.heap.size 39 #[Value.int .i64 kind, .int .i64 task, .int .i64 call, .int .i64 a0, .int .i64 a1, .int .i64 a2, .int .i64 result, .slice Ax data.length cx] := by rw [hw5]; exact Blk.new _ _ _
      have kx5 : ∀ i, w5.cell? ⟨w4.heap.size, i, none⟩ = #[Value.int .i64 kind, .int .i64 task, .int .i64 call, .int .i64 a0, .int .i64 a1, .int .i64 a2, .int .i64 result, .slice Ax data.length cx][i]? := fun i => hb5.cell i
      have HW5 := Lib.hid hw5
      have HOW := Lib.hid (own_base (own_onlyNil hown hO5) HO.out.size)
      have HO5 := Lib.hid (HO.out.thenNil (hO4.thenNil hO5))
      have HEL5 := Lib.hid ((HEL.out.onlyNil hO4).onlyNil hO5)
      have HCX := Lib.hid hcx
      clear hw5 hO5 hb5 hown hO4 hcx
      unfold ecl ER.cells
      dsimp only
      go_upto_region 7 with fail
      rw [← HW5.out]
      by_cases hq : q = 0
      rotate_left
      · have hqb : (q != 0) = true := by simp [hq]
        have hqb2 : (q == 0) = false := by simp [hq]
        obtain ⟨e1, e2, e3⟩ := HRR.out
        rw [if_pos hq] at e1 e2 e3
        have HE := Lib.hid (And.intro e1 (And.intro e2 e3))
        clear e1 e2 e3 hq
        go_wp2_with fail
        refine bodyPost_ret (v := .tuple #[.slice Ao M co, .int .i64 k, .int .i64 q]) (by simp [results, Try.results10, go_sem]) rfl ?_
        obtain ⟨e1, e2, e3⟩ := HE.out
        rw [List.append_nil] at e1
        rw [Nat.add_zero] at e2
        refine ⟨Ao, co, rs, e1, ?_, by rw [HM.out]; exact HCO.out, ?_, ?_⟩
        · rw [HM.out, ← e2, ← e3]
        · exact HEL5.out.onlyNil (by (repeat' (first | with_reducible exact Only.refl _ _ | with_reducible refine Only.setCell ?_ (Or.inl ?_) _ | with_reducible refine Only.drewN ?_ _ | with_reducible refine Only.drew ?_ | with_reducible refine Only.alloc ?_ _ | (fail))))
        · exact HO5.out.thenNil (by (repeat' (first | with_reducible exact Only.refl _ _ | with_reducible refine Only.setCell ?_ (Or.inl ?_) _ | with_reducible refine Only.drewN ?_ _ | with_reducible refine Only.drew ?_ | with_reducible refine Only.alloc ?_ _ | (fail))))
      · subst hq
        obtain ⟨e1, e2, e3⟩ := HRR.out
        rw [if_neg (by simp)] at e1 e2 e3
        dsimp only at e1 e2 e3
        have hfb2 := HFB.out rfl
        have HE := Lib.hid (And.intro e1 (And.intro e2 e3))
        obtain ⟨w6, hw6⟩ : ∃ w6, w6 = w5.alloc (.cells #[Value.int .i64 kind, .int .i64 task, .int .i64 call, .int .i64 a0, .int .i64 a1, .int .i64 a2, .int .i64 result, .slice Ax data.length cx] 39) := ⟨_, rfl⟩
        have hO6 : Only Nil w5 w6 := by rw [hw6]; exact (Only.refl _ _).alloc _
        have hb6 : Blk w6 w5.heap.size 39 #[Value.int .i64 kind, .int .i64 task, .int .i64 call, .int .i64 a0, .int .i64 a1, .int .i64 a2, .int .i64 result, .slice Ax data.length cx] := by rw [hw6]; exact Blk.new _ _ _
        have hs6 : w5.heap.size < w6.heap.size := hb6.lt
        have hrow := (HEL5.out.onlyNil hO6).row
        have hbase : w.heap.size ≤ w6.heap.size := by have := HO5.out.size; omega
        rw [HM.out] at hrow
        subst hw6
        have HB6 := Lib.hid hb6
        have HO6 := Lib.hid hO6
        have HFB2 := Lib.hid hfb2
        have HBASE := Lib.hid hbase
        have hM1 : M ≤ 1000000 := by have := HRK.out; omega
        have hcells : rs.flatMap ER.cells ++ [Value.int .i64 kind, .int .i64 task, .int .i64 call, .int .i64 a0, .int .i64 a1, .int .i64 a2, .int .i64 result, .slice Ax data.length cx] = (rs ++ [(⟨Ax, cx, ⟨kind, task, call, a0, a1, a2, result, data⟩⟩ : ER)]).flatMap ER.cells := by simp [ER.cells]
        have HCELLS := Lib.hid hcells
        have HROW := Lib.hid hrow
        have HM1 := Lib.hid hM1
        clear e1 e2 e3 hO6 hb6 hs6 hcells hfb2 hM1 hrow hbase
        go_wp2_with (at_builtin; go_must (refine wpList_append_rd _ rfl (.tmp 43) (.tmp 45) _ rfl w.heap.size 39 i0 _ 8 80 Try.underlying22 hi0 hz0 hz1 hz2 rfl (by omega) (.slice Ao M co) M (rs.flatMap ER.cells) rfl HROW.out (w5.heap.size + 1) (some ⟨w5.heap.size, 0, none⟩) 1 1 [Value.int .i64 kind, .int .i64 task, .int .i64 call, .int .i64 a0, .int .i64 a1, .int .i64 a2, .int .i64 result, .slice Ax data.length cx] rfl (Rd.blk HB6.out rfl) (ER.cells_one ⟨Ax, cx, ⟨kind, task, call, a0, a1, a2, result, data⟩⟩) (M + 1) rfl _ HCELLS.out (by have := HM1.out; unfold maxLen; omega) (by have := HM1.out; omega) HBASE.out ?_))
        intro A7 c7 w7 hc7 hown7 hgr7 hat7
        have HR7 := Lib.hid hown7
        have HG7 := Lib.hid hgr7
        have HC7 := Lib.hid hc7
        clear hown7 hgr7 hc7 hat7
        obtain ⟨hn1, hn2, hn3, hn4⟩ := HFB2.out
        have HH2 := Lib.hid (hn3 hh)
        have HFIT := Lib.hid hn4
        clear hn3 hn4
        have hlen : M + 1 = (rs ++ [(⟨Ax, cx, ⟨kind, task, call, a0, a1, a2, result, data⟩⟩ : ER)]).length := by rw [List.length_append, HM.out]; rfl
        have HLEN := Lib.hid hlen
        clear hlen
        go_wp2_with fail
        go_roundw
        case rel =>
          obtain ⟨e1, e2, e3⟩ := HE.out
          rw [List.drop_drop] at e1 e2 e3
          have hO67 : Only (fun x => (Value.slice Ao rs.length co).ownBlock = some x) w5 w7 := by
            rw [HM.out]
            exact HO6.out.any.grown HG7.out (fun q hq => .inl hq)
          have hel7 := HEL5.out.more (r := ⟨Ax, cx, ⟨kind, task, call, a0, a1, a2, result, data⟩⟩) hO67 (by rw [← HLEN.out, ← HCELLS.out]; exact HR7.out) ⟨HFIT.out, HCX.out, HOW.out⟩
          refine ⟨A7, c7, rs ++ [⟨Ax, cx, ⟨kind, task, call, a0, a1, a2, result, data⟩⟩], h2, k + n, f, by rw [HLEN.out], rfl, by go_num, by omega, HH2.out, by have := HF.out; omega, by rw [← HLEN.out]; have := HRK.out; omega, by rw [← HLEN.out]; exact HC7.out, ?_, ?_, e3, hel7, ?_⟩
          · rw [List.map_append, List.append_assoc]
            exact e1
          · rw [← e2]; omega
          · refine (HO5.out.thenNil HO6.out).grown HG7.out (fun q hq => .inr ?_)
            exact ownBlock_ge HROW.out hq
        case measure => simp [intOf]; omega
    · have hkN : k = N := by omega
      have hki : ¬ (k : Int) < N := by omega
      subst hkN
      have hN0 : (l.drop k).length = 0 := by rw [List.length_drop, HN.out]; omega
      unfold readB at hr1 hr2 hr3
      rw [if_pos hN0] at hr1 hr2 hr3
      dsimp only at hr1 hr2 hr3
      rw [List.append_nil] at hr1
      rw [Nat.add_zero] at hr2
      have HE := Lib.hid (And.intro hr1 (And.intro hr2 hr3))
      clear hr1 hr2 hr3 hN0 hlt hel hO hM hk hrk hco hf
      go_wp2_with fail
      refine bodyPost_ret (v := .tuple #[.slice Ao M co, .int .i64 k, .int .i64 0]) (by simp [results, Try.results10, go_sem]) rfl ?_
      obtain ⟨e1, e2, e3⟩ := HE.out
      refine ⟨Ao, co, rs, e1, ?_, by rw [HM.out]; exact HCO.out, ?_, ?_⟩
      · rw [HM.out, ← e2, ← e3]
      · exact HEL.out.onlyNil (by (repeat' (first | with_reducible exact Only.refl _ _ | with_reducible refine Only.setCell ?_ (Or.inl ?_) _ | with_reducible refine Only.drewN ?_ _ | with_reducible refine Only.drew ?_ | with_reducible refine Only.alloc ?_ _ | (fail))))
      · exact HO.out.thenNil (by (repeat' (first | with_reducible exact Only.refl _ _ | with_reducible refine Only.setCell ?_ (Or.inl ?_) _ | with_reducible refine Only.drewN ?_ _ | with_reducible refine Only.drew ?_ | with_reducible refine Only.alloc ?_ _ | (fail))))

end Go.Proofs.Ytkcmdibpndkfbaa
