/-
  The walk of record.Write.
  Conditions: the entries can be read; there are at most 500.
-/
import Derived.Test.YtkcmdibpndkfbaaRcC2
import Derived.Test.YtkcmdibpndkfbaaEnP
namespace Go.Proofs.Ytkcmdibpndkfbaa
open Go.RowKit

/-- What record.Write answers. -/
def WrPost (l : List En) (w : World) (e : Ending) (w' : World) : Prop :=
  Only Nil w w' ∧ ((l.all vE = true ∧ ∃ A c, e = .returned (.tuple #[.slice A (recB l).length c, .int .i64 0]) ∧ OwnX w' w.heap.size A c (recB l)) ∨
    (l.all vE = false ∧ e = .returned (.tuple #[.slice none 0 0, .int .i64 1])))

theorem CH.onlyNil {base p : Nat} {A : Option Addr} {c : Nat} {out : List UInt8} {h : Nat} {w w' : World} (hc : CH base p A c out h w) (hO : Only Nil w w') : CH base p A c out h w' :=
  ⟨hc.1, hc.2.1.onlyNil hO, hc.2.2.1, hc.2.2.2.onlyNil hO⟩
theorem all_take {l : List En} {k : Nat} {x : En} (h : l[k]? = some x) (hv : vE x = false) : l.all vE = false := by
  rw [Bool.eq_false_iff]
  intro ha
  rw [List.all_eq_true] at ha
  rw [ha x (List.mem_of_getElem? h)] at hv
  cases hv

set_option maxRecDepth 100000 in
set_option maxHeartbeats 4000000 in
theorem write_any (A : Option Addr) (c : Nat) (rs : List ER) (w : World) (hE : Es w w.heap.size A rs) (hl : rs.length ≤ 500) :
    Calls Try.prog 9 #[.slice A rs.length c] w (WrPost (rs.map ER.x) w) := by
  obtain ⟨N, hN⟩ : ∃ N, rs.length = N := ⟨_, rfl⟩
  have HB := Lib.hid (begin_any w)
  have HE := Lib.hid hE
  have HN := Lib.hid hN
  have HL := Lib.hid (show N ≤ 500 by omega)
  have HS0 := Lib.hid (ofS_lt magic)
  rw [hN]
  clear hE hN hl
  go_enter Try.func9, Try.ntmps9
  go_wp2_with fail
  refine HB.out.mono ?_
  rintro e w1 ⟨p, A1, c1, rfl, hch, hO1⟩
  have HCH := Lib.hid hch
  have HO1 := Lib.hid hO1
  clear hch hO1
  go_wp2_with fail
  go_loopw [13] (fun i wr => ∃ (k : Nat) (Ak : Option Addr) (ck : Nat), k ≤ N ∧ i = .int .i64 k ∧ ((rs.take k).map ER.x).all vE = true ∧ CH w.heap.size p Ak ck (magic ++ bodyB (ofS magic) ((rs.take k).map ER.x)) (sumL (ofS magic) ((rs.take k).map ER.x)) wr ∧ Only Nil w wr) (fun i _ => N - (intOf i).toNat)
  case atStart => exact ⟨0, A1, c1, Nat.zero_le _, rfl, rfl, by rw [List.take_zero]; show CH _ _ _ _ (magic ++ []) _ _; rw [List.append_nil]; exact HCH.out, HO1.out⟩
  case round =>
    obtain ⟨k, Ak, ck, hk, rfl, hall, hchk, hO⟩ := hrel
    have HALL := Lib.hid hall
    have HCK := Lib.hid hchk
    have HO := Lib.hid hO
    clear hall hchk hO
    by_cases hlt : k < N
    · obtain ⟨r, hr⟩ : ∃ r, rs[k]? = some r := ⟨rs[k]'(by rw [HN.out]; exact hlt), List.getElem?_eq_getElem _⟩
      obtain ⟨hkl, hge⟩ := List.getElem?_eq_some_iff.1 hr
      have htk : (rs.take (k + 1)).map ER.x = (rs.take k).map ER.x ++ [r.x] := by
        rw [List.take_succ_eq_append_getElem hkl, hge, List.map_append]
        rfl
      have hok : ER.ok wr w.heap.size r := (HE.out.ok r (List.mem_of_getElem? hr)).onlyNil HO.out (Nat.le_refl _)
      obtain ⟨b, off, rfl, _, hc⟩ := (HE.out.next HO.out).at_ hr
      have hki : (k : Int) < N := by omega
      have HTK := Lib.hid htk
      have HOKR := Lib.hid hok
      obtain ⟨Ad, cd, ⟨kind, task, call, a0, a1, a2, result, data⟩⟩ := r
      unfold ER.cells at hc
      dsimp only at hc
      have e0 : wr.cell? ⟨b, off + k * 8, none⟩ = some (.int .i64 kind) := by have := hc 0 _ rfl; rwa [Nat.add_zero] at this
      have e1 : wr.cell? ⟨b, off + k * 8 + 1, none⟩ = some (.int .i64 task) := by have := hc 1 _ rfl; rwa [← Nat.add_assoc] at this
      have e2 : wr.cell? ⟨b, off + k * 8 + 2, none⟩ = some (.int .i64 call) := by have := hc 2 _ rfl; rwa [← Nat.add_assoc] at this
      have e3 : wr.cell? ⟨b, off + k * 8 + 3, none⟩ = some (.int .i64 a0) := by have := hc 3 _ rfl; rwa [← Nat.add_assoc] at this
      have e4 : wr.cell? ⟨b, off + k * 8 + 4, none⟩ = some (.int .i64 a1) := by have := hc 4 _ rfl; rwa [← Nat.add_assoc] at this
      have e5 : wr.cell? ⟨b, off + k * 8 + 5, none⟩ = some (.int .i64 a2) := by have := hc 5 _ rfl; rwa [← Nat.add_assoc] at this
      have e6 : wr.cell? ⟨b, off + k * 8 + 6, none⟩ = some (.int .i64 result) := by have := hc 6 _ rfl; rwa [← Nat.add_assoc] at this
      have e7 : wr.cell? ⟨b, off + k * 8 + 7, none⟩ = some (.slice Ad data.length cd) := by have := hc 7 _ rfl; rwa [← Nat.add_assoc] at this
      obtain ⟨x, hx⟩ : ∃ x, (⟨kind, task, call, a0, a1, a2, result, data⟩ : En) = x := ⟨_, rfl⟩
      have hmx : (rs.map ER.x)[k]? = some x := by rw [List.getElem?_map, hr, ← hx]; rfl
      have HMX := Lib.hid hmx
      obtain ⟨w5, hw5⟩ : ∃ w5, w5 = wr.alloc (.cells #[.int .i64 kind, .int .i64 task, .int .i64 call, .int .i64 a0, .int .i64 a1, .int .i64 a2, .int .i64 result, .slice Ad data.length cd] 39) := ⟨_, rfl⟩
      have hO5 : Only Nil wr w5 := by rw [hw5]; exact (Only.refl _ _).alloc _
      have hb5 : Blk w5 wr.heap.size 39 #[.int .i64 kind, .int .i64 task, .int .i64 call, .int .i64 a0, .int .i64 a1, .int .i64 a2, .int .i64 result, .slice Ad data.length cd] := by rw [hw5]; exact Blk.new _ _ _
      have hva := valid_any ⟨Ad, cd, ⟨kind, task, call, a0, a1, a2, result, data⟩⟩ w5
      unfold ER.cells at hva
      dsimp only at hva
      obtain ⟨V, hV⟩ : ∃ V, vE x = V := ⟨_, rfl⟩
      rw [hx, hV] at hva
      have HVA := Lib.hid hva
      have HV := Lib.hid hV
      have HW5 := Lib.hid hw5
      have HO5 := Lib.hid hO5
      have HB5 := Lib.hid hb5
      have HX := Lib.hid hx
      clear hc hr hkl hge htk hok hmx hO5 hb5 hva hV hw5 hx
      go_wp2_with fail
      rw [← HW5.out]
      refine HVA.out.mono ?_
      rintro e w6 ⟨rfl, hO6⟩
      have HO6 := Lib.hid hO6
      clear hO6
      cases V
      · go_wp2_with fail
        refine bodyPost_ret (v := .tuple #[.slice none 0 0, .int .i64 1]) (by simp [results, Try.results9, go_sem]) rfl ?_
        exact ⟨((HO.out.thenNil HO5.out).thenNil HO6.out), .inr ⟨all_take HMX.out HV.out, rfl⟩⟩
      · have hall2 : ((rs.take (k + 1)).map ER.x).all vE = true := by
          rw [HTK.out, List.all_append, HALL.out]
          simp [HX.out, HV.out]
        have hlen : (magic ++ bodyB (ofS magic) ((rs.take k).map ER.x)).length ≤ 1000000 := by
          have h1 := bodyB_len (h := ofS magic) (l := (rs.take k).map ER.x) (fun y hy => by
            obtain ⟨q, hq, rfl⟩ := List.mem_map.1 hy
            exact ⟨(HE.out.ok q (List.mem_of_mem_take hq)).fits, vE_data (List.all_eq_true.1 HALL.out _ hy)⟩)
          have h2 := HL.out
          rw [List.length_append]
          rw [List.length_map, List.length_take] at h1
          have e5 : magic.length = 5 := rfl
          omega
        have hdx : data.length ≤ 1536 := by
          have := vE_data HV.out
          rw [← HX.out] at this
          exact this
        have hadd := add_any w.heap.size p Ak ck _ _ ⟨Ad, cd, ⟨kind, task, call, a0, a1, a2, result, data⟩⟩ w6 (by have := HO.out.size; have := HO5.out.size; have := HO6.out.size; omega) ((HCK.out.onlyNil HO5.out).onlyNil HO6.out) ((HOKR.out.onlyNil HO5.out (by have := HO.out.size; omega)).onlyNil HO6.out (by have := HO.out.size; have := HO5.out.size; omega)) hdx hlen (sumL_lt HS0.out _)
        unfold ER.cells at hadd
        dsimp only at hadd
        rw [HX.out] at hadd
        have hb6 := HB5.out.onlyNil HO6.out
        have k6 : ∀ i, w6.cell? ⟨wr.heap.size, i, none⟩ = #[Value.int .i64 kind, .int .i64 task, .int .i64 call, .int .i64 a0, .int .i64 a1, .int .i64 a2, .int .i64 result, .slice Ad data.length cd][i]? := fun i => hb6.cell i
        have HADD := Lib.hid hadd
        have HALL2 := Lib.hid hall2
        clear hadd hb6 hall2 hlen hdx e0 e1 e2 e3 e4 e5 e6 e7
        go_wp2_with fail
        refine HADD.out.mono ?_
        rintro e w7 ⟨rfl, ⟨A7, c7, hch7⟩, hO7⟩
        have HC7 := Lib.hid hch7
        have HO7 := Lib.hid hO7
        clear hch7 hO7 k6
        have hN5 := HL.out
        go_wp2_with fail
        go_roundw
        case rel =>
          refine ⟨k + 1, A7, c7, by omega, by go_num, HALL2.out, ?_, ((HO.out.thenNil HO5.out).thenNil HO6.out).trans HO7.out (fun x hx => .inr hx)⟩
          rw [HTK.out, HX.out, bodyB_snoc, sumL_snoc, ← List.append_assoc]
          exact HC7.out
        case measure => simp [intOf]; omega
    · have hkN : k = N := by omega
      have hki : ¬ (k : Int) < N := by omega
      have htk : rs.take k = rs := List.take_of_length_le (by rw [HN.out]; omega)
      have HALLN := HALL.out
      have hchN := HCK.out
      rw [htk] at HALLN hchN
      have hbN := hchN.2.1
      have kp : ∀ i, wr.cell? ⟨p, i, none⟩ = #[Value.slice Ak (magic ++ bodyB (ofS magic) (rs.map ER.x)).length ck, .int .u64 (sumL (ofS magic) (rs.map ER.x) : Nat)][i]? := fun i => hbN.cell i
      obtain ⟨M, hM⟩ : ∃ M, (magic ++ bodyB (ofS magic) (rs.map ER.x)).length = M := ⟨_, rfl⟩
      obtain ⟨S, hS⟩ : ∃ S, sumL (ofS magic) (rs.map ER.x) = S := ⟨_, rfl⟩
      rw [hM, hS] at kp
      have HM := Lib.hid hM
      have HFA := Lib.hid HALLN
      have HFO := Lib.hid hchN.2.2.2
      clear HALLN hchN hbN hM hS htk hkN hlt
      go_wp2_with fail
      refine bodyPost_ret (v := .tuple #[.slice Ak M ck, .int .i64 0]) (by simp [results, Try.results9, go_sem]) rfl ?_
      exact ⟨HO.out, .inl ⟨HFA.out, Ak, ck, by unfold recB; rw [HM.out], HFO.out⟩⟩

end Go.Proofs.Ytkcmdibpndkfbaa
