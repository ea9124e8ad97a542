/-
  Walks of ratoonref53.frame and Write.
  Conditions: the entries can be read.
-/
import Derived.Test.YtkcmdibpndkfbaaRcS1
import Derived.Test.YtkcmdibpndkfbaaReE
import Derived.Test.YtkcmdibpndkfbaaRpR1
import Derived.Test.YtkcmdibpndkfbaaRcT
import Derived.Test.YtkcmdibpndkfbaaRcC3
namespace Go.Proofs.Ytkcmdibpndkfbaa
open Go.RowKit

set_option maxRecDepth 100000 in
set_option maxHeartbeats 2000000 in
theorem Ref.frame_any (r : ER) (h : Nat) (w : World) (hr : ER.ok w w.heap.size r) (hd : r.x.data.length ≤ 1536) (hh : h < 18446744073709551616) :
    Calls Try.prog 25 #[.agg r.cells.toArray, .int .u64 h] w fun e w' => ∃ A c, e = .returned (.tuple #[.slice A (frB r.x h).length c, .int .u64 (fromS h (encE r.x) : Nat)]) ∧ w'.ownsRow w.heap.size 5 1 (.slice A (frB r.x h).length c) (frB r.x h).length (bcells (frB r.x h)) ∧ Only Nil w w' := by
  obtain ⟨i0, hi0, hz0, hz1, hz2⟩ := info_parts byte_info
  obtain ⟨w1, hw1⟩ : ∃ w1, w1 = w.alloc (.cells r.cells.toArray 39) := ⟨_, rfl⟩
  have hO1 : Only Nil w w1 := by rw [hw1]; exact (Only.refl _ _).alloc _
  have hk1 : Blk w1 w.heap.size 39 r.cells.toArray := by rw [hw1]; exact Blk.new _ _ _
  have hE := Ref.entry_any r w1 ((hr.onlyNil hO1 (Nat.le_refl _)).up hO1.size) (by omega)
  have hel := encE_len hr.fits (by omega : r.x.data.length ≤ 1099511627776)
  have hfr : frB r.x h = be4 (encE r.x).length ++ be4 (4294967295 - (encE r.x).length) ++ encE r.x ++ le8 (fromS h (encE r.x)) := rfl
  have hH2 := fromS_lt hh (encE r.x)
  unfold BytesPost at hE
  rw [hfr]
  obtain ⟨EB, hEB⟩ : ∃ EB, encE r.x = EB := ⟨_, rfl⟩
  rw [hEB] at hE hel hH2 ⊢
  obtain ⟨H2, hHe⟩ : ∃ H2, fromS h EB = H2 := ⟨_, rfl⟩
  rw [hHe] at hH2 ⊢
  obtain ⟨n, hn⟩ : ∃ n, EB.length = n := ⟨_, rfl⟩
  rw [hn] at hel hE ⊢
  obtain ⟨K, hK⟩ : ∃ K, 4294967295 - n = K := ⟨_, rfl⟩
  rw [hK]
  have hKi : (4294967295 : Int) - (n : Int) = (K : Int) := by omega
  have hwK : IntKind.i64.wrap (K : Int) = (K : Int) := IntWalk.i64_in _ (by omega)
  obtain ⟨r2, hr2⟩ : ∃ r2, be4 n ++ be4 K = r2 := ⟨_, rfl⟩
  obtain ⟨r3, hr3⟩ : ∃ r3, r2 ++ EB = r3 := ⟨_, rfl⟩
  obtain ⟨r4, hr4⟩ : ∃ r4, r3 ++ le8 H2 = r4 := ⟨_, rfl⟩
  have l2 : r2.length = 8 := by rw [← hr2]; rfl
  obtain ⟨N3, hN3⟩ : ∃ N3, 8 + n = N3 := ⟨_, rfl⟩
  have l3 : r3.length = N3 := by rw [← hr3, List.length_append, l2, hn, hN3]
  obtain ⟨N4, hN4⟩ : ∃ N4, N3 + 8 = N4 := ⟨_, rfl⟩
  have l4 : r4.length = N4 := by rw [← hr4, List.length_append, l3, le8_len, hN4]
  have hb2 : bcells (be4 n) ++ bcells (be4 K) = bcells r2 := by rw [← hr2, bcells_append]
  have hb3 : bcells r2 ++ bcells EB = bcells r3 := by rw [← hr3, bcells_append]
  have hb4 : bcells r3 ++ bcells (le8 H2) = bcells r4 := by rw [← hr4, bcells_append]
  rw [hr2, hr3, hr4, l4]
  have hN3b : N3 ≤ 2000 := by omega
  have hN4b : N4 ≤ 2010 := by omega
  have HE := Lib.hid hE
  have HW1 := Lib.hid hw1
  have HO1 := Lib.hid hO1
  have HNN := Lib.hid hn
  have HHE := Lib.hid hHe
  have HH := Lib.hid hh
  have HH2 := Lib.hid hH2
  have HB2 := Lib.hid hb2
  have HB3 := Lib.hid hb3
  have HB4 := Lib.hid hb4
  have HN3 := Lib.hid hN3
  have HN4 := Lib.hid hN4
  have HF1 := Lib.hid (fun u => Ref.four_any n u (by omega))
  have HF2 := Lib.hid (fun u => Ref.four_any K u (by omega))
  have kc : ∀ i, w1.cell? ⟨w.heap.size, i, none⟩ = r.cells.toArray[i]? := fun i => hk1.cell i
  have hn2 : n ≤ 1616 := by omega
  clear hE hO1 hn hHe hh hel hk1 hr hd hfr hEB hK hr2 hr3 hr4 l2 l3 l4 hb2 hb3 hb4 hN3 hN4 hH2
  obtain ⟨Ad, cd, ⟨kind, task, call, a0, a1, a2, result, data⟩⟩ := r
  unfold ER.cells at kc HE HW1 hw1 ⊢
  dsimp only at kc HE HW1 hw1 ⊢
  go_enter Try.func25, Try.ntmps25
  go_upto_region 1 with fail
  rw [← HW1.out]
  clear hw1
  go_wp2_with fail
  refine HE.out.mono ?_
  rintro e w2 ⟨A1, c1, rfl, hc1, hown1, hO2⟩
  have hFr := Ref.from_any h A1 c1 EB w2 (Bs.of_own hown1).1 HH.out (by have := HNN.out; omega)
  rw [HHE.out, HNN.out] at hFr
  have HFR := Lib.hid hFr
  have HOWN1 := Lib.hid hown1
  have HO2 := Lib.hid (HO1.out.thenNil hO2)
  have HS1 := Lib.hid HO1.out.size
  clear hown1 hc1 hO2 hFr kc
  go_wp2_with fail
  refine HFR.out.mono ?_
  rintro e w2 ⟨rfl, rfl⟩
  go_wp2_with fail
  refine (HF1.out _).mono ?_
  rintro e w3 ⟨A3, c3, rfl, hown3, hO3⟩
  have HOWN3 := Lib.hid hown3
  have HE3 := Lib.hid (own_onlyNil HOWN1.out hO3)
  have HO3 := Lib.hid hO3
  clear hown3 hO3
  go_wp2_with fail
  refine (HF2.out _).mono ?_
  rintro e w4 ⟨A4, c4, rfl, hown4, hO4⟩
  have HO34 := Lib.hid (own_onlyNil HOWN3.out hO4)
  have HE4 := Lib.hid (own_onlyNil HE3.out hO4)
  have HRD4 := Lib.hid (Rd.of_own hown4)
  have HO4 := Lib.hid (HO3.out.thenNil hO4)
  clear hown4 hO4
  go_wp2_with (at_builtin; go_must (refine wpList_append_rd _ rfl (.tmp 15) (.tmp 19) _ rfl w2.heap.size 5 i0 (.int .u8 0) 1 1 Try.underlying26 hi0 hz0 hz1 hz2 rfl (by omega) (.slice A3 4 c3) 4 (bcells (be4 n)) rfl HO34.out w4.heap.size A4 4 c4 (bcells (be4 K)) rfl HRD4.out (bcells_one _) 8 rfl (bcells r2) HB2.out (by unfold maxLen; omega) (by omega) HO4.out.size ?_))
  intro A5 c5 w5 hc5 hown5 hgr5 hat5
  have hT5 : Only (fun z => w2.heap.size ≤ z) w4 w5 := grown_only HO34.out hgr5
  have HE5 := Lib.hid (own_only HE4.out hT5 (fun q hq hx => by have h1 := own_lt HOWN1.out hq; omega))
  have HRE5 := Lib.hid (Rd.of_own HE5.out)
  have HOW5 := Lib.hid hown5
  have HO5 := Lib.hid (HO4.out.trans hT5 (fun x hx => .inr hx))
  clear hc5 hown5 hgr5 hat5 hT5
  go_wp2_with (at_builtin; go_must (refine wpList_append_rd _ rfl (.tmp 21) (.tmp 22) _ rfl w2.heap.size 5 i0 (.int .u8 0) 1 1 Try.underlying26 hi0 hz0 hz1 hz2 rfl (by omega) (.slice A5 8 c5) 8 (bcells r2) rfl HOW5.out w5.heap.size A1 n c1 (bcells EB) rfl HRE5.out (bcells_one _) N3 HN3.out (bcells r3) HB3.out (by unfold maxLen; omega) (by omega) HO5.out.size ?_))
  intro A6 c6 w6 hc6 hown6 hgr6 hat6
  have hT6 : Only (fun z => w2.heap.size ≤ z) w5 w6 := grown_only HOW5.out hgr6
  have HOW6 := Lib.hid hown6
  have HO6 := Lib.hid (HO5.out.trans hT6 (fun x hx => .inr hx))
  have HE8 := Lib.hid (Ref.eight_any H2 w6 HH2.out)
  clear hc6 hown6 hgr6 hat6 hT6
  go_wp2_with fail
  refine HE8.out.mono ?_
  rintro e w7 ⟨A7, c7, rfl, hc7, hown7, hO7⟩
  rw [le8_len] at hown7 ⊢
  have HRD7 := Lib.hid (Rd.of_own hown7)
  have HOW7 := Lib.hid (own_onlyNil HOW6.out hO7)
  have HO7 := Lib.hid (HO6.out.thenNil hO7)
  clear hown7 hO7 hc7
  go_wp2_with (at_builtin; go_must (refine wpList_append_rd _ rfl (.tmp 23) (.tmp 25) _ rfl w2.heap.size 5 i0 (.int .u8 0) 1 1 Try.underlying26 hi0 hz0 hz1 hz2 rfl (by omega) (.slice A6 N3 c6) N3 (bcells r3) rfl HOW7.out w7.heap.size A7 8 c7 (bcells (le8 H2)) rfl HRD7.out (bcells_one _) N4 HN4.out (bcells r4) HB4.out (by unfold maxLen; omega) (by omega) HO7.out.size ?_))
  intro A8 c8 w8 hc8 hown8 hgr8 hat8
  have hT8 : Only (fun z => w2.heap.size ≤ z) w7 w8 := grown_only HOW7.out hgr8
  have HOW8 := Lib.hid (own_base hown8 HO2.out.size)
  have HO8 := Lib.hid (HO7.out.trans hT8 (fun x hx => .inr hx))
  clear hc8 hown8 hgr8 hat8 hT8
  go_wp2_with fail
  refine bodyPost_ret (v := .tuple #[.slice A8 N4 c8, .int .u64 H2]) (by simp [results, Try.results25, go_sem]) rfl ?_
  exact ⟨A8, c8, rfl, HOW8.out, HO2.out.trans HO8.out (fun x hx => .inl hx)⟩

set_option maxRecDepth 100000 in
set_option maxHeartbeats 4000000 in
theorem Ref.write_any (A : Option Addr) (c : Nat) (rs : List ER) (w : World) (hE : Es w w.heap.size A rs) (hl : rs.length ≤ 500) :
    Calls Try.prog 13 #[.slice A rs.length c] w (WrPost (rs.map ER.x) w) := by
  obtain ⟨i0, hi0, hz0, hz1, hz2⟩ := info_parts byte_info
  obtain ⟨N, hN⟩ : ∃ N, rs.length = N := ⟨_, rfl⟩
  obtain ⟨W1, hW1⟩ : ∃ W1, W1 = w.alloc (.cells #[.int .u8 82, .int .u8 84, .int .u8 78, .int .u8 82, .int .u8 49] 5 (5, 6)) := ⟨_, rfl⟩
  have hO1 : Only Nil w W1 := by rw [hW1]; exact (Only.refl _ _).alloc _
  have hown1 : OwnX W1 w.heap.size (some ⟨w.heap.size, 0, none⟩) 5 magic := by
    rw [hW1]
    exact .inr ⟨_, _, rfl, rfl, Nat.le_refl _, heap_alloc_new w _, Nat.le_refl _, by decide, by decide⟩
  have hof := Ref.of_any _ 5 magic W1 hown1.bs (by decide)
  rw [show magic.length = 5 from rfl] at hof
  have HOF := Lib.hid hof
  have HW1 := Lib.hid hW1
  have HO1 := Lib.hid hO1
  have HOWN1 := Lib.hid hown1
  have HE := Lib.hid hE
  have HN := Lib.hid hN
  have HS0 := Lib.hid (ofS_lt magic)
  have kc := Lib.run_convert_bytes_const (P := Try.prog) w 26 5 #[.int .u8 82, .int .u8 84, .int .u8 78, .int .u8 82, .int .u8 49] 5 5 Try.underlying26 Try.underlying5
  have KC := Lib.hid kc
  rw [hN]
  have hl5 : N ≤ 500 := by omega
  clear kc hof hW1 hO1 hown1 hE hN hl
  go_enter Try.func13, Try.ntmps13
  go_upto_region 1 with fail
  go_wp2_with fail
  rw [KC.out]
  go_wp2_with fail
  rw [← HW1.out]
  refine HOF.out.mono ?_
  rintro e w2 ⟨rfl, hO2⟩
  have HO2 := Lib.hid (HO1.out.thenNil hO2)
  have HOWN2 := Lib.hid (HOWN1.out.onlyNil hO2)
  clear hO2
  go_wp2_with fail
  go_loopw [4, 5, 6, 7] (fun vo vh vi _ wr => ∃ (k : Nat) (Ak : Option Addr) (ck M H : Nat), k ≤ N ∧ vi = .int .i64 k ∧ ((rs.take k).map ER.x).all vE = true ∧ vo = .slice Ak M ck ∧ vh = .int .u64 H ∧ (magic ++ bodyB (ofS magic) ((rs.take k).map ER.x)).length = M ∧ sumL (ofS magic) ((rs.take k).map ER.x) = H ∧
      OwnX wr w.heap.size Ak ck (magic ++ bodyB (ofS magic) ((rs.take k).map ER.x)) ∧ Only Nil w wr) (fun _ _ vi _ _ => N - (intOf vi).toNat)
  case atStart => exact ⟨0, some ⟨w.heap.size, 0, none⟩, 5, 5, ofS magic, Nat.zero_le _, rfl, rfl, rfl, rfl, rfl, rfl, by rw [List.take_zero]; show OwnX _ _ _ _ (magic ++ []); rw [List.append_nil]; exact HOWN2.out, HO2.out⟩
  case round =>
    obtain ⟨k, Ak, ck, M, H, hk, rfl, hall, rfl, rfl, hM, hH, hownk, hO⟩ := hrel
    have HALL := Lib.hid hall
    have HM := Lib.hid hM
    have HHH := Lib.hid hH
    have HOWK := Lib.hid hownk
    have HO := Lib.hid hO
    clear hall hM hH hownk hO
    by_cases hlt : k < N
    · obtain ⟨r, hr⟩ : ∃ r, rs[k]? = some r := ⟨rs[k]'(by rw [HN.out]; exact hlt), List.getElem?_eq_getElem _⟩
      obtain ⟨hkl, hge⟩ := List.getElem?_eq_some_iff.1 hr
      have htk : (rs.take (k + 1)).map ER.x = (rs.take k).map ER.x ++ [r.x] := by
        rw [List.take_succ_eq_append_getElem hkl, hge, List.map_append]
        rfl
      have hok : ER.ok wr wr.heap.size r := ((HE.out.next HO.out).ok r (List.mem_of_getElem? hr))
      obtain ⟨b, off, rfl, _, hc⟩ := (HE.out.next HO.out).at_ hr
      have hki : (k : Int) < N := by omega
      obtain ⟨x, hx⟩ : ∃ x, r.x = x := ⟨_, rfl⟩
      obtain ⟨V, hV⟩ : ∃ V, vE x = V := ⟨_, rfl⟩
      have hmx : (rs.map ER.x)[k]? = some x := by rw [List.getElem?_map, hr, ← hx]; rfl
      have hva := Ref.valid_any r wr
      rw [hx, hV] at hva
      have hrc : ∀ u, Only Nil wr u → ∀ j v, r.cells[j]? = some v → u.cell? ⟨b, off + (k * 8 + j), none⟩ = some v := fun u hO j v hj => (hO.cell (lt_of_cell (hc j v hj)) (fun h => h)).trans (hc j v hj)
      have HRC := Lib.hid hrc
      have HVA := Lib.hid hva
      have HV := Lib.hid hV
      rw [hx] at htk
      have HTK := Lib.hid htk
      have HOKR := Lib.hid hok
      have HMX := Lib.hid hmx
      have HX := Lib.hid hx
      have e := hrc wr (Only.refl _ _)
      have HFRA := Lib.hid (fun u (hu : Only Nil wr u) (hd : x.data.length ≤ 1536) (hh : H < 18446744073709551616) => by
        have := Ref.frame_any r H u ((hok.onlyNil hu (Nat.le_refl _)).up hu.size) (by rw [hx]; exact hd) hh
        rwa [hx] at this)
      clear hr hkl hge htk hok hmx hva hV hc hrc
      obtain ⟨Ad, cd, ⟨kind, task, call, a0, a1, a2, result, data⟩⟩ := r
      unfold ER.cells at HVA HRC HFRA e
      dsimp only at HVA HRC HFRA e
      have e0 : wr.cell? ⟨b, off + k * 8, none⟩ = some (.int .i64 kind) := e 0 _ rfl
      have e1 : wr.cell? ⟨b, off + k * 8 + 1, none⟩ = some (.int .i64 task) := e 1 _ rfl
      have e2 : wr.cell? ⟨b, off + k * 8 + 2, none⟩ = some (.int .i64 call) := e 2 _ rfl
      have e3 : wr.cell? ⟨b, off + k * 8 + 3, none⟩ = some (.int .i64 a0) := e 3 _ rfl
      have e4 : wr.cell? ⟨b, off + k * 8 + 4, none⟩ = some (.int .i64 a1) := e 4 _ rfl
      have e5 : wr.cell? ⟨b, off + k * 8 + 5, none⟩ = some (.int .i64 a2) := e 5 _ rfl
      have e6 : wr.cell? ⟨b, off + k * 8 + 6, none⟩ = some (.int .i64 result) := e 6 _ rfl
      have e7 : wr.cell? ⟨b, off + k * 8 + 7, none⟩ = some (.slice Ad data.length cd) := e 7 _ rfl
      clear e
      go_wp2_with fail
      refine HVA.out.mono ?_
      rintro e w6 ⟨rfl, hO6⟩
      have HO6 := Lib.hid hO6
      clear hO6 e0 e1 e2 e3 e4 e5 e6 e7
      cases V
      · go_wp2_with fail
        refine bodyPost_ret (v := .tuple #[.slice none 0 0, .int .i64 1]) (by simp [results, Try.results13, go_sem]) rfl ?_
        exact ⟨HO.out.thenNil HO6.out, .inr ⟨all_take HMX.out HV.out, rfl⟩⟩
      · have hall2 : ((rs.take (k + 1)).map ER.x).all vE = true := by
          rw [HTK.out, List.all_append, HALL.out]
          simp [HV.out]
        have hlen : M ≤ 1000000 := by
          have h1 := bodyB_len (h := ofS magic) (l := (rs.take k).map ER.x) (fun y hy => by
            obtain ⟨q, hq, rfl⟩ := List.mem_map.1 hy
            exact ⟨(HE.out.ok q (List.mem_of_mem_take hq)).fits, vE_data (List.all_eq_true.1 HALL.out _ hy)⟩)
          rw [← HM.out, List.length_append]
          rw [List.length_map, List.length_take] at h1
          have e5 : magic.length = 5 := rfl
          omega
        have hdx : x.data.length ≤ 1536 := vE_data HV.out
        have hHl : H < 18446744073709551616 := by rw [← HHH.out]; exact sumL_lt HS0.out _
        have e := HRC.out w6 HO6.out
        have e0 : w6.cell? ⟨b, off + k * 8, none⟩ = some (.int .i64 kind) := e 0 _ rfl
        have e1 : w6.cell? ⟨b, off + k * 8 + 1, none⟩ = some (.int .i64 task) := e 1 _ rfl
        have e2 : w6.cell? ⟨b, off + k * 8 + 2, none⟩ = some (.int .i64 call) := e 2 _ rfl
        have e3 : w6.cell? ⟨b, off + k * 8 + 3, none⟩ = some (.int .i64 a0) := e 3 _ rfl
        have e4 : w6.cell? ⟨b, off + k * 8 + 4, none⟩ = some (.int .i64 a1) := e 4 _ rfl
        have e5 : w6.cell? ⟨b, off + k * 8 + 5, none⟩ = some (.int .i64 a2) := e 5 _ rfl
        have e6 : w6.cell? ⟨b, off + k * 8 + 6, none⟩ = some (.int .i64 result) := e 6 _ rfl
        have e7 : w6.cell? ⟨b, off + k * 8 + 7, none⟩ = some (.slice Ad data.length cd) := e 7 _ rfl
        have HFR2 := Lib.hid (HFRA.out w6 HO6.out hdx hHl)
        have hfl := frB_length x H
        have hfl2 : (frB x H).length ≤ 1632 := frB_len (by have h1 : (⟨kind, task, call, a0, a1, a2, result, data⟩ : En) = x := HX.out; have h2 : (⟨kind, task, call, a0, a1, a2, result, data⟩ : En).fits := HOKR.out.fits; rw [h1] at h2; exact h2) hdx
        have HALL2 := Lib.hid hall2
        clear hall2 hdx hHl e
        go_wp2_with fail
        refine HFR2.out.mono ?_
        rintro e w7 ⟨A7, c7, rfl, hown7, hO7⟩
        obtain ⟨F, hF⟩ : ∃ F, frB x H = F := ⟨_, rfl⟩
        rw [hF] at hown7 hfl2 hfl ⊢
        obtain ⟨L, hL⟩ : ∃ L, F.length = L := ⟨_, rfl⟩
        rw [hL] at hown7 hfl2 hfl ⊢
        obtain ⟨M2, hM2⟩ : ∃ M2, M + L = M2 := ⟨_, rfl⟩
        have hLp : 0 < L := by omega
        obtain ⟨cur, hcur⟩ : ∃ cur, magic ++ bodyB (ofS magic) ((rs.take k).map ER.x) = cur := ⟨_, rfl⟩
        obtain ⟨nx, hnx⟩ : ∃ nx, magic ++ bodyB (ofS magic) ((rs.take (k + 1)).map ER.x) = nx := ⟨_, rfl⟩
        have htk := HTK.out
        have hcn : cur ++ F = nx := by
          rw [← hcur, ← hnx, htk, bodyB_snoc, HHH.out, hF, List.append_assoc]
        have hmm := HM.out
        have hok8 := (HOWK.out.onlyNil HO6.out).onlyNil hO7
        rw [hcur] at hmm hok8
        have hbc : bcells cur ++ bcells F = bcells nx := by rw [← hcn, bcells_append]
        have hlx : nx.length = M2 := by rw [← hcn, List.length_append, hmm, hL, hM2]
        have hsm : sumL (ofS magic) ((rs.take (k + 1)).map ER.x) = fromS H (encE x) := by rw [htk, sumL_snoc, HHH.out]
        obtain ⟨H3, hH3⟩ : ∃ H3, fromS H (encE x) = H3 := ⟨_, rfl⟩
        rw [hH3] at hsm ⊢
        have HOK8 := Lib.hid hok8
        have HMM := Lib.hid hmm
        have HBC := Lib.hid hbc
        have HLX := Lib.hid hlx
        have HSM := Lib.hid hsm
        have HM2 := Lib.hid hM2
        have HNX := Lib.hid hnx
        have HRD7 := Lib.hid (Rd.of_own hown7)
        have HO7 := Lib.hid ((HO.out.thenNil HO6.out).thenNil hO7)
        have hM2b : M2 ≤ 1001632 := by omega
        clear hown7 hO7 hF hL hM2 hcur hnx htk hcn hmm hok8 hbc hlx hsm hH3 hfl e0 e1 e2 e3 e4 e5 e6 e7
        go_wp2_with (at_builtin; go_must (refine wpList_append_x rfl (.tmp 33) (.tmp 34) _ rfl i0 Try.underlying26 hi0 hz0 hz1 hz2 M HMM.out rfl HOK8.out w7.heap.size A7 L c7 (bcells F) rfl HRD7.out (bcells_one _) hLp M2 HM2.out (bcells nx) HBC.out (by omega) HO7.out.size ?_))
        intro A8 c8 w8 hc8 hown8 hgr8 hat8
        have hox : OwnX w8 w.heap.size A8 c8 nx := .inl (by rw [HLX.out]; exact hown8)
        have hO8 : Only Nil w w8 := HO7.out.grown hgr8 (fun q hq => .inr (HOK8.out.ge (by rw [HMM.out]; exact hq)))
        have HOX := Lib.hid hox
        have HO8 := Lib.hid hO8
        clear hc8 hown8 hgr8 hat8 hox hO8
        go_wp2_with fail
        go_roundw
        case rel => exact ⟨k + 1, A8, c8, M2, H3, by omega, by go_num, HALL2.out, rfl, rfl, by rw [HNX.out]; exact HLX.out, HSM.out, by rw [HNX.out]; exact HOX.out, HO8.out⟩
        case measure => simp [intOf]; omega
    · have hkN : k = N := by omega
      have hki : ¬ (k : Int) < N := by omega
      have htk : rs.take k = rs := List.take_of_length_le (by rw [HN.out]; omega)
      have hall := HALL.out
      have hM := HM.out
      have hown := HOWK.out
      rw [htk] at hall hM hown
      have HA2 := Lib.hid hall
      have HM2 := Lib.hid hM
      have HO2 := Lib.hid hown
      clear hall hM hown htk hkN hlt
      go_wp2_with fail
      refine bodyPost_ret (v := .tuple #[.slice Ak M ck, .int .i64 0]) (by simp [results, Try.results13, go_sem]) rfl ?_
      exact ⟨HO.out, .inl ⟨HA2.out, Ak, ck, by unfold recB; rw [HM2.out], HO2.out⟩⟩

end Go.Proofs.Ytkcmdibpndkfbaa
