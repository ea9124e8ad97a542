/-
  Walks of ratoonref54: next (any entry), Check, Alive.
  Conditions: the entries can be read.
-/
import Derived.Test.YtdejceojhkdjnaaRpR3
import Derived.Test.YtdejceojhkdjnaaRpR4
import Derived.Test.YtdejceojhkdjnaaRpR5
import Derived.Test.YtdejceojhkdjnaaRpW6
namespace Go.Proofs.Ytdejceojhkdjnaa
open Go.RowKit

set_option maxRecDepth 100000 in
theorem Ref.next_any {g cs : Nat} {s : List PS} (r : ER) (w : World) (h : SR w g s) (hcs : CallsOk s) : Calls Try.prog 26 #[.slice (some ⟨g, 0, none⟩) 32 cs, .agg r.cells.toArray] w (NextPost s r.x w) := by
  obtain ⟨A, c, x⟩ := r
  cases hv : vE x
  · have hva := Ref.valid_any ⟨A, c, x⟩
    rw [hv] at hva
    have hE : entE s x = 1 := by unfold entE; rw [hv]; rfl
    unfold NextPost
    rw [hE]
    have HVA := Lib.hid hva
    clear hva h hE hv hcs
    obtain ⟨kind, task, call, a0, a1, a2, result, data⟩ := x
    unfold ER.cells at HVA ⊢
    dsimp only at HVA ⊢
    go_enter Try.func26, Try.ntmps26
    go_wp2_with fail
    refine (HVA.out _).mono ?_
    rintro x w1 ⟨rfl, hO1⟩
    go_wp2_with fail
    go_ret2
    exact ⟨_, rfl, (fun h0 => by cases h0), ((Only.refl _ _).alloc _).thenNil hO1⟩
  · obtain ⟨t1, t2⟩ := vE_task hv
    have hkind := vE_kinds hv
    have h3 := fun hk => vE_kind3 hv hk
    obtain ⟨kind, task, call, a0, a1, a2, result, data⟩ := x
    dsimp only at t1 t2 hkind h3
    obtain ⟨k, hk⟩ : ∃ k : Nat, task = k := Int.eq_ofNat_of_zero_le t1
    subst hk
    have hk : k < 32 := by omega
    obtain ⟨t, ht⟩ : ∃ t, s[k]? = some t := ⟨_, List.getElem?_eq_getElem (by rw [h.len]; exact hk)⟩
    rcases hkind with rfl | rfl | rfl | rfl | rfl | rfl | rfl
    · exact next_k1 A c k call a0 a1 a2 result data w hv h hcs ht hk
    · exact next_k2 A c k call a0 a1 a2 result data w hv h hcs ht hk
    · have h4 := h3 rfl
      obtain ⟨rn, hr⟩ : ∃ rn : Nat, result = rn := Int.eq_ofNat_of_zero_le (by omega)
      subst hr
      obtain ⟨u, hu⟩ : ∃ u, s[rn]? = some u := ⟨_, List.getElem?_eq_getElem (by rw [h.len]; omega)⟩
      exact next_k3 A c k call a0 a1 a2 rn data w hv h hcs ht hk hu (by omega)
    · exact next_k4 A c k call a0 a1 a2 result data w hv h hcs ht hk
    · exact next_k5 A c k call a0 a1 a2 result data w hv h hcs ht hk
    · exact next_k6 A c k call a0 a1 a2 result data w hv h hcs ht hk
    · exact next_k7 A c k call a0 a1 a2 result data w hv h hcs ht hk

set_option maxRecDepth 100000 in
set_option maxHeartbeats 2000000 in
theorem Ref.check_any (A : Option Addr) (c : Nat) (rs : List ER) (w : World) (h : Es w w.heap.size A rs) (hl : rs.length ≤ 1099511627776) :
    Calls Try.prog 11 #[.slice A rs.length c] w (CheckPost (rs.map ER.x) w) := by
  obtain ⟨N, hN⟩ : ∃ N, rs.length = N := ⟨_, rfl⟩
  rw [hN] at hl ⊢
  have HN := Lib.hid hN
  have HE := Lib.hid h
  clear hN h
  go_enter Try.func11, Try.ntmps11
  go_wp2_with fail
  refine (Ref.first_any _).mono ?_
  rintro x w1 ⟨g, rfl, hg, hS, hO⟩
  have HG := Lib.hid hg
  have HS := Lib.hid hS
  have HO := Lib.hid hO
  clear hg hS hO
  go_wp2_with fail
  go_loopw [5, 4] (fun i v wr => ∃ (k g c' : Nat) (s : List PS), k ≤ N ∧ i = .int .i64 k ∧ v = .slice (some ⟨g, 0, none⟩) 32 c' ∧ SR wr g s ∧ CallsOk s ∧ Only Nil w wr ∧ (runP initS (rs.map ER.x)).1 = k + (runP s ((rs.map ER.x).drop k)).1 ∧ (runP initS (rs.map ER.x)).2 = (runP s ((rs.map ER.x).drop k)).2) (fun i _ _ => N - (intOf i).toNat)
  case atStart => exact ⟨0, g, 32, initS, Nat.zero_le _, rfl, rfl, HS.out, CallsOk.init, HO.out, by simp, by simp⟩
  case round =>
    obtain ⟨k, g, c', s, hk, rfl, rfl, hS, hC, hO, hr1, hr2⟩ := hrel
    have HS2 := Lib.hid hS
    have HC2 := Lib.hid hC
    have HO2 := Lib.hid hO
    have HR1 := Lib.hid hr1
    have HR2 := Lib.hid hr2
    clear hS hC hO hr1 hr2
    by_cases hlt : k < N
    · obtain ⟨r, hr⟩ : ∃ r, rs[k]? = some r := ⟨rs[k]'(by rw [HN.out]; exact hlt), List.getElem?_eq_getElem _⟩
      obtain ⟨b, off, rfl, hb, hc⟩ := (HE.out.next HO2.out).at_ hr
      have HD := Lib.hid (drop_map_succ hr)
      have HEN := Lib.hid (fun (W : World) (h : SR W g s) => Ref.next_any (cs := c') r W h HC2.out)
      have hcs : ∀ j u, r.cells[j]? = some u → wr.cell? ⟨b, off + (k * 8 + j), none⟩ = some u := hc
      clear hr hc hb
      obtain ⟨Ax, cx, kind, task, call, a0, a1, a2, result, data⟩ := r
      have c0 : wr.cell? ⟨b, off + k * 8, none⟩ = some (.int .i64 kind) := hcs 0 _ rfl
      have c1 : wr.cell? ⟨b, off + k * 8 + 1, none⟩ = some (.int .i64 task) := hcs 1 _ rfl
      have c2 : wr.cell? ⟨b, off + k * 8 + 2, none⟩ = some (.int .i64 call) := hcs 2 _ rfl
      have c3 : wr.cell? ⟨b, off + k * 8 + 3, none⟩ = some (.int .i64 a0) := hcs 3 _ rfl
      have c4 : wr.cell? ⟨b, off + k * 8 + 4, none⟩ = some (.int .i64 a1) := hcs 4 _ rfl
      have c5 : wr.cell? ⟨b, off + k * 8 + 5, none⟩ = some (.int .i64 a2) := hcs 5 _ rfl
      have c6 : wr.cell? ⟨b, off + k * 8 + 6, none⟩ = some (.int .i64 result) := hcs 6 _ rfl
      have c7 : wr.cell? ⟨b, off + k * 8 + 7, none⟩ = some (.slice Ax data.length cx) := hcs 7 _ rfl
      clear hcs
      unfold ER.cells at HEN
      dsimp only at HEN HD
      go_wp2_with fail
      refine (HEN.out _ HS2.out).mono ?_
      rintro x w2 ⟨v, rfl, hst, hO3⟩
      obtain ⟨e1, he1⟩ : ∃ e1, entE s ⟨kind, task, call, a0, a1, a2, result, data⟩ = e1 := ⟨_, rfl⟩
      rw [he1] at hst ⊢
      have HE1 := Lib.hid he1
      have HO4 := Lib.hid (HO2.out.thenNil hO3)
      have HST := Lib.hid hst
      clear hO3 hst he1 c0 c1 c2 c3 c4 c5 c6 c7
      by_cases h0 : e1 = 0
      · subst h0
        obtain ⟨g2, cc, rfl, _, hS2⟩ := HST.out rfl
        have HSN := Lib.hid hS2
        have HRUN := Lib.hid (show runP s ((rs.map ER.x).drop k) = ((runP (entS s ⟨kind, task, call, a0, a1, a2, result, data⟩) ((rs.map ER.x).drop (k + 1))).1 + 1, (runP (entS s ⟨kind, task, call, a0, a1, a2, result, data⟩) ((rs.map ER.x).drop (k + 1))).2) by
          rw [HD.out, runP, if_pos HE1.out])
        clear hS2
        go_wp2_with fail
        go_roundw
        case rel => exact ⟨k + 1, g2, cc, _, by omega, by go_num, rfl, HSN.out, HC2.out.step _, HO4.out, by rw [HR1.out, HRUN.out]; dsimp only; omega, by rw [HR2.out, HRUN.out]⟩
        case measure => simp [intOf]; omega
      · have hb1 : (e1 == 0) = false := beq_false_of_ne h0
        have hb2 : (e1 != 0) = true := by simp [h0]
        have HRUN := Lib.hid (show runP s ((rs.map ER.x).drop k) = (0, e1, s) by rw [HD.out, runP, HE1.out, if_neg h0])
        have H0 := Lib.hid h0
        clear h0
        go_wp2_with fail
        go_ret2
        exact ⟨by rw [HR1.out, HR2.out, HRUN.out]; rfl, HO4.out⟩
    · have hkN : k = N := by omega
      subst hkN
      have HD := Lib.hid (show (rs.map ER.x).drop k = [] from List.drop_eq_nil_of_le (by simp [HN.out]))
      have h1 : (runP initS (rs.map ER.x)).1 = k := by rw [HR1.out, HD.out]; rfl
      have h2 : (runP initS (rs.map ER.x)).2 = (0, s) := by rw [HR2.out, HD.out]; rfl
      have H1 := Lib.hid h1
      have H2 := Lib.hid h2
      clear h1 h2
      go_wp2_with fail
      go_ret2
      exact ⟨by rw [H1.out, H2.out]; rfl, HO2.out⟩

set_option maxRecDepth 100000 in
set_option maxHeartbeats 2000000 in
theorem Ref.alive_any (A : Option Addr) (c : Nat) (rs : List ER) (w : World) (h : Es w w.heap.size A rs) (hl : rs.length ≤ 1099511627776) :
    Calls Try.prog 13 #[.slice A rs.length c] w (AlivePost (rs.map ER.x) w) := by
  obtain ⟨i0, hi0, hz0, hz1, hz2⟩ := info_parts int_info
  obtain ⟨N, hN⟩ : ∃ N, rs.length = N := ⟨_, rfl⟩
  rw [hN] at hl ⊢
  have HN := Lib.hid hN
  have HE := Lib.hid h
  clear hN h
  go_enter Try.func13, Try.ntmps13
  go_wp2_with fail
  refine (Ref.first_any _).mono ?_
  rintro x w1 ⟨g, rfl, hg, hS, hO⟩
  have HG := Lib.hid hg
  have HS := Lib.hid hS
  have HO := Lib.hid hO
  clear hg hS hO
  go_wp2_with fail
  go_loopw [5, 4] (fun i v wr => ∃ (k g c' : Nat) (s : List PS), k ≤ N ∧ i = .int .i64 k ∧ v = .slice (some ⟨g, 0, none⟩) 32 c' ∧ SR wr g s ∧ CallsOk s ∧ Only Nil w wr ∧ (runP initS (rs.map ER.x)).1 = k + (runP s ((rs.map ER.x).drop k)).1 ∧ (runP initS (rs.map ER.x)).2 = (runP s ((rs.map ER.x).drop k)).2) (fun i _ _ => N - (intOf i).toNat)
  case atStart => exact ⟨0, g, 32, initS, Nat.zero_le _, rfl, rfl, HS.out, CallsOk.init, HO.out, by simp, by simp⟩
  case round =>
    obtain ⟨k, g, c', s, hk, rfl, rfl, hS, hC, hO, hr1, hr2⟩ := hrel
    have HS2 := Lib.hid hS
    have HC2 := Lib.hid hC
    have HO2 := Lib.hid hO
    have HR1 := Lib.hid hr1
    have HR2 := Lib.hid hr2
    clear hS hC hO hr1 hr2
    by_cases hlt : k < N
    · obtain ⟨r, hr⟩ : ∃ r, rs[k]? = some r := ⟨rs[k]'(by rw [HN.out]; exact hlt), List.getElem?_eq_getElem _⟩
      obtain ⟨b, off, rfl, hb, hc⟩ := (HE.out.next HO2.out).at_ hr
      have HD := Lib.hid (drop_map_succ hr)
      have HEN := Lib.hid (fun (W : World) (h : SR W g s) => Ref.next_any (cs := c') r W h HC2.out)
      have hcs : ∀ j u, r.cells[j]? = some u → wr.cell? ⟨b, off + (k * 8 + j), none⟩ = some u := hc
      clear hr hc hb
      obtain ⟨Ax, cx, kind, task, call, a0, a1, a2, result, data⟩ := r
      have c0 : wr.cell? ⟨b, off + k * 8, none⟩ = some (.int .i64 kind) := hcs 0 _ rfl
      have c1 : wr.cell? ⟨b, off + k * 8 + 1, none⟩ = some (.int .i64 task) := hcs 1 _ rfl
      have c2 : wr.cell? ⟨b, off + k * 8 + 2, none⟩ = some (.int .i64 call) := hcs 2 _ rfl
      have c3 : wr.cell? ⟨b, off + k * 8 + 3, none⟩ = some (.int .i64 a0) := hcs 3 _ rfl
      have c4 : wr.cell? ⟨b, off + k * 8 + 4, none⟩ = some (.int .i64 a1) := hcs 4 _ rfl
      have c5 : wr.cell? ⟨b, off + k * 8 + 5, none⟩ = some (.int .i64 a2) := hcs 5 _ rfl
      have c6 : wr.cell? ⟨b, off + k * 8 + 6, none⟩ = some (.int .i64 result) := hcs 6 _ rfl
      have c7 : wr.cell? ⟨b, off + k * 8 + 7, none⟩ = some (.slice Ax data.length cx) := hcs 7 _ rfl
      clear hcs
      unfold ER.cells at HEN
      dsimp only at HEN HD
      go_wp2_with fail
      refine (HEN.out _ HS2.out).mono ?_
      rintro x w2 ⟨v, rfl, hst, hO3⟩
      obtain ⟨e1, he1⟩ : ∃ e1, entE s ⟨kind, task, call, a0, a1, a2, result, data⟩ = e1 := ⟨_, rfl⟩
      rw [he1] at hst ⊢
      have HE1 := Lib.hid he1
      have HO4 := Lib.hid (HO2.out.thenNil hO3)
      have HST := Lib.hid hst
      clear hO3 hst he1 c0 c1 c2 c3 c4 c5 c6 c7
      by_cases h0 : e1 = 0
      · subst h0
        obtain ⟨g2, cc, rfl, _, hS2⟩ := HST.out rfl
        have HSN := Lib.hid hS2
        have HRUN := Lib.hid (show runP s ((rs.map ER.x).drop k) = ((runP (entS s ⟨kind, task, call, a0, a1, a2, result, data⟩) ((rs.map ER.x).drop (k + 1))).1 + 1, (runP (entS s ⟨kind, task, call, a0, a1, a2, result, data⟩) ((rs.map ER.x).drop (k + 1))).2) by
          rw [HD.out, runP, if_pos HE1.out])
        clear hS2
        go_wp2_with fail
        go_roundw
        case rel => exact ⟨k + 1, g2, cc, _, by omega, by go_num, rfl, HSN.out, HC2.out.step _, HO4.out, by rw [HR1.out, HRUN.out]; dsimp only; omega, by rw [HR2.out, HRUN.out]⟩
        case measure => simp [intOf]; omega
      · have hb1 : (e1 == 0) = false := beq_false_of_ne h0
        have hb2 : (e1 != 0) = true := by simp [h0]
        have HRUN := Lib.hid (show runP s ((rs.map ER.x).drop k) = (0, e1, s) by rw [HD.out, runP, HE1.out, if_neg h0])
        have H0 := Lib.hid h0
        clear h0
        go_wp2_with fail
        go_ret2
        refine ⟨HO4.out, fun _ => by rw [HR2.out, HRUN.out]; rfl, fun h => ?_⟩
        rw [HR2.out, HRUN.out] at h
        exact absurd h H0.out
    · have hkN : k = N := by omega
      subst hkN
      have HD := Lib.hid (show (rs.map ER.x).drop k = [] from List.drop_eq_nil_of_le (by simp [HN.out]))
      have h2 : (runP initS (rs.map ER.x)).2 = (0, s) := by rw [HR2.out, HD.out]; rfl
      have H2 := Lib.hid h2
      clear h2
      go_wp2_with fail
      obtain ⟨w9, rfl⟩ : ∃ w9, w9 = wr := ⟨_, rfl⟩
      go_loopw [9, 8] (fun i v wr => ∃ (k : Nat) (A' : Option Addr) (c' : Nat), k ≤ 32 ∧ i = .int .i64 k ∧ v = .slice A' (aliveP s k).length c' ∧ SR wr g s ∧ Only Nil w wr ∧ wr.ownsRow w.heap.size 3 1 (.slice A' (aliveP s k).length c') (aliveP s k).length (icells (aliveP s k))) (fun i _ _ => 32 - (intOf i).toNat)
      case atStart => exact ⟨0, none, 0, by omega, rfl, rfl, HS2.out, HO2.out, by have := World.ownsRow_nil w9 w.heap.size 3 1; exact this⟩
      case round =>
        obtain ⟨j, A', cc, hj, rfl, rfl, hS, hO, hown⟩ := hrel
        obtain ⟨L, hL⟩ : ∃ L, aliveP s j = L := ⟨_, rfl⟩
        obtain ⟨M, hM⟩ : ∃ M, L.length = M := ⟨_, rfl⟩
        rw [hL, hM] at hown ⊢
        have HM : Hid (M ≤ 32) := Lib.hid (by have := aliveP_len s j; rw [hL, hM] at this; omega)
        have HL := Lib.hid hL
        have HMM := Lib.hid hM
        have HS3 := Lib.hid hS
        have HO3 := Lib.hid hO
        have HW3 := Lib.hid hown
        clear hS hO hown hL hM
        by_cases hlt2 : j < 32
        · obtain ⟨t, ht⟩ : ∃ t, s[j]? = some t := ⟨_, List.getElem?_eq_getElem (by rw [HS3.out.len]; exact hlt2)⟩
          obtain ⟨c0, c1, c2⟩ := HS3.out.cell ht
          have hsucc := aliveP_succ s j
          rw [getD_of ht, HL.out] at hsucc
          have HSU := Lib.hid hsucc
          clear ht hsucc
          obtain ⟨th, ca, cl, cn⟩ := t
          dsimp only at c0 HSU
          clear c1 c2
          have hji : (j : Int) < 32 := by omega
          cases th
          · have HSU2 := Lib.hid (show aliveP s (j + 1) = L from HSU.out)
            go_wp2_with fail
            go_roundw
            case rel => exact ⟨j + 1, A', cc, by omega, by go_num, by rw [HSU2.out, HMM.out], HS3.out, HO3.out, by rw [HSU2.out, HMM.out]; exact HW3.out⟩
            case measure => simp [intOf]; omega
          · have HSU2 := Lib.hid (show aliveP s (j + 1) = L ++ [j] from HSU.out)
            have HSZ := Lib.hid HO3.out.size
            go_wp2_with (at_builtin; go_must (refine wpList_append_rd _ rfl (.tmp 41) (.tmp 43) _ rfl w.heap.size 3 i0 (.int .i64 0) 1 8 Try.underlying28 hi0 hz0 hz1 hz2 rfl (by omega) (.slice A' M cc) M (icells L) rfl ?qown (wr.heap.size + 1) (some ⟨wr.heap.size, 0, none⟩) 1 1 [.int .i64 (j : Int)] rfl ?qrd (one_cell1 rfl) (M + 1) rfl _ rfl ?q63 ?qby ?qbase ?_))
            case qown => exact own_onlyNil HW3.out ((Only.refl _ _).alloc _)
            case qrd => exact Rd.newBlock wr #[.int .i64 (j : Int)] _ 1 1 rfl rfl
            case q63 => have := HM.out; unfold maxLen; omega
            case qby => have := HM.out; omega
            case qbase => have := HSZ.out; simp; omega
            intro A4 c4 w4 hc4 hown4 hgr4 hat4
            have hS4 : SR w4 g s := by
              obtain ⟨cur, hb, ht⟩ := HS3.out.blk
              refine ⟨HS3.out.len, cur, (hb.alloc _).grown hgr4 (fun e => ?_), ht⟩
              exact own_blk_ne HW3.out hb (by decide) e.symm
            have hO4 : Only Nil w w4 := (HO3.out.alloc _).trans (Only.of_grown hgr4) (fun x hx => .inr (ownBlock_ge HW3.out hx))
            have HS4 := Lib.hid hS4
            have HO4 := Lib.hid hO4
            have HW4 := Lib.hid hown4
            clear hS4 hO4 hown4 hgr4 hat4 hc4
            go_wp2_with fail
            go_roundw
            case rel =>
              refine ⟨j + 1, A4, c4, by omega, by go_num, by rw [HSU2.out, List.length_append, HMM.out]; rfl, HS4.out, HO4.out, ?_⟩
              rw [HSU2.out, List.length_append, HMM.out, List.length_singleton]
              simpa [icells] using HW4.out
            case measure => simp [intOf]; omega
        · have hj32 : j = 32 := by omega
          subst hj32
          go_wp2_with fail
          go_ret2
          refine ⟨HO3.out, fun h => ?_, fun _ => ⟨A', cc, ?_, ?_⟩⟩
          · rw [H2.out] at h
            exact absurd rfl h
          · rw [H2.out]
            dsimp only
            rw [HL.out, HMM.out]
            rfl
          · rw [H2.out]
            dsimp only
            rw [HL.out, HMM.out]
            exact HW3.out

end Go.Proofs.Ytdejceojhkdjnaa
