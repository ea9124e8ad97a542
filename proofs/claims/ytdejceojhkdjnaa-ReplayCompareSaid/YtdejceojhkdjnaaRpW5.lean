/-
  Walks of replay: entry (any entry), begin, run, Check.
  Conditions: the entries can be read.
-/
import Derived.Test.YtdejceojhkdjnaaRpW4
import Derived.LoopTactic
namespace Go.Proofs.Ytdejceojhkdjnaa
open Go.RowKit

theorem vE_kinds {x : En} (h : vE x = true) : x.kind = 1 ∨ x.kind = 2 ∨ x.kind = 3 ∨ x.kind = 4 ∨ x.kind = 5 ∨ x.kind = 6 ∨ x.kind = 7 := by
  unfold vE vK at h
  simp only [Bool.and_eq_true] at h
  have h2 := h.2.2
  by_cases h1 : x.kind = 1
  · exact .inl h1
  by_cases h3 : x.kind = 2
  · exact .inr (.inl h3)
  by_cases h4 : x.kind = 3
  · exact .inr (.inr (.inl h4))
  by_cases h5 : x.kind = 4
  · exact .inr (.inr (.inr (.inl h5)))
  by_cases h6 : x.kind = 5
  · exact .inr (.inr (.inr (.inr (.inl h6))))
  by_cases h7 : x.kind = 6
  · exact .inr (.inr (.inr (.inr (.inr (.inl h7)))))
  by_cases h8 : x.kind = 7
  · exact .inr (.inr (.inr (.inr (.inr (.inr h8)))))
  simp [h1, h3, h4, h5, h6, h7, h8] at h2

set_option maxRecDepth 100000 in
theorem entry_any {g : Nat} {s : List PS} (r : ER) (w : World) (h : SB w g s) : Calls Try.prog 34 #[.pointer (some ⟨g, 0, none⟩), .agg r.cells.toArray] w (EntPost g s r.x w) := by
  obtain ⟨A, c, x⟩ := r
  cases hv : vE x
  · have hva := valid_any ⟨A, c, x⟩
    rw [hv] at hva
    have hE : entE s x = 1 := by unfold entE; rw [hv]; rfl
    have hS : entS s x = s := by unfold entS; rw [hv]; rfl
    unfold EntPost
    rw [hE, hS]
    have HVA := Lib.hid hva
    have HH := Lib.hid h
    clear hva h hE hS hv
    obtain ⟨kind, task, call, a0, a1, a2, result, data⟩ := x
    unfold ER.cells at HVA ⊢
    dsimp only at HVA ⊢
    go_enter Try.func34, Try.ntmps34
    go_wp2_with fail
    refine (HVA.out _).mono ?_
    rintro x w1 ⟨rfl, hO1⟩
    go_wp2_with fail
    go_ret
    exact ⟨rfl, HH.out.onlyNil (((Only.refl _ _).alloc _).thenNil hO1), (((Only.refl _ _).alloc _).thenNil hO1).any⟩
  · obtain ⟨t1, t2⟩ := vE_task hv
    have hkind := vE_kinds hv
    have h3 := fun hk => vE_kind3 hv hk
    obtain ⟨kind, task, call, a0, a1, a2, result, data⟩ := x
    dsimp only at t1 t2 hkind h3
    obtain ⟨k, hk⟩ : ∃ k : Nat, task = k := Int.eq_ofNat_of_zero_le t1
    subst hk
    have hk : k < 32 := by omega
    obtain ⟨t, ht⟩ : ∃ t, s[k]? = some t := ⟨_, List.getElem?_eq_getElem (by rw [h.len]; exact hk)⟩
    rcases hkind with rfl | rfl | rfl | rfl | rfl | rfl | rfl
    · exact entry_k1 A c k call a0 a1 a2 result data w hv h ht hk
    · exact entry_k2 A c k call a0 a1 a2 result data w hv h ht hk
    · have h4 := h3 rfl
      obtain ⟨rn, hr⟩ : ∃ rn : Nat, result = rn := Int.eq_ofNat_of_zero_le (by omega)
      subst hr
      exact entry_k3 A c k call a0 a1 a2 rn data w hv h ht hk (by omega)
    · exact entry_k4 A c k call a0 a1 a2 result data w hv h ht hk
    · exact entry_k5 A c k call a0 a1 a2 result data w hv h ht hk
    · exact entry_k6 A c k call a0 a1 a2 result data w hv h ht hk
    · exact entry_k7 A c k call a0 a1 a2 result data w hv h ht hk

/-- The states at the beginning. -/
def initS : List PS := (List.replicate 32 zPS).set 16 ⟨true, false, false, 0⟩

set_option maxRecDepth 100000 in
theorem begin_any (w : World) : Calls Try.prog 33 #[] w fun e w' => ∃ g, e = .returned (.pointer (some ⟨g, 0, none⟩)) ∧ w.heap.size ≤ g ∧ SB w' g initS ∧ Only Nil w w' := by
  obtain ⟨Z, hZ⟩ : ∃ Z : Array Value, Z = ((List.replicate 32 zPS).flatMap PS.cells).toArray := ⟨_, rfl⟩
  have hz : ∀ w, (zeroValue 75).run Try.prog w = .ok (.agg Z) w := fun w => by rw [hZ]; kernel_rfl
  have h0 : SB (w.alloc (.cells Z 75)) w.heap.size (List.replicate 32 zPS) := ⟨by simp, by rw [hZ]; exact Blk.new w _ _⟩
  have hc : (w.alloc (.cells Z 75)).cell? ⟨w.heap.size, 64, none⟩ = some (.bool false) := (h0.cell (k := 16) (t := zPS) (by simp)).1
  have hf : (w.alloc (.cells Z 75)).frozen? ⟨w.heap.size, 64, none⟩ = false := h0.frozen 64
  have h1 : SB (w.alloc (.cells (Z.setIfInBounds 64 (.bool true)) 75)) w.heap.size initS := ⟨rfl, by rw [hZ]; exact Blk.new w _ _⟩
  have H0 := Lib.hid h0
  have H1 := Lib.hid h1
  clear h0 hZ h1
  go_enter Try.func33, Try.ntmps33
  go_wp2_with fail
  go_ret
  refine ⟨w.heap.size, rfl, Nat.le_refl _, ?_, ?_⟩
  · exact H1.out
  · refine (Only.refl Nil w).trans (S' := fun x => w.heap.size ≤ x) ?_ (fun x hx => .inr hx)
    (repeat' (first | with_reducible exact Only.refl _ _ | with_reducible refine Only.setCell ?_ (Or.inl ?_) _ | with_reducible refine Only.drewN ?_ _ | with_reducible refine Only.drew ?_ | with_reducible refine Only.alloc ?_ _ | (exact Nat.le_refl _)))

/-- How far a list is proper, the error of the first entry that is not, and the states. -/
def runP (s : List PS) : List En → Nat × Int × List PS
  | [] => (0, 0, s)
  | x :: l => if entE s x = 0 then ((runP (entS s x) l).1 + 1, (runP (entS s x) l).2) else (0, entE s x, s)
def RunPost (l : List En) (w : World) (x : Ending) (w' : World) : Prop :=
  Only Nil w w' ∧ ((runP initS l).2.1 = 0 → ∃ g, x = .returned (.tuple #[.pointer (some ⟨g, 0, none⟩), .int .i64 (runP initS l).1, .int .i64 0]) ∧ w.heap.size ≤ g ∧ SB w' g (runP initS l).2.2) ∧
    ((runP initS l).2.1 ≠ 0 → x = .returned (.tuple #[.pointer none, .int .i64 (runP initS l).1, .int .i64 (runP initS l).2.1]))
theorem runP_ok {s : List PS} {l : List En} (h : (runP s l).2.1 = 0) : (runP s l).1 = l.length := by
  induction l generalizing s with
  | nil => rfl
  | cons x l ih =>
    unfold runP at h ⊢
    by_cases h0 : entE s x = 0
    · rw [if_pos h0] at h ⊢
      simp only [List.length_cons]
      rw [ih h]
    · rw [if_neg h0] at h
      exact absurd h h0

set_option maxRecDepth 100000 in
set_option maxHeartbeats 1000000 in
theorem run_any (A : Option Addr) (c : Nat) (rs : List ER) (w : World) (h : Es w w.heap.size A rs) (hl : rs.length ≤ 1099511627776) :
    Calls Try.prog 24 #[.slice A rs.length c] w (RunPost (rs.map ER.x) w) := by
  obtain ⟨N, hN⟩ : ∃ N, rs.length = N := ⟨_, rfl⟩
  rw [hN] at hl ⊢
  have HN := Lib.hid hN
  have HE := Lib.hid h
  clear hN h
  go_enter Try.func24, Try.ntmps24
  go_wp2_with fail
  refine (begin_any _).mono ?_
  rintro x w1 ⟨g, rfl, hg, hS, hO⟩
  have HG := Lib.hid hg
  have HS := Lib.hid hS
  have HO := Lib.hid hO
  clear hg hS hO
  go_wp2_with fail
  go_loopw [12] (fun i wr => ∃ (k : Nat) (s : List PS), k ≤ N ∧ i = .int .i64 k ∧ SB wr g s ∧ Only Nil w wr ∧ (runP initS (rs.map ER.x)).1 = k + (runP s ((rs.map ER.x).drop k)).1 ∧ (runP initS (rs.map ER.x)).2 = (runP s ((rs.map ER.x).drop k)).2) (fun i _ => N - (intOf i).toNat)
  case atStart => exact ⟨0, initS, Nat.zero_le _, rfl, HS.out, HO.out, by simp, by simp⟩
  case round =>
    obtain ⟨k, s, hk, rfl, hS, hO, hr1, hr2⟩ := hrel
    have HS2 := Lib.hid hS
    have HO2 := Lib.hid hO
    have HR1 := Lib.hid hr1
    have HR2 := Lib.hid hr2
    clear hS hO hr1 hr2
    by_cases hlt : k < N
    · obtain ⟨r, hr⟩ : ∃ r, rs[k]? = some r := ⟨rs[k]'(by rw [HN.out]; exact hlt), List.getElem?_eq_getElem _⟩
      obtain ⟨b, off, rfl, hb, hc⟩ := (HE.out.next HO2.out).at_ hr
      have hdrop : (rs.map ER.x).drop k = r.x :: (rs.map ER.x).drop (k + 1) := by
        rw [← List.map_drop, ← List.map_drop, List.drop_eq_getElem_cons (by rw [HN.out]; exact hlt)]
        have := (List.getElem?_eq_some_iff.1 hr).2
        rw [this]
        rfl
      have HD := Lib.hid hdrop
      have hen := fun (W : World) (h : SB W g s) => entry_any r W h
      have HEN := Lib.hid hen
      have hcs : ∀ j u, r.cells[j]? = some u → wr.cell? ⟨b, off + (k * 8 + j), none⟩ = some u := hc
      clear hr hc hdrop hen hb
      obtain ⟨Ax, cx, kind, task, call, a0, a1, a2, result, data⟩ := r
      have c0 : wr.cell? ⟨b, off + k * 8, none⟩ = some (.int .i64 kind) := hcs 0 _ rfl
      have c1 : wr.cell? ⟨b, off + k * 8 + 1, none⟩ = some (.int .i64 task) := hcs 1 _ rfl
      have c2 : wr.cell? ⟨b, off + k * 8 + 2, none⟩ = some (.int .i64 call) := hcs 2 _ rfl
      have c3 : wr.cell? ⟨b, off + k * 8 + 3, none⟩ = some (.int .i64 a0) := hcs 3 _ rfl
      have c4 : wr.cell? ⟨b, off + k * 8 + 4, none⟩ = some (.int .i64 a1) := hcs 4 _ rfl
      have c5 : wr.cell? ⟨b, off + k * 8 + 5, none⟩ = some (.int .i64 a2) := hcs 5 _ rfl
      have c6 : wr.cell? ⟨b, off + k * 8 + 6, none⟩ = some (.int .i64 result) := hcs 6 _ rfl
      have c7 : wr.cell? ⟨b, off + k * 8 + 7, none⟩ = some (.slice Ax data.length cx) := hcs 7 _ rfl
      clear hcs
      unfold ER.cells at HEN
      dsimp only at HEN HD
      go_wp2_with fail
      refine (HEN.out _ (HS2.out.onlyNil ?hO)).mono ?_
      case hO =>
        refine (Only.refl Nil wr).trans (S' := fun x => wr.heap.size ≤ x) ?_ (fun x hx => .inr hx)
        (repeat' (first | with_reducible exact Only.refl _ _ | with_reducible refine Only.setCell ?_ (Or.inl ?_) _ | with_reducible refine Only.drewN ?_ _ | with_reducible refine Only.drew ?_ | with_reducible refine Only.alloc ?_ _ | (exact Nat.le_refl _)))
      rintro x w2 ⟨rfl, hS2, hO3⟩
      have hs1 : w.heap.size ≤ g := HG.out
      have hO4 : Only Nil w w2 := (HO2.out.trans (S' := fun x => w.heap.size ≤ x) (b := _) ((Only.alloc (Only.refl _ wr) _).then_ (hO3.more (fun x hx => by unfold One at hx; omega))) (fun x hx => .inr hx))
      obtain ⟨e1, he1⟩ : ∃ e1, entE s ⟨kind, task, call, a0, a1, a2, result, data⟩ = e1 := ⟨_, rfl⟩
      rw [he1]
      have HE1 := Lib.hid he1
      have HO4 := Lib.hid hO4
      have HSN := Lib.hid hS2
      clear hO3 hO4 hS2 he1 c0 c1 c2 c3 c4 c5 c6 c7
      by_cases h0 : e1 = 0
      · subst h0
        have hrun : runP s ((rs.map ER.x).drop k) = ((runP (entS s ⟨kind, task, call, a0, a1, a2, result, data⟩) ((rs.map ER.x).drop (k + 1))).1 + 1, (runP (entS s ⟨kind, task, call, a0, a1, a2, result, data⟩) ((rs.map ER.x).drop (k + 1))).2) := by
          rw [HD.out]
          rw [runP, if_pos HE1.out]
        have HRUN := Lib.hid hrun
        clear hrun
        go_wp2_with fail
        go_roundw
        case rel => exact ⟨k + 1, _, by omega, by go_num, HSN.out, HO4.out, by rw [HR1.out, HRUN.out]; dsimp only; omega, by rw [HR2.out, HRUN.out]⟩
        case measure => simp [intOf]; omega
      · have hb1 : (e1 == 0) = false := beq_false_of_ne h0
        have hb2 : (e1 != 0) = true := by simp [h0]
        have hrun : runP s ((rs.map ER.x).drop k) = (0, e1, s) := by
          rw [HD.out, runP, HE1.out, if_neg h0]
        have HRUN := Lib.hid hrun
        have H0 := Lib.hid h0
        clear hrun h0
        go_wp2_with fail
        go_ret3
        refine ⟨HO4.out, fun h => ?_, fun _ => ?_⟩
        · rw [HR2.out, HRUN.out] at h
          exact absurd h H0.out
        · rw [HR1.out, HR2.out, HRUN.out]
          rfl
    · have hkN : k = N := by omega
      subst hkN
      have hd : (rs.map ER.x).drop k = [] := List.drop_eq_nil_of_le (by simp [HN.out])
      have HD := Lib.hid hd
      clear hd
      go_wp2_with fail
      go_ret3
      have h1 : (runP initS (rs.map ER.x)).1 = k := by rw [HR1.out, HD.out]; rfl
      have h2 : (runP initS (rs.map ER.x)).2 = (0, s) := by rw [HR2.out, HD.out]; rfl
      refine ⟨HO2.out, fun _ => ⟨g, ?_, HG.out, ?_⟩, fun h => ?_⟩
      · rw [h1]; rfl
      · rw [h2]; exact HS2.out
      · rw [h2] at h; exact absurd rfl h

/-- replay.Check. -/
def CheckPost (l : List En) (w : World) (x : Ending) (w' : World) : Prop := x = .returned (.tuple #[.int .i64 (runP initS l).1, .int .i64 (runP initS l).2.1]) ∧ Only Nil w w'
theorem check_any (A : Option Addr) (c : Nat) (rs : List ER) (w : World) (h : Es w w.heap.size A rs) (hl : rs.length ≤ 1099511627776) :
    Calls Try.prog 10 #[.slice A rs.length c] w (CheckPost (rs.map ER.x) w) := by
  have hr := run_any A c rs w h hl
  have HR := Lib.hid hr
  clear hr h hl
  go_enter Try.func10, Try.ntmps10
  go_wp2_with fail
  refine HR.out.mono ?_
  rintro x w1 ⟨hO, hy, hn⟩
  by_cases h0 : (runP initS (rs.map ER.x)).2.1 = 0
  · obtain ⟨g, rfl, _, _⟩ := hy h0
    have H0 := Lib.hid h0
    have HO := Lib.hid hO
    clear hy hn h0 hO
    obtain ⟨n, hn⟩ : ∃ n, (runP initS (rs.map ER.x)).1 = n := ⟨_, rfl⟩
    rw [hn]
    have HN := Lib.hid hn
    clear hn
    go_wp2_with fail
    go_ret2
    exact ⟨by rw [HN.out, H0.out]; rfl, HO.out⟩
  · obtain rfl := hn h0
    have HO := Lib.hid hO
    clear hy hn h0 hO
    obtain ⟨n, hn⟩ : ∃ n, (runP initS (rs.map ER.x)).1 = n := ⟨_, rfl⟩
    obtain ⟨e, he⟩ : ∃ e, (runP initS (rs.map ER.x)).2.1 = e := ⟨_, rfl⟩
    rw [hn, he]
    have HN := Lib.hid hn
    have HE := Lib.hid he
    clear hn he
    go_wp2_with fail
    go_ret2
    exact ⟨by rw [HN.out, HE.out]; rfl, HO.out⟩

end Go.Proofs.Ytdejceojhkdjnaa
