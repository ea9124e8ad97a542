/-
  The walk of ratoonref01.FewEffects; a list of effects as an argument.
  Conditions: the effects can be read; no Data takes more than 2 to the power 47 bytes.
-/
import Derived.Test.YtbhgaaendekghaaEfA
import Derived.BigQuiet
import Derived.SizedLaws
namespace Go.Proofs.Ytbhgaaendekghaa
open Go.ChangeShapes Go.WideShapes Go.ChangeAt Go.RowKit Go.Deep

/-- The bytes of the Data of effects. -/
def sumD : List Ef → Nat
  | [] => 0
  | x :: l => x.data.length + x.msg.data.length + sumD l
theorem sumD_snoc (l : List Ef) (x : Ef) : sumD (l ++ [x]) = sumD l + (x.data.length + x.msg.data.length) := by
  induction l with
  | nil => simp [sumD]
  | cons y l ih => simp only [List.cons_append, sumD, ih]; omega
theorem sumD_mem {l : List Ef} {x : Ef} (h : x ∈ l) : x.data.length + x.msg.data.length ≤ sumD l := by
  induction l with
  | nil => cases h
  | cons y l ih =>
    unfold sumD
    rcases List.mem_cons.1 h with rfl | h
    · omega
    · have := ih h; omega
theorem sumD_le {l : List Ef} {b : Nat} (h : ∀ x ∈ l, x.data.length ≤ b ∧ x.msg.data.length ≤ b) : sumD l ≤ 2 * b * l.length := by
  induction l with
  | nil => simp [sumD]
  | cons y l ih =>
    have h1 := h y (by simp)
    have h2 := ih (fun x hx => h x (by simp [hx]))
    unfold sumD
    rw [List.length_cons, Nat.mul_add, Nat.mul_one]
    omega
theorem sum_bound {S B m : Nat} (h : S ≤ 2 * B * m) (hm : m ≤ 170) (hB : B ≤ 140737488355328) : S ≤ 47850746040811520 := by
  have h1 : 2 * B * m ≤ 2 * B * 170 := Nat.mul_le_mul_left _ hm
  omega
theorem two_fit {D E : Nat} (hD : D ≤ 140737488355328) (hE : E ≤ 140737488355328) : wrap64 ((D : Int) + (E : Int)) = (D : Int) + (E : Int) := by
  unfold wrap64
  omega
theorem sum_fit {z : Int} {S D E : Nat} (h1 : z = (S : Nat)) (hS : S ≤ 47850746040811520) (hD : D ≤ 140737488355328) (hE : E ≤ 140737488355328) : wrap64 (z + ((D : Int) + (E : Int))) = ((S + (D + E) : Nat) : Int) := by
  subst h1
  unfold wrap64
  omega
/-- Few effects with few bytes. -/
def fewF (l : List Ef) : Bool := decide (l.length ≤ 170) && decide (sumD l ≤ 20000)
theorem fewF_of {l : List Ef} (h : fewF l = true) : l.length ≤ 170 ∧ sumD l ≤ 20000 := by
  unfold fewF at h
  simpa only [Bool.and_eq_true, decide_eq_true_eq] using h

set_option maxRecDepth 100000 in
set_option maxHeartbeats 2000000 in
theorem Ref.few_any (A : Option Addr) (c : Nat) (rs : List FR) (w : World) (hE : Fs w w.heap.size A rs) (hl : rs.length ≤ maxLen) (B : Nat) (hB : B ≤ 140737488355328) (hd : ∀ x ∈ rs.map FR.x, x.data.length ≤ B ∧ x.msg.data.length ≤ B) :
    Calls Try.prog 20 #[.slice A rs.length c] w fun e w' => e = .returned (.bool (fewF (rs.map FR.x))) ∧ Only Nil w w' := by
  obtain ⟨N, hN⟩ : ∃ N, rs.length = N := ⟨_, rfl⟩
  obtain ⟨F, hF⟩ : ∃ F, fewF (rs.map FR.x) = F := ⟨_, rfl⟩
  have HE := Lib.hid hE
  have HF := Lib.hid hF
  have HN := Lib.hid hN
  have HD := Lib.hid hd
  have HBB := Lib.hid hB
  rw [hN, hF]
  rw [hN] at hl
  unfold maxLen at hl
  clear hE hF hN hd hB
  go_enter Try.func20, Try.ntmps20
  go_wp2_with fail
  go_loopw [4, 3] (fun i v wr => ∃ (k : Nat) (z : Int), k ≤ N ∧ i = .int .i64 k ∧ v = .int .i64 z ∧ (N ≤ 170 → z = (sumD ((rs.take k).map FR.x) : Nat)) ∧ Only Nil w wr) (fun i _ _ => N - (intOf i).toNat)
  case atStart => exact ⟨0, 0, Nat.zero_le _, rfl, rfl, fun _ => by rw [List.take_zero]; rfl, Only.refl _ _⟩
  case round =>
    obtain ⟨k, z, hk, rfl, rfl, hz, hO⟩ := hrel
    have HZ := Lib.hid hz
    have HO := Lib.hid hO
    clear hz hO
    by_cases hlt : k < N
    · obtain ⟨q, hq⟩ : ∃ q, rs[k]? = some q := ⟨rs[k]'(by rw [HN.out]; exact hlt), List.getElem?_eq_getElem _⟩
      obtain ⟨hkl, hge⟩ := List.getElem?_eq_some_iff.1 hq
      have htk : (rs.take (k + 1)).map FR.x = (rs.take k).map FR.x ++ [q.x] := by
        rw [List.take_succ_eq_append_getElem hkl, hge, List.map_append]
        rfl
      obtain ⟨b, off, rfl, _, hc⟩ := (HE.out.next HO.out).at_ hq
      have e13 : wr.cell? ⟨b, off + (k * 15 + 13), none⟩ = some (.slice q.Am q.x.msg.data.length q.cm) := hc 13 _ rfl
      have e14 : wr.cell? ⟨b, off + (k * 15 + 14), none⟩ = some (.slice q.Ad q.x.data.length q.cd) := hc 14 _ rfl
      rw [← Nat.add_assoc] at e13 e14
      have hdq := HD.out q.x (List.mem_map.2 ⟨q, List.mem_of_getElem? hq, rfl⟩)
      have hsum := sumD_snoc ((rs.take k).map FR.x) q.x
      rw [← htk] at hsum
      have hle := sumD_le (l := (rs.take k).map FR.x) (fun x hx => HD.out x (by
        obtain ⟨q', hq', rfl⟩ := List.mem_map.1 hx
        exact List.mem_map.2 ⟨q', List.mem_of_mem_take hq', rfl⟩))
      rw [List.length_map, List.length_take] at hle
      obtain ⟨D, hD⟩ : ∃ D, q.x.data.length = D := ⟨_, rfl⟩
      obtain ⟨E, hE⟩ : ∃ E, q.x.msg.data.length = E := ⟨_, rfl⟩
      rw [hD] at e14 hdq hsum
      rw [hE] at e13 hdq hsum
      have hki : (k : Int) < N := by omega
      have hde2 : wrap64 ((D : Int) + (E : Int)) = (D : Int) + (E : Int) := two_fit (Nat.le_trans hdq.1 HBB.out) (Nat.le_trans hdq.2 HBB.out)
      have hde : IntKind.i64.wrap ((D : Int) + (E : Int)) = (D : Int) + (E : Int) := by rw [IntKind.wrap_i64]; have := hde2; unfold wrap64 at this; exact this
      obtain ⟨Sk, hSk⟩ : ∃ Sk, sumD ((rs.take k).map FR.x) = Sk := ⟨_, rfl⟩
      have hzk := HZ.out
      rw [hSk] at hle hsum hzk
      obtain ⟨z2, hz2⟩ : ∃ z2, wrap64 (z + ((D : Int) + (E : Int))) = z2 := ⟨_, rfl⟩
      have hz3 : IntKind.i64.wrap (z + ((D : Int) + (E : Int))) = z2 := by rw [← hz2, IntKind.wrap_i64]; unfold wrap64; rfl
      have hz4 : N ≤ 170 → z2 = (sumD ((rs.take (k + 1)).map FR.x) : Nat) := fun h => by
        rw [← hz2, hsum]
        exact sum_fit (hzk h) (sum_bound hle (by have := HN.out; omega) HBB.out) (Nat.le_trans hdq.1 HBB.out) (Nat.le_trans hdq.2 HBB.out)
      have HZ4 := Lib.hid hz4
      clear hc hq hkl hge htk hdq hsum hle hD hE hz4 hlt hSk hzk
      go_wp2_with fail
      go_quiet (fail)
      go_wp2_with fail
      go_roundw
      case rel => exact ⟨k + 1, z2, by omega, by go_num, by first | rfl | rw [hz2] | rw [hz3], HZ4.out, HO.out.drewN _⟩
      case measure => simp [intOf]; omega
    · have hkN : k = N := by omega
      have hki : ¬ (k : Int) < N := by omega
      have hzN : N ≤ 170 → z = (sumD (rs.map FR.x) : Nat) := fun h => by
        have h1 := HZ.out h
        rwa [hkN, List.take_of_length_le (by rw [HN.out]; exact Nat.le_refl _)] at h1
      have hFd : F = (decide (N ≤ 170) && decide (sumD (rs.map FR.x) ≤ 20000)) := by
        rw [← HF.out]
        unfold fewF
        rw [List.length_map, HN.out]
      by_cases h170 : N ≤ 170
      · have hi : (N : Int) ≤ 170 := by omega
        have hz := hzN h170
        have hF2 : F = decide (z ≤ 20000) := by
          rw [hFd, decide_eq_true h170, Bool.true_and, hz, Bool.eq_iff_iff, decide_eq_true_iff, decide_eq_true_iff]
          omega
        have HF2 := Lib.hid hF2
        clear hzN hFd hz hF2 hkN hlt
        go_wp2_with fail
        refine bodyPost_ret (v := .bool (decide (z ≤ 20000))) (by simp [results, Try.results20, go_sem]) rfl ?_
        exact ⟨by rw [HF2.out], HO.out⟩
      · have hi : ¬ (N : Int) ≤ 170 := by omega
        have hF2 : F = false := by rw [hFd, decide_eq_false h170]; rfl
        have HF2 := Lib.hid hF2
        clear hzN hFd hF2 hkN hlt
        go_wp2_with fail
        refine bodyPost_ret (v := .bool false) (by simp [results, Try.results20, go_sem]) rfl ?_
        exact ⟨by rw [HF2.out], HO.out⟩

end Go.Proofs.Ytbhgaaendekghaa
