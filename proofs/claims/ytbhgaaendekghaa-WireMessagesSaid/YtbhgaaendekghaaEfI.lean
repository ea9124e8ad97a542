/-
  The walk of ratoonref01.Effects: the encoding of a list of effects.
  Conditions: the effects can be read; their Data are not too long.
-/
import Derived.Test.YtbhgaaendekghaaEfH
namespace Go.Proofs.Ytbhgaaendekghaa
open Go.RowKit

set_option maxRecDepth 100000 in
set_option maxHeartbeats 4000000 in
theorem Ref.effects_any (A' : Option Addr) (c' : Nat) (rs : List FR) (w : World) (hE : Fs w w.heap.size A' rs) (hl : rs.length ≤ 200) (hd : ∀ r ∈ rs, r.x.msg.data.length ≤ 134217728 ∧ r.x.data.length ≤ 134217728) :
    Calls Try.prog 46 #[.slice A' rs.length c'] w (BytesPost Nil (encFs (rs.map FR.x)) w) := by
  obtain ⟨i0, hi0, hz0, hz1, hz2⟩ := info_parts byte_info
  obtain ⟨N, hN⟩ : ∃ N, rs.length = N := ⟨_, rfl⟩
  have HI := Lib.hid (Ref.int_any (N : Int) w (by rw [← hN]; omega))
  have HE := Lib.hid hE
  have HN := Lib.hid hN
  have HD := Lib.hid hd
  rw [hN]
  rw [hN] at hl
  have HFS : Hid (encFs (rs.map FR.x) = encI N ++ encFn (rs.map FR.x)) := Lib.hid (by unfold encFs; rw [List.length_map, hN])
  have hNI := encI_len (N : Int) (zig_lt (by omega))
  clear hE hN hd
  go_enter Try.func46, Try.ntmps46
  go_wp2_with fail
  refine HI.out.mono ?_
  rintro e w1 ⟨A1, c1, rfl, hc1, hown1, hO1n⟩
  have HOW1 := Lib.hid hown1
  have HO1 := Lib.hid hO1n
  have HC1 := Lib.hid hc1
  clear hown1 hO1n hc1
  obtain ⟨L1, hL1⟩ : ∃ L1, (encI (N : Int)).length = L1 := ⟨_, rfl⟩
  have HL1 := Lib.hid hL1
  rw [hL1] at hNI ⊢
  clear hL1
  go_wp2_with fail
  go_loopw [4, 3] (fun i v wr => ∃ (k : Nat) (Ak : Option Addr) (ck M : Nat) (r : List UInt8), k ≤ N ∧ i = .int .i64 k ∧ v = .slice Ak M ck ∧ r.length = M ∧ M ≤ 10 + k * 268435800 ∧ r = encI N ++ encFn ((rs.take k).map FR.x) ∧ M ≤ ck ∧ wr.ownsRow w.heap.size 5 1 (.slice Ak M ck) M (bcells r) ∧ Only Nil w wr) (fun i _ _ => N - (intOf i).toNat)
  case atStart => exact ⟨0, A1, c1, L1, encI N, Nat.zero_le _, rfl, rfl, HL1.out, by omega, by simp [encFn], by rw [← HL1.out]; exact HC1.out, by rw [← HL1.out]; exact HOW1.out, HO1.out⟩
  case round =>
    obtain ⟨k, Ak, ck, M, r, hk, rfl, rfl, hM, hMb, hr, hck, hownk, hO⟩ := hrel
    have HM := Lib.hid hM
    have HMB := Lib.hid hMb
    have HR := Lib.hid hr
    have HCK := Lib.hid hck
    have HOWK := Lib.hid hownk
    have HO := Lib.hid hO
    clear hM hMb hr hck hownk hO
    by_cases hlt : k < N
    · obtain ⟨q, hq⟩ : ∃ q, rs[k]? = some q := ⟨rs[k]'(by rw [HN.out]; exact hlt), List.getElem?_eq_getElem _⟩
      obtain ⟨hkl, hge⟩ := List.getElem?_eq_some_iff.1 hq
      have htk : (rs.take (k + 1)).map FR.x = (rs.take k).map FR.x ++ [q.x] := by
        rw [List.take_succ_eq_append_getElem hkl, hge, List.map_append]
        rfl
      obtain ⟨b, off, rfl, _, hc⟩ := (HE.out.next HO.out).at_ hq
      have hokq := (HE.out.next HO.out).ok q (List.mem_of_getElem? hq)
      have hdq := HD.out q (List.mem_of_getElem? hq)
      have hki : (k : Int) < N := by omega
      have hlenq := encF_len hokq.fits (by omega) (by omega)
      have hEff := Ref.effect_any q wr hokq hdq.1 hdq.2
      obtain ⟨E, hE⟩ : ∃ E, encF q.x = E := ⟨_, rfl⟩
      have hnext : r ++ E = encI N ++ encFn ((rs.take (k + 1)).map FR.x) := by rw [← hE, HR.out, htk, encFn_snoc, List.append_assoc]
      rw [hE] at hEff hlenq
      obtain ⟨M2, hM2⟩ : ∃ M2, (r ++ E).length = M2 := ⟨_, rfl⟩
      have hM2e : M + E.length = M2 := by rw [← hM2, List.length_append, HM.out]
      have hMb2 : M ≤ 60000000000 := by have := HMB.out; have : k * 268435800 ≤ 200 * 268435800 := Nat.mul_le_mul_right _ (by omega); omega
      have HEFF := Lib.hid hEff
      have HNEXT := Lib.hid hnext
      have HM2 := Lib.hid hM2
      have HM2E := Lib.hid hM2e
      have HB2 : Hid (M2 ≤ 10 + (k + 1) * 268435800) := Lib.hid (by have := HMB.out; omega)
      have m63 : M + E.length ≤ maxLen := by unfold maxLen; omega
      have mby : (M + E.length) * 1 ≤ 140737488355328 := by omega
      have M63 := Lib.hid m63
      have MBY := Lib.hid mby
      have HYC : Hid (bcells r ++ bcells E = bcells (r ++ E)) := Lib.hid (bcells_append _ _).symm
      clear hEff hnext hM2 hM2e hlenq htk hokq hdq hE hq hkl hge hMb2 m63 mby hlt
      obtain ⟨Am, cm, Ad, cd, ⟨kind, a0, a1, a2, a3, ⟨src, dst, mk, seq, b0, b1, b2, b3, md⟩, data⟩⟩ := q
      unfold FR.cells mcells at hc HEFF
      simp only [List.cons_append, List.nil_append] at hc HEFF
      obtain ⟨X, hX⟩ : ∃ X, md.length = X := ⟨_, rfl⟩
      obtain ⟨Y, hY⟩ : ∃ Y, data.length = Y := ⟨_, rfl⟩
      rw [hX, hY] at hc HEFF
      have e0 : wr.cell? ⟨b, off + k * 15, none⟩ = some (.int .i64 kind) := by have := hc 0 _ rfl; rwa [Nat.add_zero] at this
      have e1 : wr.cell? ⟨b, off + k * 15 + 1, none⟩ = some (.int .i64 a0) := by have := hc 1 _ rfl; rwa [← Nat.add_assoc] at this
      have e2 : wr.cell? ⟨b, off + k * 15 + 2, none⟩ = some (.int .i64 a1) := by have := hc 2 _ rfl; rwa [← Nat.add_assoc] at this
      have e3 : wr.cell? ⟨b, off + k * 15 + 3, none⟩ = some (.int .i64 a2) := by have := hc 3 _ rfl; rwa [← Nat.add_assoc] at this
      have e4 : wr.cell? ⟨b, off + k * 15 + 4, none⟩ = some (.int .i64 a3) := by have := hc 4 _ rfl; rwa [← Nat.add_assoc] at this
      have e5 : wr.cell? ⟨b, off + k * 15 + 5, none⟩ = some (.int .i64 src) := by have := hc 5 _ rfl; rwa [← Nat.add_assoc] at this
      have e6 : wr.cell? ⟨b, off + k * 15 + 6, none⟩ = some (.int .i64 dst) := by have := hc 6 _ rfl; rwa [← Nat.add_assoc] at this
      have e7 : wr.cell? ⟨b, off + k * 15 + 7, none⟩ = some (.int .i64 mk) := by have := hc 7 _ rfl; rwa [← Nat.add_assoc] at this
      have e8 : wr.cell? ⟨b, off + k * 15 + 8, none⟩ = some (.int .i64 seq) := by have := hc 8 _ rfl; rwa [← Nat.add_assoc] at this
      have e9 : wr.cell? ⟨b, off + k * 15 + 9, none⟩ = some (.int .i64 b0) := by have := hc 9 _ rfl; rwa [← Nat.add_assoc] at this
      have e10 : wr.cell? ⟨b, off + k * 15 + 10, none⟩ = some (.int .i64 b1) := by have := hc 10 _ rfl; rwa [← Nat.add_assoc] at this
      have e11 : wr.cell? ⟨b, off + k * 15 + 11, none⟩ = some (.int .i64 b2) := by have := hc 11 _ rfl; rwa [← Nat.add_assoc] at this
      have e12 : wr.cell? ⟨b, off + k * 15 + 12, none⟩ = some (.int .i64 b3) := by have := hc 12 _ rfl; rwa [← Nat.add_assoc] at this
      have e13 : wr.cell? ⟨b, off + k * 15 + 13, none⟩ = some (.slice Am X cm) := by have := hc 13 _ rfl; rwa [← Nat.add_assoc] at this
      have e14 : wr.cell? ⟨b, off + k * 15 + 14, none⟩ = some (.slice Ad Y cd) := by have := hc 14 _ rfl; rwa [← Nat.add_assoc] at this
      clear hc hX hY
      go_wp2_with fail
      with_reducible refine HEFF.out.mono ?_
      clear HEFF e0 e1 e2 e3 e4 e5 e6 e7 e8 e9 e10 e11 e12 e13 e14
      rintro x w5 ⟨A5, c5, rfl, hc5, hown5, hO5⟩
      have hown := own_onlyNil HOWK.out hO5
      have HW5 := Lib.hid hown
      have HR5 := Lib.hid (Rd.of_own hown5)
      have HO5 := Lib.hid (HO.out.thenNil hO5)
      clear hown hown5 hc5 hO5
      go_wp2_with (at_builtin; go_must (refine wpList_append_rd _ rfl (.tmp 14) (.tmp 19) _ rfl w.heap.size 5 i0 (.int .u8 0) 1 1 Try.underlying22 hi0 hz0 hz1 hz2 rfl (by omega) (.slice Ak M ck) M (bcells r) rfl HW5.out w5.heap.size A5 E.length c5 (bcells E) rfl HR5.out (bcells_one E) M2 HM2E.out _ HYC.out M63.out MBY.out HO5.out.size ?_))
      intro A6 c6 w6 hc6 hown6 hgr6 hat6
      have hO6 := HO5.out.grown hgr6 (fun q hq => .inr (ownBlock_ge HW5.out hq))
      have HC6 := Lib.hid hc6
      have HW6 := Lib.hid hown6
      have HO6 := Lib.hid hO6
      clear hc6 hown6 hgr6 hat6 hO6
      go_wp2_with fail
      go_roundw
      case rel => exact ⟨k + 1, A6, c6, M2, r ++ E, by omega, by go_num, rfl, HM2.out, HB2.out, HNEXT.out, HC6.out, HW6.out, HO6.out⟩
      case measure => simp [intOf]; omega
    · have hkN : k = N := by omega
      have hki : ¬ (k : Int) < N := by omega
      have hfin : r = encFs (rs.map FR.x) := by rw [HR.out, HFS.out, hkN, List.take_of_length_le (by rw [HN.out]; exact Nat.le_refl _)]
      have HF := Lib.hid hfin
      clear hfin hkN hlt
      go_wp2_with fail
      refine bodyPost_ret (v := .slice Ak M ck) (by simp [results, Try.results46, go_sem]) rfl ?_
      exact ⟨Ak, ck, by rw [← HF.out, HM.out], by rw [← HF.out, HM.out]; exact HCK.out, by rw [← HF.out, HM.out]; exact HOWK.out, HO.out⟩

end Go.Proofs.Ytbhgaaendekghaa
