/-
  The walk of wire.Strings.
  Conditions: the strings can be read; there are at most 1000 with at most 2000 bytes each.
-/
import Derived.Test.YtbhgaaendekghaaEfU
namespace Go.Proofs.Ytbhgaaendekghaa
open Go.RowKit

set_option maxRecDepth 100000 in
set_option maxHeartbeats 2000000 in
theorem wStrings_any (A : Option Addr) (c base : Nat) (l : List UInt8) (A' : Option Addr) (c' : Nat) (ss : List (List UInt8)) (w : World) (hb : base ≤ w.heap.size) (hw : w.ownsRow base 5 1 (.slice A l.length c) l.length (bcells l)) (hl : l.length ≤ 1073741824)
    (hr : ∀ u, Only (fun z => base ≤ z) w u → Rd u u.heap.size 1 A' ss.length (ss.map sval)) (hn : ss.length ≤ 1000) (hs : ∀ s ∈ ss, s.length ≤ 2000) :
    Calls Try.prog 28 #[.slice A l.length c, .slice A' ss.length c'] w (OutPost base (l ++ encSs ss) w) := by
  obtain ⟨N, hN⟩ : ∃ N, ss.length = N := ⟨_, rfl⟩
  have hi : Calls Try.prog 21 #[.slice A l.length c, .int .i64 N] w (OutPost base (l ++ encI N) w) := (int_any A c base l N w hb hw (by omega) (by omega)).mono fun _ _ h => h.out hw
  have hNI := encI_len (N : Int) (zig_lt (by omega))
  have HI := Lib.hid hi
  have HR := Lib.hid hr
  have HN := Lib.hid hN
  have HSS := Lib.hid hs
  have HB := Lib.hid hb
  have HL := Lib.hid hl
  have HFS : Hid (l ++ encSs ss = l ++ encI N ++ encSn ss) := Lib.hid (by unfold encSs; rw [hN, List.append_assoc])
  rw [hN]
  rw [hN] at hn
  obtain ⟨L, hL⟩ : ∃ L, l.length = L := ⟨_, rfl⟩
  rw [hL] at HI HL ⊢
  obtain ⟨r0, hr0⟩ : ∃ r, l ++ encI (N : Int) = r := ⟨_, rfl⟩
  obtain ⟨M0, hM0⟩ : ∃ M, r0.length = M := ⟨_, rfl⟩
  have hM1 : M0 ≤ L + 10 := by rw [← hM0, ← hr0, List.length_append, hL]; omega
  rw [hr0] at HI
  unfold OutPost at HI
  rw [hM0] at HI
  have HM0 := Lib.hid hM0
  have HM1 := Lib.hid hM1
  have HR0 := Lib.hid hr0
  clear hi hw hr hs hb hl hN hL hr0 hM0 hM1 hNI
  go_enter Try.func28, Try.ntmps28
  go_wp2_with fail
  with_reducible refine HI.out.mono ?_
  rintro e w1 ⟨A1, c1, rfl, hc1, hown1, hO1⟩
  have HOW1 := Lib.hid hown1
  have HO1 := Lib.hid hO1
  have HC1 := Lib.hid hc1
  clear hown1 hO1 hc1
  go_wp2_with fail
  go_loopw [13, 0] (fun i v wr => ∃ (k : Nat) (Ak : Option Addr) (ck M : Nat) (r : List UInt8), k ≤ N ∧ i = .int .i64 k ∧ v = .slice Ak M ck ∧ r.length = M ∧ M ≤ L + 10 + k * 2010 ∧ r = l ++ encI N ++ encSn (ss.take k) ∧ M ≤ ck ∧ wr.ownsRow base 5 1 (.slice Ak M ck) M (bcells r) ∧ Only (fun z => base ≤ z) w wr) (fun i _ _ => N - (intOf i).toNat)
  case atStart => exact ⟨0, A1, c1, M0, r0, Nat.zero_le _, rfl, rfl, HM0.out, by have := HM1.out; omega, by rw [HR0.out]; simp [encSn], HC1.out, HOW1.out, HO1.out⟩
  case round =>
    obtain ⟨k, Ak, ck, M, r, hk, rfl, rfl, hM, hMb, hr, hck, hownk, hO⟩ := hrel
    have HM := Lib.hid hM
    have HMB := Lib.hid hMb
    have HRE := Lib.hid hr
    have HCK := Lib.hid hck
    have HOWK := Lib.hid hownk
    have HO := Lib.hid hO
    clear hM hMb hr hck hownk hO
    by_cases hlt : k < N
    · obtain ⟨q, hq⟩ : ∃ q, ss[k]? = some q := ⟨ss[k]'(by rw [HN.out]; exact hlt), List.getElem?_eq_getElem _⟩
      obtain ⟨hkl, hge⟩ := List.getElem?_eq_some_iff.1 hq
      have htk : ss.take (k + 1) = ss.take k ++ [q] := by rw [List.take_succ_eq_append_getElem hkl, hge]
      have hqs := HSS.out q (List.mem_of_getElem? hq)
      have hqv : (ss.map sval)[k]? = some (sval q) := by rw [List.getElem?_map, hq]; rfl
      obtain ⟨b, off, rfl, _, hc⟩ := (HR.out wr HO.out).2 (by rw [HN.out]; omega)
      have e0 : wr.cell? ⟨b, off + k, none⟩ = some (sval q) := hc k _ hqv
      have hki : (k : Int) < N := by omega
      have hMb2 : M ≤ 1099511627776 := by have := HMB.out; have := HL.out; omega
      have hcall := wString_any Ak ck base r q wr (Nat.le_trans HB.out HO.out.size) (by rw [HM.out]; exact HOWK.out) (by rw [HM.out]; exact hMb2) (by omega)
      rw [HM.out] at hcall
      have hlen : (encS q).length ≤ 2010 := by
        unfold encS
        rw [List.length_append]
        have := encI_len (q.length : Int) (zig_lt (by omega))
        omega
      unfold OutPost at hcall
      obtain ⟨M2, hM2⟩ : ∃ M, (r ++ encS q).length = M := ⟨_, rfl⟩
      have hM3 : M2 ≤ M + 2010 := by rw [← hM2, List.length_append, HM.out]; omega
      rw [hM2] at hcall
      have HCALL := Lib.hid hcall
      have HM2 := Lib.hid hM2
      have HM3 := Lib.hid hM3
      have HNX : Hid (r ++ encS q = l ++ encI N ++ encSn (ss.take (k + 1))) := Lib.hid (by rw [htk, encSn_snoc, HRE.out, List.append_assoc])
      clear hcall hlen hM2 hM3 hc hqv hq hkl hge htk hqs hMb2 hlt
      unfold sval at e0 HCALL
      go_wp2_with fail
      with_reducible refine HCALL.out.mono ?_
      clear HCALL e0
      rintro e w5 ⟨A5, c5, rfl, hc5, hown5, hO5⟩
      have HC5 := Lib.hid hc5
      have HW5 := Lib.hid hown5
      have HO5 := Lib.hid (HO.out.then_ hO5)
      clear hc5 hown5 hO5
      go_wp2_with fail
      go_roundw
      case rel => exact ⟨k + 1, A5, c5, M2, r ++ encS q, by omega, by go_num, rfl, HM2.out, by have := HMB.out; have := HM3.out; omega, HNX.out, HC5.out, HW5.out, HO5.out⟩
      case measure => simp [intOf]; omega
    · have hkN : k = N := by omega
      have hki : ¬ (k : Int) < N := by omega
      have hfin : r = l ++ encSs ss := by rw [HRE.out, HFS.out, hkN, List.take_of_length_le (by rw [HN.out]; exact Nat.le_refl _)]
      have HF := Lib.hid hfin
      clear hfin hkN hlt
      go_wp2_with fail
      refine bodyPost_ret (v := .slice Ak M ck) (by simp [results, Try.results28, go_sem]) rfl ?_
      exact ⟨Ak, ck, by rw [← HF.out, HM.out], by rw [← HF.out, HM.out]; exact HCK.out, by rw [← HF.out, HM.out]; exact HOWK.out, HO.out⟩

end Go.Proofs.Ytbhgaaendekghaa
