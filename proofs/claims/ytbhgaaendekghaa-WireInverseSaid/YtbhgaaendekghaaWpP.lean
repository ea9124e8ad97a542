/-
  wire's plain: the encodings of integers are appended to the slice.
  Conditions: the slice's memory is the caller's own; it has at most 2 to the power 39 bytes; at most 1000 integers.
-/
import Derived.Test.YtbhgaaendekghaaWire
import Derived.Test.YtbhgaaendekghaaInv
namespace Go.Proofs.Ytbhgaaendekghaa
open Go.RowKit

def encL (zs : List Int) : List UInt8 := zs.flatMap encI
theorem encL_len {zs : List Int} (h : ∀ z ∈ zs, -9223372036854775808 ≤ z ∧ z ≤ 9223372036854775807) : (encL zs).length ≤ 10 * zs.length := by
  unfold encL
  induction zs with
  | nil => simp
  | cons z zs ih =>
    rw [List.flatMap_cons, List.length_append, List.length_cons]
    have h1 := encI_len z (zig_lt (h z (by simp)))
    have h2 := ih fun y hy => h y (List.mem_cons_of_mem _ hy)
    omega
theorem encL_snoc (zs : List Int) (z : Int) : encL (zs ++ [z]) = encL zs ++ encI z := by
  unfold encL
  simp

set_option maxRecDepth 100000 in
set_option maxHeartbeats 1000000 in
theorem wplain_any (A : Option Addr) (c base : Nat) (l : List UInt8) (A' : Option Addr) (c' : Nat) (zs : List Int) (w : World) (hb : base ≤ w.heap.size) (hw : w.ownsRow base 5 1 (.slice A l.length c) l.length (bcells l)) (hlc : l.length ≤ c)
    (hx : ∀ w', Only (fun y => (Value.slice A l.length c).ownBlock = some y) w w' → Rd w' w.heap.size 1 A' zs.length (zs.map (Value.int .i64))) (hl : l.length ≤ 549755813888) (hzl : zs.length ≤ 1000) (hz : ∀ z ∈ zs, -9223372036854775808 ≤ z ∧ z ≤ 9223372036854775807) :
    Calls Try.prog 59 #[.slice A l.length c, .slice A' zs.length c'] w (AppPost base (.slice A l.length c) (l ++ encL zs) w) := by
  obtain ⟨V, hV⟩ : ∃ V, Value.slice A l.length c = V := ⟨_, rfl⟩
  obtain ⟨N, hN⟩ : ∃ N, zs.length = N := ⟨_, rfl⟩
  obtain ⟨P, hP⟩ : ∃ P, l.length = P := ⟨_, rfl⟩
  have hw0 := hw
  rw [hV] at hx
  rw [hN] at hx hzl
  have HX := Lib.hid hx
  have HW := Lib.hid hw0
  have HN := Lib.hid hN
  have HZ := Lib.hid hz
  have HB := Lib.hid hb
  have HL := Lib.hid hl
  have HLC := Lib.hid hlc
  have HP := Lib.hid hP
  have HV : Hid (Value.slice A P c = V) := Lib.hid (by rw [← hP]; exact hV)
  rw [hN, hP]
  clear hx hw hw0 hN hz hb hl hlc hV hP
  go_enter Try.func59, Try.ntmps59
  go_wp2_with fail
  go_loopw [9, 0] (fun i v wr => ∃ (k : Nat) (A1 : Option Addr) (c1 : Nat) (r : List UInt8), k ≤ N ∧ i = .int .i64 k ∧ v = .slice A1 r.length c1 ∧ r = l ++ encL (zs.take k) ∧ r.length ≤ c1 ∧ wr.ownsRow base 5 1 (.slice A1 r.length c1) r.length (bcells r) ∧
    (∀ q, (Value.slice A1 r.length c1).ownBlock = some q → V.ownBlock = some q ∨ w.heap.size ≤ q) ∧ Only (fun y => V.ownBlock = some y) w wr) (fun i _ _ => N - (intOf i).toNat)
  case atStart =>
    refine ⟨0, A, c, l, Nat.zero_le _, rfl, by rw [HP.out], by simp [encL], HLC.out, HW.out, fun q hq => .inl ?_, Only.refl _ _⟩
    rw [← HV.out, ← HP.out]
    exact hq
  case round =>
    obtain ⟨k, A1, c1, r, hk, rfl, rfl, hr, hrc, hown, hq, hO⟩ := hrel
    obtain ⟨R, hR⟩ : ∃ R, r.length = R := ⟨_, rfl⟩
    have hRL : R ≤ 549755813888 + 10 * k := by
      rw [← hR, hr, List.length_append]
      have h1 := encL_len (zs := zs.take k) (fun z hz => HZ.out z (List.mem_of_mem_take hz))
      rw [List.length_take] at h1
      have := HL.out
      omega
    have HI := Lib.hid (fun z (hz : -9223372036854775808 ≤ z ∧ z ≤ 9223372036854775807) => int_any A1 c1 base r z wr (Nat.le_trans HB.out hO.size) hown (by omega) hz)
    rw [hR] at HI ⊢
    have hq2 : ∀ q, (Value.slice A1 R c1).ownBlock = some q → V.ownBlock = some q ∨ w.heap.size ≤ q := by rw [← hR]; exact hq
    have HR := Lib.hid hR
    have HRE := Lib.hid hr
    have HRC := Lib.hid hrc
    have HW1 := Lib.hid hown
    have HQ := Lib.hid hq2
    have HO := Lib.hid hO
    clear hr hrc hown hq hq2 hO hR hRL
    by_cases hlt : k < N
    · obtain ⟨z, hzk⟩ : ∃ z, zs[k]? = some z := ⟨zs[k]'(by rw [HN.out]; exact hlt), List.getElem?_eq_getElem _⟩
      obtain ⟨b, off, rfl, _, hc⟩ := (HX.out wr HO.out).2 (by omega)
      have c0 : wr.cell? ⟨b, off + k, none⟩ = some (.int .i64 z) := hc k _ (by rw [List.getElem?_map, hzk]; rfl)
      have HZK := Lib.hid hzk
      have HI2 := Lib.hid (HI.out z (HZ.out z (List.mem_of_getElem? hzk)))
      have hki : (k : Int) < N := by omega
      clear hc hzk
      go_wp2_with fail
      refine HI2.out.mono ?_
      rintro e w2 ⟨A2, c2, rfl, hc2, hown2, hq2, hO2⟩
      have hr2 : r ++ encI z = l ++ encL (zs.take (k + 1)) := by
        obtain ⟨hkl, hge⟩ := List.getElem?_eq_some_iff.1 HZK.out
        rw [List.take_succ_eq_append_getElem hkl, hge, encL_snoc, ← List.append_assoc, HRE.out]
      obtain ⟨r2, hr2'⟩ : ∃ r2, r ++ encI z = r2 := ⟨_, rfl⟩
      rw [hr2'] at hr2 hc2 hown2 hq2 ⊢
      have HR2 := Lib.hid hr2
      have HC2 := Lib.hid hc2
      have HW2 := Lib.hid hown2
      have HQ2 : Hid (∀ q, (Value.slice A2 r2.length c2).ownBlock = some q → V.ownBlock = some q ∨ w.heap.size ≤ q) := Lib.hid (fun q hq => by
        rcases hq2 q hq with h1 | h1
        · exact HQ.out q h1
        · exact .inr (Nat.le_trans HO.out.size h1))
      have HO2 : Hid (Only (fun y => V.ownBlock = some y) w w2) := Lib.hid (HO.out.trans hO2 (fun x hx => HQ.out x hx))
      obtain ⟨R2, hRR⟩ : ∃ R2, r2.length = R2 := ⟨_, rfl⟩
      rw [hRR]
      have HRR := Lib.hid hRR
      clear hr2 hc2 hown2 hq2 hO2 hr2' hRR c0
      go_wp2_with fail
      go_roundw
      case rel => exact ⟨k + 1, A2, c2, r2, by omega, by go_num, by rw [HRR.out], HR2.out, HC2.out, HW2.out, HQ2.out, HO2.out⟩
      case measure => simp [intOf]; omega
    · have hkN : k = N := by omega
      subst hkN
      have hfin : r = l ++ encL zs := by
        rw [HRE.out, List.take_of_length_le (by rw [HN.out]; exact Nat.le_refl _)]
      have HF := Lib.hid hfin
      clear hfin
      go_wp2_with fail
      go_ret
      rw [← HF.out]
      exact ⟨A1, c1, by rw [HR.out]; rfl, HRC.out, HW1.out, (fun q hq => by rw [HV.out]; exact HQ.out q (by rw [← HR.out]; exact hq)), by rw [HV.out]; exact HO.out⟩

end Go.Proofs.Ytbhgaaendekghaa
