/-
  The walks of ratoonlaw01.few, joined; wire.Ints, wire.Bool.
  Conditions: the lists can be read; they are not too long.
-/
import Derived.Test.YtbhgaaendekghaaEfX
import Derived.Test.YtbhgaaendekghaaEfQ
import Derived.Test.YtbhgaaendekghaaOpen
namespace Go.Proofs.Ytbhgaaendekghaa
open Go.ChangeShapes Go.WideShapes Go.ChangeAt Go.RowKit Go.Deep

/-- Few strings of few bytes. -/
def fewS (ss : List (List UInt8)) : Bool := ss.all (fun s => decide (s.length ≤ 200)) && decide (ss.length ≤ 40)
theorem fewS_of {ss : List (List UInt8)} (h : fewS ss = true) : ss.length ≤ 40 ∧ ∀ s ∈ ss, s.length ≤ 200 := by
  unfold fewS at h
  simp only [Bool.and_eq_true, List.all_eq_true, decide_eq_true_eq] at h
  exact ⟨h.2, h.1⟩
/-- The encoding of a list of integers. -/
def encZs (zs : List Int) : List UInt8 := encI zs.length ++ encL zs
def allS (ss : List (List UInt8)) : Bool := ss.all (fun s => decide (s.length ≤ 200))

set_option maxRecDepth 100000 in
set_option maxHeartbeats 2000000 in
theorem few_any (A : Option Addr) (c : Nat) (ss : List (List UInt8)) (w : World) (hE : Rd w w.heap.size 1 A ss.length (ss.map sval)) (hl : ss.length ≤ maxLen) :
    Calls Try.prog 27 #[.slice A ss.length c] w fun e w' => e = .returned (.bool (fewS ss)) ∧ w' = w := by
  obtain ⟨N, hN⟩ : ∃ N, ss.length = N := ⟨_, rfl⟩
  obtain ⟨F, hF⟩ : ∃ F, fewS ss = F := ⟨_, rfl⟩
  have HE := Lib.hid hE
  have HF := Lib.hid hF
  have HN := Lib.hid hN
  rw [hN, hF]
  rw [hN] at hl
  unfold maxLen at hl
  clear hE hF hN
  go_enter Try.func27, Try.ntmps27
  go_wp2_with fail
  go_loopw [3] (fun i wr => ∃ k : Nat, k ≤ N ∧ i = .int .i64 k ∧ (allS (ss.drop k) && decide (N ≤ 40)) = F ∧ wr = w) (fun i _ => N - (intOf i).toNat)
  case atStart => exact ⟨0, Nat.zero_le _, rfl, by rw [List.drop_zero, ← HF.out]; unfold fewS allS; rw [HN.out], rfl⟩
  case round =>
    obtain ⟨k, hk, rfl, hst, rfl⟩ := hrel
    have HST := Lib.hid hst
    clear hst
    by_cases hlt : k < N
    · obtain ⟨q, hq⟩ : ∃ q, ss[k]? = some q := ⟨ss[k]'(by rw [HN.out]; exact hlt), List.getElem?_eq_getElem _⟩
      have hd : ss.drop k = q :: ss.drop (k + 1) := by
        obtain ⟨h1, h2⟩ := List.getElem?_eq_some_iff.1 hq
        rw [List.drop_eq_getElem_cons h1, h2]
      have hqv : (ss.map sval)[k]? = some (sval q) := by rw [List.getElem?_map, hq]; rfl
      obtain ⟨b, off, rfl, _, hc⟩ := HE.out.2 (by rw [HN.out]; omega)
      have e0 : wr.cell? ⟨b, off + k, none⟩ = some (sval q) := hc k _ hqv
      have hki : (k : Int) < N := by omega
      have hst := HST.out
      rw [hd] at hst
      unfold allS at hst
      rw [List.all_cons] at hst
      obtain ⟨S, hS⟩ : ∃ S, q.length = S := ⟨_, rfl⟩
      have hz : (⟨q.toArray⟩ : ByteArray).size = S := hS
      rw [hS] at hst
      unfold sval at e0
      have HST2 := Lib.hid hst
      clear hc hqv hd hq hlt hst hS
      by_cases h2 : S ≤ 200
      · have h2i : ¬ (200 : Int) < (S : Int) := by omega
        go_wp2_with fail
        go_roundw
        case rel => exact ⟨k + 1, by omega, by go_num, by have := HST2.out; rw [decide_eq_true h2, Bool.true_and] at this; exact this, by first | rfl | trivial⟩
        case measure => simp [intOf]; omega
      · have h2i : (200 : Int) < (S : Int) := by omega
        have hFf : F = false := by have := HST2.out; rw [decide_eq_false h2] at this; exact this.symm
        have HFF := Lib.hid hFf
        clear hFf
        go_wp2_with fail
        refine bodyPost_ret (v := .bool false) (by simp [results, Try.results27, go_sem]) rfl ?_
        exact ⟨by rw [HFF.out], rfl⟩
    · have hkN : k = N := by omega
      have hki : ¬ (k : Int) < N := by omega
      have hd : ss.drop k = [] := List.drop_eq_nil_of_le (by rw [HN.out]; omega)
      have hst := HST.out
      rw [hd] at hst
      have hF : F = decide ((N : Int) ≤ 40) := by
        rw [← hst]
        unfold allS
        rw [List.all_nil, Bool.true_and, decide_eq_decide]
        omega
      have HF2 := Lib.hid hF
      clear hd hst hF hkN hlt
      go_wp2_with fail
      refine bodyPost_ret (v := .bool (decide ((N : Int) ≤ 40))) (by simp [results, Try.results27, go_sem]) rfl ?_
      exact ⟨by rw [HF2.out], rfl⟩

set_option maxRecDepth 100000 in
set_option maxHeartbeats 2000000 in
theorem wInts_any (A : Option Addr) (c base : Nat) (l : List UInt8) (A' : Option Addr) (c' : Nat) (ss : List Int) (w : World) (hb : base ≤ w.heap.size) (hw : w.ownsRow base 5 1 (.slice A l.length c) l.length (bcells l)) (hl : l.length ≤ 1073741824)
    (hr : ∀ u, Only (fun z => base ≤ z) w u → Rd u u.heap.size 1 A' ss.length (ss.map (Value.int .i64))) (hn : ss.length ≤ 1000) (hs : ∀ z ∈ ss, -9223372036854775808 ≤ z ∧ z ≤ 9223372036854775807) :
    Calls Try.prog 29 #[.slice A l.length c, .slice A' ss.length c'] w (OutPost base (l ++ encZs ss) w) := by
  obtain ⟨N, hN⟩ : ∃ N, ss.length = N := ⟨_, rfl⟩
  have hi : Calls Try.prog 21 #[.slice A l.length c, .int .i64 N] w (OutPost base (l ++ encI N) w) := (int_any A c base l N w hb hw (by omega) (by omega)).mono fun _ _ h => h.out hw
  have hNI := encI_len (N : Int) (zig_lt (by omega))
  have HI := Lib.hid hi
  have HR := Lib.hid hr
  have HN := Lib.hid hN
  have HSS := Lib.hid hs
  have HB := Lib.hid hb
  have HL := Lib.hid hl
  have HFS : Hid (l ++ encZs ss = l ++ encI N ++ encL ss) := Lib.hid (by unfold encZs; rw [hN, List.append_assoc])
  rw [hN]
  rw [hN] at hn
  obtain ⟨L, hL⟩ : ∃ L, l.length = L := ⟨_, rfl⟩
  rw [hL] at HI HL ⊢
  obtain ⟨r0, hr0⟩ : ∃ r, l ++ encI (N : Int) = r := ⟨_, rfl⟩
  obtain ⟨M0, hM0⟩ : ∃ M, r0.length = M := ⟨_, rfl⟩
  have hM1 : M0 ≤ L + 10 := by rw [← hM0, ← hr0, List.length_append, hL]; omega
  rw [hr0] at HI
  unfold OutPost at HI
  rw [hM0] at HI
  have HM0 := Lib.hid hM0
  have HM1 := Lib.hid hM1
  have HR0 := Lib.hid hr0
  clear hi hw hr hs hb hl hN hL hr0 hM0 hM1 hNI
  go_enter Try.func29, Try.ntmps29
  go_wp2_with fail
  with_reducible refine HI.out.mono ?_
  rintro e w1 ⟨A1, c1, rfl, hc1, hown1, hO1⟩
  have HOW1 := Lib.hid hown1
  have HO1 := Lib.hid hO1
  have HC1 := Lib.hid hc1
  clear hown1 hO1 hc1
  go_wp2_with fail
  go_loopw [13, 0] (fun i v wr => ∃ (k : Nat) (Ak : Option Addr) (ck M : Nat) (r : List UInt8), k ≤ N ∧ i = .int .i64 k ∧ v = .slice Ak M ck ∧ r.length = M ∧ M ≤ L + 10 + k * 10 ∧ r = l ++ encI N ++ encL (ss.take k) ∧ M ≤ ck ∧ wr.ownsRow base 5 1 (.slice Ak M ck) M (bcells r) ∧ Only (fun z => base ≤ z) w wr) (fun i _ _ => N - (intOf i).toNat)
  case atStart => exact ⟨0, A1, c1, M0, r0, Nat.zero_le _, rfl, rfl, HM0.out, by have := HM1.out; omega, by rw [HR0.out]; simp [encL], HC1.out, HOW1.out, HO1.out⟩
  case round =>
    obtain ⟨k, Ak, ck, M, r, hk, rfl, rfl, hM, hMb, hr, hck, hownk, hO⟩ := hrel
    have HM := Lib.hid hM
    have HMB := Lib.hid hMb
    have HRE := Lib.hid hr
    have HCK := Lib.hid hck
    have HOWK := Lib.hid hownk
    have HO := Lib.hid hO
    clear hM hMb hr hck hownk hO
    by_cases hlt : k < N
    · obtain ⟨q, hq⟩ : ∃ q, ss[k]? = some q := ⟨ss[k]'(by rw [HN.out]; exact hlt), List.getElem?_eq_getElem _⟩
      obtain ⟨hkl, hge⟩ := List.getElem?_eq_some_iff.1 hq
      have htk : ss.take (k + 1) = ss.take k ++ [q] := by rw [List.take_succ_eq_append_getElem hkl, hge]
      have hqs := HSS.out q (List.mem_of_getElem? hq)
      have hqv : (ss.map (Value.int .i64))[k]? = some (Value.int .i64 q) := by rw [List.getElem?_map, hq]; rfl
      obtain ⟨b, off, rfl, _, hc⟩ := (HR.out wr HO.out).2 (by rw [HN.out]; omega)
      have e0 : wr.cell? ⟨b, off + k, none⟩ = some (Value.int .i64 q) := hc k _ hqv
      have hki : (k : Int) < N := by omega
      have hMb2 : M ≤ 1099511627776 := by have := HMB.out; have := HL.out; omega
      have hcall : Calls Try.prog 21 #[.slice Ak M ck, .int .i64 q] wr (OutPost base (r ++ encI q) wr) := by
        have h1 := HOWK.out
        have h2 := (int_any Ak ck base r q wr (Nat.le_trans HB.out HO.out.size) (by rw [HM.out]; exact h1) (by rw [HM.out]; exact hMb2) hqs).mono fun _ _ h => h.out (by rw [HM.out]; exact h1)
        rwa [HM.out] at h2
      have hlen := encI_len q (zig_lt hqs)
      unfold OutPost at hcall
      obtain ⟨M2, hM2⟩ : ∃ M, (r ++ encI q).length = M := ⟨_, rfl⟩
      have hM3 : M2 ≤ M + 10 := by rw [← hM2, List.length_append, HM.out]; omega
      rw [hM2] at hcall
      have HCALL := Lib.hid hcall
      have HM2 := Lib.hid hM2
      have HM3 := Lib.hid hM3
      have HNX : Hid (r ++ encI q = l ++ encI N ++ encL (ss.take (k + 1))) := Lib.hid (by rw [htk, encL_snoc, HRE.out, List.append_assoc])
      clear hcall hlen hM2 hM3 hc hqv hq hkl hge htk hqs hMb2 hlt
      go_wp2_with fail
      with_reducible refine HCALL.out.mono ?_
      clear HCALL e0
      rintro e w5 ⟨A5, c5, rfl, hc5, hown5, hO5⟩
      have HC5 := Lib.hid hc5
      have HW5 := Lib.hid hown5
      have HO5 := Lib.hid (HO.out.then_ hO5)
      clear hc5 hown5 hO5
      go_wp2_with fail
      go_roundw
      case rel => exact ⟨k + 1, A5, c5, M2, r ++ encI q, by omega, by go_num, rfl, HM2.out, by have := HMB.out; have := HM3.out; omega, HNX.out, HC5.out, HW5.out, HO5.out⟩
      case measure => simp [intOf]; omega
    · have hkN : k = N := by omega
      have hki : ¬ (k : Int) < N := by omega
      have hfin : r = l ++ encZs ss := by rw [HRE.out, HFS.out, hkN, List.take_of_length_le (by rw [HN.out]; exact Nat.le_refl _)]
      have HF := Lib.hid hfin
      clear hfin hkN hlt
      go_wp2_with fail
      refine bodyPost_ret (v := .slice Ak M ck) (by simp [results, Try.results29, go_sem]) rfl ?_
      exact ⟨Ak, ck, by rw [← HF.out, HM.out], by rw [← HF.out, HM.out]; exact HCK.out, by rw [← HF.out, HM.out]; exact HOWK.out, HO.out⟩


/-- The byte of a Boolean value. -/
def encBo (v : Bool) : List UInt8 := [if v then 1 else 0]
set_option maxRecDepth 100000 in
theorem wBool_any (A : Option Addr) (c base : Nat) (l : List UInt8) (v : Bool) (w : World) (hb : base ≤ w.heap.size) (hw : w.ownsRow base 5 1 (.slice A l.length c) l.length (bcells l)) (hl : l.length ≤ 1099511627776) :
    Calls Try.prog 30 #[.slice A l.length c, .bool v] w (OutPost base (l ++ encBo v) w) := by
  obtain ⟨i0, hi0, hz0, hz1, hz2⟩ := info_parts byte_info
  have HW := Lib.hid hw
  have HL := Lib.hid hl
  have HB := Lib.hid hb
  have HCA : Hid (∀ b : UInt8, bcells l ++ [.int .u8 b.toNat] = bcells (l ++ [b])) := Lib.hid (fun b => by rw [bcells_append]; rfl)
  have HLA : Hid (∀ b : UInt8, (l ++ [b]).length = l.length + 1) := Lib.hid (fun b => by simp)
  clear hw hl hb
  go_enter Try.func30, Try.ntmps30
  cases v
  · go_wp2_with (at_builtin; go_must (refine wpList_append_rd _ rfl (.tmp 9) (.tmp 10) _ rfl base 5 i0 (.int .u8 0) 1 1 Try.underlying22 hi0 hz0 hz1 hz2 rfl (by omega) (.slice A l.length c) l.length (bcells l) rfl ?qown (w.heap.size + 1) (some ⟨w.heap.size, 0, none⟩) 1 1 [.int .u8 0] rfl ?qrd (one_cell1 rfl) (l.length + 1) rfl _ (HCA.out 0) ?q63 ?qby ?qbase ?_))
    case qown => exact own_onlyNil HW.out ((Only.refl _ _).alloc _)
    case qrd => exact Rd.blk (Blk.new _ _ _) rfl
    case q63 => have := HL.out; unfold maxLen; omega
    case qby => have := HL.out; omega
    case qbase => exact Nat.le_trans HB.out ((Only.refl Nil w).alloc _).size
    intro A4 c4 w4 hc4 hown4 hgr4 hat4
    have hO4 : Only (fun z => base ≤ z) w w4 := ((Only.refl _ _).alloc _).then_ ((Only.of_grown hgr4).more (fun x hx => ownBlock_ge HW.out hx))
    have HF : Hid (OutPost base (l ++ encBo false) w (.returned (.slice A4 (l.length + 1) c4)) w4) := Lib.hid ⟨A4, c4, by unfold encBo; rw [HLA.out], by unfold encBo; rw [HLA.out]; exact hc4, by unfold encBo; rw [HLA.out]; exact hown4, hO4⟩
    clear hO4 hown4 hgr4 hat4 hc4
    go_wp2_with fail
    go_ret
    exact HF.out
  · go_wp2_with (at_builtin; go_must (refine wpList_append_rd _ rfl (.tmp 6) (.tmp 7) _ rfl base 5 i0 (.int .u8 0) 1 1 Try.underlying22 hi0 hz0 hz1 hz2 rfl (by omega) (.slice A l.length c) l.length (bcells l) rfl ?qown (w.heap.size + 1) (some ⟨w.heap.size, 0, none⟩) 1 1 [.int .u8 1] rfl ?qrd (one_cell1 rfl) (l.length + 1) rfl _ (HCA.out 1) ?q63 ?qby ?qbase ?_))
    case qown => exact own_onlyNil HW.out ((Only.refl _ _).alloc _)
    case qrd => exact Rd.blk (Blk.new _ _ _) rfl
    case q63 => have := HL.out; unfold maxLen; omega
    case qby => have := HL.out; omega
    case qbase => exact Nat.le_trans HB.out ((Only.refl Nil w).alloc _).size
    intro A4 c4 w4 hc4 hown4 hgr4 hat4
    have hO4 : Only (fun z => base ≤ z) w w4 := ((Only.refl _ _).alloc _).then_ ((Only.of_grown hgr4).more (fun x hx => ownBlock_ge HW.out hx))
    have HF : Hid (OutPost base (l ++ encBo true) w (.returned (.slice A4 (l.length + 1) c4)) w4) := Lib.hid ⟨A4, c4, by unfold encBo; rw [HLA.out], by unfold encBo; rw [HLA.out]; exact hc4, by unfold encBo; rw [HLA.out]; exact hown4, hO4⟩
    clear hO4 hown4 hgr4 hat4 hc4
    go_wp2_with fail
    go_ret
    exact HF.out

set_option maxRecDepth 100000 in
theorem joined_any (A : Option Addr) (ca : Nat) (a : List UInt8) (B : Option Addr) (cb : Nat) (b : List UInt8) (w : World) (ha : Bs w w.heap.size A a) (hb : Bs w w.heap.size B b) (hal : a.length ≤ 1073741824) (hbl : b.length ≤ 1073741824) :
    Calls Try.prog 33 #[.slice A a.length ca, .slice B b.length cb] w (BytesPost Nil (a ++ b) w) := by
  obtain ⟨i0, hi0, hz0, hz1, hz2⟩ := info_parts byte_info
  have HA := Lib.hid ha
  have HB := Lib.hid hb
  have HCA : Hid (bcells a ++ bcells b = bcells (a ++ b)) := Lib.hid (bcells_append _ _).symm
  have HLA : Hid (a.length + b.length = (a ++ b).length) := Lib.hid (List.length_append).symm
  obtain ⟨X, hX⟩ : ∃ X, a ++ b = X := ⟨_, rfl⟩
  rw [hX] at HCA HLA ⊢
  obtain ⟨La, hLa⟩ : ∃ X, a.length = X := ⟨_, rfl⟩
  obtain ⟨Lb, hLb⟩ : ∃ X, b.length = X := ⟨_, rfl⟩
  rw [hLa] at HLA hal ⊢
  rw [hLb] at HLA hbl ⊢
  have H1 := Lib.hid hLa
  have H2 := Lib.hid hLb
  clear ha hb hX hLa hLb
  go_enter Try.func33, Try.ntmps33
  go_wp2_with (at_builtin; go_must (refine wpList_append_rd _ rfl (.tmp 5) (.tmp 6) _ rfl w.heap.size 5 i0 (.int .u8 0) 1 1 Try.underlying22 hi0 hz0 hz1 hz2 rfl (by omega) (.slice (some ⟨w.heap.size, 0, none⟩) 0 0) 0 [] rfl ?qown w.heap.size A La ca (bcells a) rfl ?qrd (bcells_one a) La (by omega) _ rfl ?q63 ?qby ?qbase ?_))
  case qown => exact World.ownsRow_lit w #[] 0 (Nat.le_refl _) (by unfold maxLen; omega) rfl
  case qrd => have := Rd.onlyNil HA.out ((Only.refl Nil w).alloc (.cells #[] 5)) (Nat.le_refl _); rw [H1.out] at this; exact this
  case q63 => unfold maxLen; omega
  case qby => omega
  case qbase => simp
  intro A4 c4 w4 hc4 hown4 hgr4 hat4
  have hO4 : Only Nil w w4 := ((Only.refl _ _).alloc _).grown hgr4 (fun q hq => .inr (Nat.le_of_eq (by simpa [Value.ownBlock] using hq)))
  have HO4 := Lib.hid hO4
  have HW4 := Lib.hid hown4
  clear hO4 hown4 hgr4 hat4 hc4
  go_wp2_with (at_builtin; go_must (refine wpList_append_rd _ rfl (.tmp 7) (.tmp 8) _ rfl w.heap.size 5 i0 (.int .u8 0) 1 1 Try.underlying22 hi0 hz0 hz1 hz2 rfl (by omega) (.slice A4 La c4) La (bcells a) rfl ?qown2 w.heap.size B Lb cb (bcells b) rfl ?qrd2 (bcells_one b) X.length HLA.out _ HCA.out ?q632 ?qby2 ?qbase2 ?_))
  case qown2 => simpa using HW4.out
  case qrd2 => have := Rd.onlyNil HB.out HO4.out (Nat.le_refl _); rw [H2.out] at this; exact this
  case q632 => unfold maxLen; omega
  case qby2 => omega
  case qbase2 => exact HO4.out.size
  intro A5 c5 w5 hc5 hown5 hgr5 hat5
  have hO5 : Only Nil w w5 := HO4.out.grown hgr5 (fun q hq => .inr (ownBlock_ge (by simpa using HW4.out) hq))
  have HF : Hid (BytesPost Nil X w (.returned (.slice A5 X.length c5)) w5) := Lib.hid ⟨A5, c5, rfl, hc5, hown5, hO5⟩
  clear hO5 hown5 hgr5 hat5 hc5
  go_wp2_with fail
  go_ret
  exact HF.out

end Go.Proofs.Ytbhgaaendekghaa
