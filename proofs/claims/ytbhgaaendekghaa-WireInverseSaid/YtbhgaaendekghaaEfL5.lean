/-
  The law WireInverse: integers, Boolean values, strings and lists are read again, whatever follows.
  No conditions.
-/
import Derived.Test.YtbhgaaendekghaaEfN
import Derived.Test.YtbhgaaendekghaaEfZ
import Derived.Test.YtbhgaaendekghaaEfB
import Derived.Test.YtbhgaaendekghaaWmBounded
import Derived.Test.YtbhgaaendekghaaIn3
import Derived.Test.YtbhgaaendekghaaWnL
import Derived.Deep.RegionHeld3
import Derived.Laws.Externs
namespace Go.Proofs.Ytbhgaaendekghaa
open Go.ChangeShapes Go.WideShapes Go.ChangeAt Go.RowKit Go.Deep

set_option maxRecDepth 100000 in
/-- Bytes as an argument. -/
theorem open_barg {H : Type} {enc : TypeId × Value → H} {W : World} {v : Value} {d : DataW H} {p : List MemPlace} {base : Nat}
    (hv : Value.okWide Try.prog W .any base 22 v) (h : DataW.Trod enc Try.prog W 0 (fun _ => true) true 22 v d p) :
    ∃ (A : Option Addr) (l : List UInt8) (c : Nat), v = .slice A l.length c ∧ l.length ≤ c ∧ c ≤ maxLen ∧ Bs W W.heap.size A l := by
  obtain ⟨a0, len, cap, rfl⟩ := okWide_slice Try.underlying22 hv
  obtain ⟨fuel, hf⟩ := h
  have hf' : DataW.trod enc Try.prog W 0 (fun _ => true) true fuel 22 [.slice a0 len cap] = some (d, p) := hf
  obtain ⟨A, l, c, h1, h2, h3, h4, _⟩ := open_bytes Try.underlying22 Try.underlying5 (by kernel_rfl) hf'
  exact ⟨A, l, c, h1, h2, h3, h4⟩
/-- A row's cell, in every world that keeps what is older than base. -/
theorem row_cell {A : Option Addr} {n bs : Nat} {xs : List Value} {w : World} (h : Rd w bs 1 A n xs) {k : Nat} {v : Value} (hk : xs[k]? = some v) :
    ∃ b off, A = some ⟨b, off, none⟩ ∧ ∀ u, Only (fun z => bs ≤ z) w u → u.cell? ⟨b, off + k, none⟩ = some v := by
  have hn : 0 < n := by
    have h1 := (List.getElem?_eq_some_iff.1 hk).1
    rw [h.1] at h1
    omega
  obtain ⟨b, off, h1, h2, h3⟩ := h.2 hn
  have h4 := h3 k v hk
  exact ⟨b, off, h1, fun u hu => (hu.cell (lt_of_cell h4) (fun (hx : bs ≤ b) => absurd h2 (Nat.not_lt.2 hx))).trans h4⟩

theorem encS_mem {ss : List (List UInt8)} {s : List UInt8} (h : s ∈ ss) : (encS s).length ≤ (ss.flatMap encS).length := by
  induction ss with
  | nil => cases h
  | cons x ss ih =>
    rw [List.flatMap_cons, List.length_append]
    rcases List.mem_cons.1 h with rfl | h
    · omega
    · have := ih h; omega

namespace wireInverse
set_option maxRecDepth 100000 in
set_option maxHeartbeats 8000000 in
theorem walk (A : Option Addr) (ca : Nat) (zs : List Int) (B : Option Addr) (cb : Nat) (ss : List (List UInt8)) (C : Option Addr) (cc : Nat) (rb : List UInt8) (w : World) (ha : Rd w w.heap.size 1 A zs.length (zs.map (Value.int .i64))) (hz : ∀ z ∈ zs, -9223372036854775808 ≤ z ∧ z ≤ 9223372036854775807) (hb : Rd w w.heap.size 1 B ss.length (ss.map sval)) (hbl : ss.length ≤ maxLen) (hc : Bs w w.heap.size C rb) :
    Calls Try.prog 5 #[.slice A zs.length ca, .slice B ss.length cb, .slice C rb.length cc] w (LawPost w) := by
  obtain ⟨N, hN⟩ : ∃ N, zs.length = N := ⟨_, rfl⟩
  obtain ⟨M, hM⟩ : ∃ N, ss.length = N := ⟨_, rfl⟩
  obtain ⟨R, hR⟩ : ∃ N, rb.length = N := ⟨_, rfl⟩
  have HA := Lib.hid ha
  have HB := Lib.hid hb
  have HC := Lib.hid hc
  have HZ := Lib.hid hz
  have HN := Lib.hid hN
  have HM := Lib.hid hM
  have HR := Lib.hid hR
  have HBL := Lib.hid hbl
  rw [hN, hM, hR]
  clear ha hb hc hz hN hM hR hbl
  go_enter Try.func5, Try.ntmps5
  go_wp2_with fail
  refine (awake_any _).mono ?_
  rintro x w1 ⟨rfl, hO1⟩
  have HO1 := Lib.hid hO1
  clear hO1
  by_cases h60 : N ≤ 60
  rotate_left
  · have hb2 : (60 : Int) < (N : Int) := by omega
    clear h60
    go_wp2_with fail
    refine bodyPost_ret (v := .bool true) (by simp [results, Try.results5, go_sem]) rfl ?_
    exact ⟨rfl, HO1.out⟩
  have hb2 : ¬ (60 : Int) < (N : Int) := by omega
  have hfew := few_any B cb ss w1 (Rd.more (Rd.onlyNil HB.out HO1.out (Nat.le_refl _)) HO1.out.size) HBL.out
  rw [HM.out] at hfew
  obtain ⟨F, hF⟩ : ∃ F, fewS ss = F := ⟨_, rfl⟩
  rw [hF] at hfew
  have HFEW := Lib.hid hfew
  have HF := Lib.hid hF
  clear hfew hF
  go_wp2_with fail
  with_reducible refine HFEW.out.mono ?_
  rintro x w2 ⟨rfl, rfl⟩
  cases F
  · go_wp2_with fail
    refine bodyPost_ret (v := .bool true) (by simp [results, Try.results5, go_sem]) rfl ?_
    exact ⟨rfl, HO1.out⟩
  by_cases h300 : R ≤ 300
  rotate_left
  · have hb3 : (300 : Int) < (R : Int) := by omega
    clear h300
    go_wp2_with fail
    refine bodyPost_ret (v := .bool true) (by simp [results, Try.results5, go_sem]) rfl ?_
    exact ⟨rfl, HO1.out⟩
  have hb3 : ¬ (300 : Int) < (R : Int) := by omega
  -- sizes and rows
  obtain ⟨hM40, hs200⟩ := fewS_of HF.out
  rw [HM.out] at hM40
  obtain ⟨bs, hbs⟩ : ∃ b, w2.heap.size = b := ⟨_, rfl⟩
  have hbw : w.heap.size ≤ bs := by rw [← hbs]; exact HO1.out.size
  have hra : Rd w2 bs 1 A N (zs.map (Value.int .i64)) := by rw [← hbs, ← HN.out]; exact Rd.more (Rd.onlyNil HA.out HO1.out (Nat.le_refl _)) HO1.out.size
  have hrb : Rd w2 bs 1 B M (ss.map sval) := by rw [← hbs, ← HM.out]; exact Rd.more (Rd.onlyNil HB.out HO1.out (Nat.le_refl _)) HO1.out.size
  have hrc : Bs w2 bs C rb := by rw [← hbs]; exact (HC.out.onlyNil HO1.out (Nat.le_refl _)).up HO1.out.size
  have hnil : ∀ u, Only (fun z => bs ≤ z) w2 u → Only Nil w2 u := fun u hu => hu.less (fun x hx => .inr (by rw [hbs]; exact hx))
  have HNIL := Lib.hid hnil
  have HRA : Hid (∀ u, Only (fun z => bs ≤ z) w2 u → Rd u u.heap.size 1 A N (zs.map (Value.int .i64))) := Lib.hid (fun u hu => Rd.more (Rd.onlyNil hra (hnil u hu) (by rw [hbs]; exact Nat.le_refl _)) (by rw [← hbs]; exact hu.size))
  have HRB : Hid (∀ u, Only (fun z => bs ≤ z) w2 u → Rd u u.heap.size 1 B M (ss.map sval)) := Lib.hid (fun u hu => Rd.more (Rd.onlyNil hrb (hnil u hu) (by rw [hbs]; exact Nat.le_refl _)) (by rw [← hbs]; exact hu.size))
  have HRC : Hid (∀ u, Only (fun z => bs ≤ z) w2 u → Bs u u.heap.size C rb) := Lib.hid (fun u hu => (hrc.onlyNil (hnil u hu) (by rw [hbs]; exact Nat.le_refl _)).up (by rw [← hbs]; exact hu.size))
  have HCA := Lib.hid (fun (k : Nat) (z : Int) (hk : zs[k]? = some z) => row_cell (bs := bs) hra (k := k) (v := .int .i64 z) (by rw [List.getElem?_map, hk]; rfl))
  have HCB := Lib.hid (fun (k : Nat) (s : List UInt8) (hk : ss[k]? = some s) => row_cell (bs := bs) hrb (k := k) (v := sval s) (by rw [List.getElem?_map, hk]; rfl))
  have HS200 := Lib.hid hs200
  have HM40 := Lib.hid hM40
  have HBS := Lib.hid hbs
  obtain ⟨r0, hr0⟩ : ∃ r, encZs zs ++ encSs ss = r := ⟨_, rfl⟩
  have lz : (encZs zs).length ≤ 700 := by
    unfold encZs
    have h1 := encL_len HZ.out
    have h2 := encI_len (zs.length : Int) (zig_lt (by have := HN.out; omega))
    rw [List.length_append]
    have := HN.out
    omega
  have ls : (encSs ss).length ≤ 8500 := by
    unfold encSs
    have h1 := encSn_len hs200
    have h2 := encI_len (ss.length : Int) (zig_lt (by have := HM.out; omega))
    rw [List.length_append]
    have := HM.out
    omega
  have lr0 : r0.length ≤ 9200 := by rw [← hr0, List.length_append]; omega
  have lp : ∀ k, (r0 ++ encP (zs.take k)).length ≤ 10000 := fun k => by
    have h1 := encP_len (zs := zs.take k) (fun z hz => HZ.out z (List.mem_of_mem_take hz))
    have h2 : (zs.take k).length ≤ 60 := by rw [List.length_take]; have := HN.out; omega
    rw [List.length_append]
    omega
  have lp0 := lp N
  rw [← HN.out, List.take_length] at lp0
  have lq : ∀ k, (r0 ++ encP zs ++ encQ (ss.take k)).length ≤ 30000 := fun k => by
    have h1 := encQ_len (ss := ss.take k) (fun s hs => hs200 s (List.mem_of_mem_take hs))
    have h2 : (ss.take k).length ≤ 40 := by rw [List.length_take]; have := HM.out; omega
    rw [List.length_append]
    omega
  have LP := Lib.hid lp
  have LQ := Lib.hid lq
  have LZ := Lib.hid lz
  have hwi := wInts_any none 0 bs [] A ca zs w2 (by rw [hbs]; exact Nat.le_refl _) (World.ownsRow_nil _ _ _ _) (by simp) (fun u hu => by rw [HN.out]; exact HRA.out u hu) (by rw [HN.out]; omega) HZ.out
  rw [List.nil_append, List.length_nil, HN.out] at hwi
  have hws : ∀ (u : World) (A2 : Option Addr) (c2 : Nat), Only (fun z => bs ≤ z) w2 u → u.ownsRow bs 5 1 (.slice A2 (encZs zs).length c2) (encZs zs).length (bcells (encZs zs)) → Calls Try.prog 28 #[.slice A2 (encZs zs).length c2, .slice B M cb] u (OutPost bs r0 u) := fun u A2 c2 hu ho => by
    have := wStrings_any A2 c2 bs (encZs zs) B cb ss u (by rw [← hbs]; exact hu.size) ho (by omega) (fun v hv => by rw [HM.out]; exact HRB.out v (hu.then_ hv)) (by rw [HM.out]; omega) (fun s hs => by have := hs200 s hs; omega)
    rwa [HM.out, hr0] at this
  have HWI := Lib.hid hwi
  have HWS := Lib.hid hws
  have HR0 := Lib.hid hr0
  clear hM40 hs200 hbs hbw hra hrb hrc hnil hr0 lz ls lr0 lp lp0 lq hwi hws h60 h300 HFEW HF
  go_wp2_with fail
  with_reducible refine HWI.out.mono ?_
  clear HWI
  rintro x w3 ⟨A3, c3, rfl, _, hown3, hO3⟩
  have HWS3 := Lib.hid (HWS.out w3 A3 c3 hO3 hown3)
  have HO3 := Lib.hid hO3
  clear hown3 hO3 HWS
  go_wp2_with fail
  with_reducible refine HWS3.out.mono ?_
  clear HWS3
  rintro x w4 ⟨A4, c4, rfl, hc4, hown4, hO4⟩
  have HC4 := Lib.hid hc4
  have HW4 := Lib.hid hown4
  have HO4 := Lib.hid (HO3.out.then_ hO4)
  clear hc4 hown4 hO4
  have LR0 := Lib.hid (show r0.length ≤ 10000 by have := LP.out 0; rw [List.length_append] at this; omega)
  obtain ⟨L0, hL0⟩ : ∃ n, r0.length = n := ⟨_, rfl⟩
  have HL0 := Lib.hid hL0
  rw [hL0] at HC4 HW4 ⊢
  clear hL0
  go_wp2_with fail
  go_loopw [7, 8] (fun v i wr => ∃ (k : Nat) (Ak : Option Addr) (ck Q : Nat) (r : List UInt8), k ≤ N ∧ i = .int .i64 k ∧ v = .slice Ak Q ck ∧ r.length = Q ∧ r = r0 ++ encP (zs.take k) ∧ Q ≤ ck ∧ wr.ownsRow bs 5 1 (.slice Ak Q ck) Q (bcells r) ∧ Only (fun z => bs ≤ z) w2 wr) (fun _ i _ => N - (intOf i).toNat)
  case atStart => exact ⟨0, A4, c4, L0, r0, Nat.zero_le _, rfl, rfl, HL0.out, by simp [encP], HC4.out, HW4.out, HO4.out⟩
  case round =>
    obtain ⟨k, Ak, ck, Q, r, hk, rfl, rfl, hQ, hr, hck, hownk, hO⟩ := hrel
    have HQ := Lib.hid hQ
    have HRE := Lib.hid hr
    have HCK := Lib.hid hck
    have HOWK := Lib.hid hownk
    have HO := Lib.hid hO
    have HQB : Hid (Q ≤ 10000) := Lib.hid (by rw [← hQ, hr]; exact LP.out k)
    clear hQ hr hck hownk hO
    by_cases hlt : k < N
    · obtain ⟨z, hz⟩ : ∃ q, zs[k]? = some q := ⟨zs[k]'(by rw [HN.out]; exact hlt), List.getElem?_eq_getElem _⟩
      obtain ⟨b, off, rfl, hcl⟩ := HCA.out k z hz
      have hzr := HZ.out z (List.mem_of_getElem? hz)
      have hki : (k : Int) < N := by omega
      have HCL := Lib.hid hcl
      have kd := HCL.out wr.drew (HO.out.drew)
      have HNX : Hid (r ++ encI z ++ encBo (decide (z < 0)) = r0 ++ encP (zs.take (k + 1))) := Lib.hid (by rw [take_next hz, encP_snoc, HRE.out]; simp only [List.append_assoc])
      have hei := encI_len z (zig_lt hzr)
      have CI : Hid (∀ u, Only Nil wr u → Calls Try.prog 21 #[.slice Ak Q ck, .int .i64 z] u (OutPost bs (r ++ encI z) u)) := Lib.hid (fun u hu => by
        have h1 := own_onlyNil HOWK.out hu
        have h2 := (int_any Ak ck bs r z u (by rw [← HBS.out]; exact (HO.out.thenNil hu).size) (by rw [HQ.out]; exact h1) (by rw [HQ.out]; have := HQB.out; omega) hzr).mono fun _ _ h => h.out (by rw [HQ.out]; exact h1)
        rwa [HQ.out] at h2)
      have CB : Hid (∀ (u : World) (A5 : Option Addr) (c5 : Nat), Only (fun z => bs ≤ z) w2 u → u.ownsRow bs 5 1 (.slice A5 (r ++ encI z).length c5) (r ++ encI z).length (bcells (r ++ encI z)) → Calls Try.prog 30 #[.slice A5 (r ++ encI z).length c5, .bool (decide (z < 0))] u (OutPost bs (r ++ encI z ++ encBo (decide (z < 0))) u)) := Lib.hid (fun u A5 c5 hu ho => wBool_any A5 c5 bs (r ++ encI z) (decide (z < 0)) u (by rw [← HBS.out]; exact hu.size) ho (by rw [List.length_append, HQ.out]; have := HQB.out; omega))
      obtain ⟨Q1, hQ1⟩ : ∃ n, (r ++ encI z).length = n := ⟨_, rfl⟩
      obtain ⟨Q2, hQ2⟩ : ∃ n, (r ++ encI z ++ encBo (decide (z < 0))).length = n := ⟨_, rfl⟩
      unfold OutPost at CI CB
      rw [hQ1] at CI CB
      rw [hQ2] at CB
      have HQ2 := Lib.hid hQ2
      have HOD := Lib.hid ((Only.refl Nil wr).drew)
      clear hcl hz hzr hlt hei hQ1 hQ2
      go_upto_region 9 with fail
      go_region_held3 (fun w' => w'.cell? ⟨b, off + k, none⟩ = some (.int .i64 z)) (first | with_reducible assumption | exact kd | go_keep)
        (first
          | (go_simp; go_at_call 21; refine (CI.out _ HOD.out).mono ?_; rintro x w5 ⟨A5, c5, rfl, hc5, hown5, hO5⟩; have hP5 := (HO.out.thenNil HOD.out).then_ hO5; have hs5 := HCL.out w5 hP5)
          | (go_simp; go_at_call 30; refine (CB.out _ _ _ hP5 hown5).mono ?_; rintro x w6 ⟨A6, c6, rfl, hc6, hown6, hO6⟩; have hP6 := hP5.then_ hO6; have hs6 := HCL.out w6 hP6)
          | fail)
      all_goals
        have HC6 := Lib.hid hc6
        have HW6 := Lib.hid hown6
        have HP6 := Lib.hid hP6
        clear hc6 hown6 hP6 hs5 hs6 hP5 hO5 hO6 hown5 hc5 kd
        go_wp2_with fail
        go_roundw
        case rel => exact ⟨k + 1, A6, c6, Q2, r ++ encI z ++ encBo (decide (z < 0)), by omega, by go_num, rfl, HQ2.out, HNX.out, HC6.out, HW6.out, HP6.out⟩
        case measure => simp [intOf]; omega
    have hkN : k = N := by omega
    have hki : ¬ (k : Int) < N := by omega
    have hr1 : r = r0 ++ encP zs := by rw [HRE.out, hkN, ← HN.out, List.take_length]
    have HR1 := Lib.hid hr1
    clear hkN hlt hr1
    go_wp2_with fail
    go_loopw [7, 9] (fun v i wr => ∃ (k : Nat) (Ak : Option Addr) (ck Q : Nat) (r : List UInt8), k ≤ M ∧ i = .int .i64 k ∧ v = .slice Ak Q ck ∧ r.length = Q ∧ r = r0 ++ encP zs ++ encQ (ss.take k) ∧ Q ≤ ck ∧ wr.ownsRow bs 5 1 (.slice Ak Q ck) Q (bcells r) ∧ Only (fun z => bs ≤ z) w2 wr) (fun _ i _ => M - (intOf i).toNat)
    case atStart => exact ⟨0, Ak, ck, Q, r, Nat.zero_le _, rfl, rfl, HQ.out, by rw [HR1.out]; simp [encQ], HCK.out, HOWK.out, HO.out⟩
    case round =>
      clear HQ HRE HCK HOWK HO HQB HR1
      have hM40 := HM40.out
      obtain ⟨k, Ak, ck, Q, r, hk, rfl, rfl, hQ, hr, hck, hownk, hO⟩ := hrel
      have HQ := Lib.hid hQ
      have HRE := Lib.hid hr
      have HCK := Lib.hid hck
      have HOWK := Lib.hid hownk
      have HO := Lib.hid hO
      have HQB : Hid (Q ≤ 30000) := Lib.hid (by rw [← hQ, hr]; exact LQ.out k)
      clear hQ hr hck hownk hO
      by_cases hlt : k < M
      · obtain ⟨s, hz⟩ : ∃ q, ss[k]? = some q := ⟨ss[k]'(by rw [HM.out]; exact hlt), List.getElem?_eq_getElem _⟩
        obtain ⟨b, off, rfl, hcl⟩ := HCB.out k s hz
        have hzr := HS200.out s (List.mem_of_getElem? hz)
        have hki : (k : Int) < M := by omega
        have HNX : Hid (r ++ encS s ++ encI s.length ++ s = r0 ++ encP zs ++ encQ (ss.take (k + 1))) := Lib.hid (by rw [take_next hz, encQ_snoc, HRE.out]; unfold encS; simp only [List.append_assoc])
        have hes := encS_len hzr
        have hcl' : ∀ u, Only (fun z => bs ≤ z) w2 u → u.cell? ⟨b, off + k, none⟩ = some (.string ⟨s.toArray⟩) := hcl
        have HKM := Lib.hid hlt
        have CS : Hid (∀ u, u.ownsRow bs 5 1 (.slice Ak Q ck) Q (bcells r) → Only (fun z => bs ≤ z) w2 u → Calls Try.prog 32 #[.slice Ak Q ck, .string ⟨s.toArray⟩] u fun e w' => OutPost bs (r ++ encS s) u e w' ∧ Only (fun x => (Value.slice Ak Q ck).ownBlock = some x) u w') := Lib.hid (fun u h1 hu => by
          have h2 := wString_own Ak ck bs r s u (by rw [← HBS.out]; exact hu.size) (by rw [HQ.out]; exact h1) (by rw [HQ.out]; have := HQB.out; omega) (by omega)
          rwa [HQ.out] at h2)
        have CB : Hid (∀ (u : World) (A5 : Option Addr) (c5 g cq : Nat), Only (fun z => bs ≤ z) w2 u → u.ownsRow bs 5 1 (.slice A5 (r ++ encS s).length c5) (r ++ encS s).length (bcells (r ++ encS s)) → MR u g s → Calls Try.prog 31 #[.slice A5 (r ++ encS s).length c5, .slice (some ⟨g, 0, none⟩) s.length cq] u (OutPost bs (r ++ encS s ++ encI s.length ++ s) u)) := Lib.hid (fun u A5 c5 g cq hu ho hm => (bytes_any A5 c5 bs (r ++ encS s) (some ⟨g, 0, none⟩) cq s u (by rw [← HBS.out]; exact hu.size) ho (fun w' hw' => by
          have h1 := hm.only hw' (hm.ne ho)
          obtain ⟨h2, h3⟩ := h1.bs
          refine ⟨h2, fun hn => ?_⟩
          obtain ⟨b', o', e', _, h5⟩ := h3 hn
          have hlt : g < u.heap.size := by
            obtain ⟨b6, o6, e6, h6, _⟩ := (hm.bs).2 hn
            injection e6 with e6
            injection e6 with e6 _
            omega
          injection e' with e'
          injection e' with e1 e2
          subst e1 e2
          exact ⟨g, 0, rfl, hlt, h5⟩) (by rw [List.length_append, HQ.out]; have := HQB.out; omega) (by omega)).mono fun _ _ h => h.out ho)
        obtain ⟨S, hS⟩ : ∃ n, s.length = n := ⟨_, rfl⟩
        obtain ⟨r2, hr2⟩ : ∃ q, r ++ encS s = q := ⟨_, rfl⟩
        rw [hS] at CB HNX
        rw [hr2] at CB CS HNX
        obtain ⟨r3, hr3⟩ : ∃ q, r2 ++ encI (S : Int) ++ s = q := ⟨_, rfl⟩
        rw [hr3] at CB HNX
        obtain ⟨Q1, hQ1⟩ : ∃ n, r2.length = n := ⟨_, rfl⟩
        obtain ⟨Q2, hQ2⟩ : ∃ n, r3.length = n := ⟨_, rfl⟩
        unfold OutPost at CS CB
        rw [hQ1] at CS CB
        rw [hQ2] at CB
        have HQ2 := Lib.hid hQ2
        have HQ1 := Lib.hid hQ1
        have HCL := Lib.hid hcl'
        have CV : Hid (∀ u : World, (convert 9 22 (.string ⟨s.toArray⟩)).run Try.prog u = .ok (.slice (some ⟨u.heap.size, 0, none⟩) S (grownCap u S 0 5)) (Lib.bytesWorld u 5 ⟨s.toArray⟩)) := Lib.hid (fun u => by
          have := Lib.run_convert_string_bytes (P := Try.prog) u 9 22 5 ⟨s.toArray⟩ Try.underlying9 Try.underlying22 Try.underlying5
          rw [show (⟨s.toArray⟩ : ByteArray).size = S from hS] at this
          exact this)
        clear hcl hcl' hz hzr hlt hes hQ1 hQ2 hr2 hr3 hS
        go_upto_region 13 with fail
        have HIN : Hid (∀ (L : Nat → Bool) (vs : Nat → Value) (u u' : World), Only Nil u u' → (fun L vs u => Only (fun z => bs ≤ z) wr u ∧ (L 5 = false → u.ownsRow bs 5 1 (.slice Ak Q ck) Q (bcells r)) ∧ (L 5 = true → L 11 = false → OwnB 5 bs r2 (vs 5) u) ∧ (L 10 = true → L 11 = false → ∃ g cq, vs 10 = .slice (some ⟨g, 0, none⟩) S cq ∧ MR u g s) ∧ (L 11 = true → OwnB 5 bs r3 (vs 11) u) ∧ (L 11 = true → L 5 = true ∧ L 10 = true)) L vs u → (fun L vs u => Only (fun z => bs ≤ z) wr u ∧ (L 5 = false → u.ownsRow bs 5 1 (.slice Ak Q ck) Q (bcells r)) ∧ (L 5 = true → L 11 = false → OwnB 5 bs r2 (vs 5) u) ∧ (L 10 = true → L 11 = false → ∃ g cq, vs 10 = .slice (some ⟨g, 0, none⟩) S cq ∧ MR u g s) ∧ (L 11 = true → OwnB 5 bs r3 (vs 11) u) ∧ (L 11 = true → L 5 = true ∧ L 10 = true)) L vs u') := Lib.hid (fun L vs u u' hO hI => by
          obtain ⟨q1, q2, q3, q4, q5, q6⟩ := hI; exact ⟨q1.thenNil hO, fun h => own_onlyNil (q2 h) hO, fun h h' => Stays.ownNil _ _ _ hO (q3 h h'), fun h h' => (by obtain ⟨g, cq, a1, a2⟩ := q4 h h'; exact ⟨g, cq, a1, a2.only hO (fun hx => hx)⟩), fun h => Stays.ownNil _ _ _ hO (q5 h), q6⟩)
        refine wp_region_any (by kernel_rfl) ?_
        change wpAny _ _ _ _ _ _ _ (World.drew _)
        refine take_first (i := 0) (v := ?v0_5) (some 56) rfl (by rfl) (by kernel_rfl) (by kernel_rfl) (by kernel_rfl) (fun _ _ _ h => h) (Or.inl ⟨by rfl, ?hy0_5⟩) ?rest0_5
        case hy0_5 => (intro w; go_simp <;> with_reducible rfl)
        refine take_first (i := 1) (v := ?v1_5) (some 57) rfl (by rfl) (by kernel_rfl) (by kernel_rfl) (by kernel_rfl) (fun _ _ _ h => h) (Or.inl ⟨by rfl, ?hy1_5⟩) ?rest1_5
        case hy1_5 => (intro w; go_simp <;> with_reducible rfl)
        refine take_first (i := 2) (v := ?v2_5) (some 58) rfl (by rfl) (by kernel_rfl) (by kernel_rfl) (by kernel_rfl) (fun _ _ _ h => h) (Or.inl ⟨by rfl, ?hy2_5⟩) ?rest2_5
        case hy2_5 => (intro w; go_simp <;> with_reducible rfl)
        refine take_first (i := 3) (v := ?v3_5) (some 59) rfl (by rfl) (by kernel_rfl) (by kernel_rfl) (by kernel_rfl) (fun _ _ _ h => h) (Or.inl ⟨by rfl, ?hy3_5⟩) ?rest3_5
        case hy3_5 => (intro w; go_simp <;> with_reducible rfl)
        refine take_first (i := 6) (v := ?v6_5) (some 62) rfl (by rfl) (by kernel_rfl) (by kernel_rfl) (by kernel_rfl) (fun _ _ _ h => h) (Or.inl ⟨by rfl, ?hy6_5⟩) ?rest6_5
        case hy6_5 => (intro w; go_simp <;> with_reducible rfl)
        refine take_first (i := 7) (v := ?v7_5) (some 63) rfl (by rfl) (by kernel_rfl) (by kernel_rfl) (by kernel_rfl) (fun _ _ _ h => h) (Or.inl ⟨by rfl, ?hy7_5⟩) ?rest7_5
        case hy7_5 => (intro w; go_simp <;> with_reducible rfl)
        refine take_first (i := 8) (v := ?v8_5) (some 64) rfl (by rfl) (by kernel_rfl) (by kernel_rfl) (by kernel_rfl) (fun _ _ _ h => h) (Or.inl ⟨by rfl, ?hy8_5⟩) ?rest8_5
        case hy8_5 => (intro w; go_simp <;> with_reducible rfl)
        refine wpAny_inv2 (X := [(4, some 60, []), (5, some 61, [4]), (9, some 65, []), (10, some 66, [9]), (11, some 67, [5, 10])]) (n := 5) (g := 1) (m := 12) (l0 := [true, true, true, true, false, false, true, true, true, false, false, false, false]) (T := fun z => bs ≤ z) (Ps := [Any, Any, Any, Any, Cst (.string ⟨s.toArray⟩), Any, Any, Any, Any, Cst (.string ⟨s.toArray⟩), Any, Any])
          (I := fun L vs u => Only (fun z => bs ≤ z) wr u ∧ (L 5 = false → u.ownsRow bs 5 1 (.slice Ak Q ck) Q (bcells r)) ∧ (L 5 = true → L 11 = false → OwnB 5 bs r2 (vs 5) u) ∧ (L 10 = true → L 11 = false → ∃ g cq, vs 10 = .slice (some ⟨g, 0, none⟩) S cq ∧ MR u g s) ∧ (L 11 = true → OwnB 5 bs r3 (vs 11) u) ∧ (L 11 = true → L 5 = true ∧ L 10 = true))
          (by kernel_rfl) rfl (by kernel_rfl) (by kernel_rfl) (by kernel_rfl) rfl ?h0_5 ?st_5 ?i0_5 ?step_5 ?fin_5
        case h0_5 =>
          intro j hj v u
          match j, hj with
          | 0, hj => trivial
          | 1, hj => trivial
          | 2, hj => trivial
          | 3, hj => trivial
          | 4, hj => exact absurd hj (by decide)
          | 5, hj => exact absurd hj (by decide)
          | 6, hj => trivial
          | 7, hj => trivial
          | 8, hj => trivial
          | 9, hj => exact absurd hj (by decide)
          | 10, hj => exact absurd hj (by decide)
          | 11, hj => exact absurd hj (by decide)
          | 12, hj => exact absurd hj (by decide)
          | n + 13, hj => exact absurd hj (by simp)
        case st_5 =>
          intro p hp
          simp only [List.mem_cons, List.not_mem_nil, or_false] at hp
          rcases hp with rfl | rfl | rfl | rfl | rfl | rfl | rfl | rfl | rfl | rfl | rfl | rfl <;> first | exact Stays.cst _ | exact Stays.any
        case i0_5 =>
          intro vs
          exact ⟨(Only.refl _ _).drew, (fun _ => own_onlyNil HOWK.out (Only.refl _ _).drew), (fun h => by cases h), (fun h => by cases h), (fun h => by cases h), (fun h => by cases h)⟩
        case step_5 =>
          intro x hx L vs u hI hA h0 hd
          simp only [List.mem_cons, List.not_mem_nil, or_false] at hx
          rcases hx with rfl | rfl | rfl | rfl | rfl
          · refine inv_step _ (by rfl) (by rfl) (fun K' hK => ?_)
            simp only [putAll, Act.put, List.setIfInBounds_toArray, List.set_cons_succ, List.set_cons_zero] at hK ⊢
            have ks := HCL.out u (HO.out.then_ hI.1)
            go_simp
            exact hK _ _ ⟨Only.refl _ _, hI, rfl⟩
          · refine inv_step _ (by rfl) (by rfl) (fun K' hK => ?_)
            simp only [putAll, Act.put, List.setIfInBounds_toArray, List.set_cons_succ, List.set_cons_zero] at hK ⊢
            have e4 := hA 4 (hd 4 (by simp))
            change vs 4 = (.string ⟨s.toArray⟩) at e4
            simp only [e4] at hK
            simp only [e4] at hK ⊢
            go_simp
            go_at_call 32
            refine (CS.out u (hI.2.1 h0) (HO.out.then_ hI.1)).mono ?_
            rintro x u2 ⟨⟨A2, c2, rfl, hc2, ho2, hO2⟩, hO2'⟩
            go_simp
            refine hK _ _ ⟨hO2, ⟨hI.1.then_ hO2, (fun h => by cases h), (fun _ _ => ⟨A2, c2, by rw [HQ1.out]; rfl, by rw [HQ1.out]; exact hc2, by rw [HQ1.out]; exact ho2⟩), (fun h h' => ?_), (fun h => ?_), (fun h => ?_)⟩, trivial⟩
            · obtain ⟨g, cq, q1, q2⟩ := hI.2.2.2.1 h h'
              exact ⟨g, cq, q1, q2.only hO2' (q2.ne (hI.2.1 h0))⟩
            · exact absurd ((hI.2.2.2.2.2 h).1.symm.trans h0) (by decide)
            · exact absurd ((hI.2.2.2.2.2 h).1.symm.trans h0) (by decide)
          · refine inv_step _ (by rfl) (by rfl) (fun K' hK => ?_)
            simp only [putAll, Act.put, List.setIfInBounds_toArray, List.set_cons_succ, List.set_cons_zero] at hK ⊢
            have ks := HCL.out u (HO.out.then_ hI.1)
            go_simp
            exact hK _ _ ⟨Only.refl _ _, hI, rfl⟩
          · refine inv_step _ (by rfl) (by rfl) (fun K' hK => ?_)
            simp only [putAll, Act.put, List.setIfInBounds_toArray, List.set_cons_succ, List.set_cons_zero] at hK ⊢
            have e9 := hA 9 (hd 9 (by simp))
            change vs 9 = (.string ⟨s.toArray⟩) at e9
            simp only [e9] at hK
            simp only [e9] at hK ⊢
            have kv := CV.out u
            go_simp
            have hN := conv_only u 5 ⟨s.toArray⟩
            have hT : Only (fun z => bs ≤ z) u (Lib.bytesWorld u 5 ⟨s.toArray⟩) := hN.any
            refine hK _ _ ⟨hT, ⟨hI.1.then_ hT, (fun h => own_onlyNil (hI.2.1 h) hN), (fun h h' => Stays.ownNil _ _ _ hN (hI.2.2.1 h h')), (fun _ _ => ⟨u.heap.size, _, rfl, conv_row u s⟩), (fun h => ?_), (fun h => ?_)⟩, trivial⟩
            · exact absurd ((hI.2.2.2.2.2 h).2.symm.trans h0) (by decide)
            · exact absurd ((hI.2.2.2.2.2 h).2.symm.trans h0) (by decide)
          · refine inv_step _ (by rfl) (by rfl) (fun K' hK => ?_)
            simp only [putAll, Act.put, List.setIfInBounds_toArray, List.set_cons_succ, List.set_cons_zero] at hK ⊢
            obtain ⟨A5, c5, e5, hc5, ho5⟩ := hI.2.2.1 (hd 5 (by simp)) h0
            obtain ⟨g, cq, e10, hm⟩ := hI.2.2.2.1 (hd 10 (by simp)) h0
            rw [HQ1.out] at e5 hc5 ho5
            simp only [e5, e10] at hK ⊢
            go_simp
            go_at_call 31
            refine (CB.out u A5 c5 g cq (HO.out.then_ hI.1) ho5 hm).mono ?_
            rintro x u2 ⟨A2, c2, rfl, hc2, ho2, hO2⟩
            go_simp
            exact hK _ _ ⟨hO2, ⟨hI.1.then_ hO2, (fun h => absurd ((hd 5 (by simp)).symm.trans h) (by decide)), (fun _ h => by cases h), (fun _ h => by cases h), (fun _ => ⟨A2, c2, by rw [HQ2.out]; rfl, by rw [HQ2.out]; exact hc2, by rw [HQ2.out]; exact ho2⟩), fun _ => ⟨hd 5 (by simp), hd 10 (by simp)⟩⟩, trivial⟩
        case fin_5 =>
          intro L vs u hI hL hA
          simp only [putAll, Act.put, List.setIfInBounds_toArray, List.set_cons_succ, List.set_cons_zero, List.drop_succ_cons, List.drop_zero]
          obtain ⟨A9, c9, e11, hc9, ho9⟩ := hI.2.2.2.2.1 (hL 11 (by omega))
          rw [HQ2.out] at e11 hc9 ho9
          simp only [e11]
          have HI1 := Lib.hid (HO.out.then_ hI.1)
          have HC9 := Lib.hid hc9
          have HW9 := Lib.hid ho9
          clear hA hL hI hc9 ho9 e11
          go_wp2_with fail
          go_roundw
          case rel => exact ⟨k + 1, A9, c9, Q2, r3, by have := HKM.out; omega, by go_num, rfl, HQ2.out, HNX.out, HC9.out, HW9.out, HI1.out⟩
          case measure => simp [intOf]; have := HKM.out; omega
      have hkN : k = M := by omega
      have hki : ¬ (k : Int) < M := by omega
      have hr1 : r = r0 ++ encP zs ++ encQ ss := by rw [HRE.out, hkN, ← HM.out, List.take_length]
      have HR1 := Lib.hid hr1
      clear hkN hlt hr1
      have HTL : Hid ((r ++ rb).length = Q + R) := Lib.hid (by rw [List.length_append, HQ.out, HR.out])
      have hT0 : r ++ rb = encZs zs ++ (encSs ss ++ (encP zs ++ (encQ ss ++ rb))) := by rw [HR1.out, ← HR0.out]; simp only [List.append_assoc]
      have hT1 : r ++ rb = r0 ++ (encP zs ++ (encQ ss ++ rb)) := by rw [HR1.out]; simp only [List.append_assoc]
      have hT2 : r ++ rb = r0 ++ encP zs ++ (encQ ss ++ rb) := by rw [HR1.out]; simp only [List.append_assoc]
      have hoq := HOWK.out
      rw [← HQ.out] at hoq
      have hjo := joined_any Ak ck r C cc rb wr (Bs.of_own hoq).1 (HRC.out wr HO.out) (by rw [HQ.out]; have := HQB.out; omega) (by rw [HR.out]; omega)
      rw [HQ.out, HR.out] at hjo
      obtain ⟨T, hT⟩ : ∃ T, r ++ rb = T := ⟨_, rfl⟩
      rw [hT] at hjo hT0 hT1 hT2 HTL
      have HJO := Lib.hid hjo
      have HT0 := Lib.hid hT0
      have HT1 := Lib.hid hT1
      have HT2 := Lib.hid hT2
      have HTM : Hid (T.length ≤ 1099511627776) := Lib.hid (by rw [HTL.out]; have := HQB.out; omega)
      have HQR : Hid (Q = (r0 ++ encP zs ++ encQ ss).length) := Lib.hid (by rw [← HQ.out, HR1.out])
      clear hjo hT0 hT1 hT2 hT hoq
      go_wp2_with fail
      with_reducible refine HJO.out.mono ?_
      clear HJO
      rintro x w5 ⟨A5, c5, rfl, _, hown5, hO5⟩
      have hrd := rread_any A5 c5 T w5 (Bs.of_own hown5).1 HTM.out
      have HRD := Lib.hid hrd
      have HO5 := Lib.hid (HO.out.thenNil hO5)
      clear hown5 hO5 hrd
      go_wp2_with fail
      with_reducible refine HRD.out.mono ?_
      clear HRD
      rintro x w6 ⟨p, Ap, cp, rfl, hp, hrr, hcp, hO6⟩
      have HPB : Hid (bs ≤ p) := Lib.hid (by have := HO5.out.size; have := HBS.out; omega)
      have HCP := Lib.hid hcp
      have HO6 := Lib.hid (HO5.out.thenNil hO6)
      have hpe : ∀ {u v : World}, Only (One p) u v → Only (fun z => bs ≤ z) u v := fun h => h.more (fun x hx => by unfold One at hx; rw [hx]; exact HPB.out)
      have HPE := Lib.hid (fun (u v : World) (h : Only (One p) u v) => hpe h)
      have hln : (encL zs).length + (encI (zs.length : Int)).length = (encZs zs).length := by unfold encZs; rw [List.length_append]; omega
      have hTz : T = encI (zs.length : Int) ++ (encL zs ++ (encSs ss ++ (encP zs ++ (encQ ss ++ rb)))) := by rw [HT0.out]; unfold encZs; simp only [List.append_assoc]
      have hin := rInts_ok N zs (encI (zs.length : Int)).length (encL zs).length p Ap cp T 0 w6 hrr (Nat.zero_le _) HTM.out
        (by rw [List.drop_zero, hTz]; exact dec_enc _ _ (by have := HN.out; omega))
        (by rw [HN.out]; exact Int.le_refl _)
        (by rw [Nat.zero_add, hTz, List.length_append, List.length_append]; have := encL_ge zs; omega)
        (by rw [Nat.zero_add, hTz, List.drop_left]; exact decN_enc zs _ HZ.out)
      rw [show 0 + (encI (zs.length : Int)).length + (encL zs).length = (encZs zs).length by omega, HN.out] at hin
      have HIN1 := Lib.hid hin
      clear hp hrr hcp hO6 hpe hln hTz hin
      go_wp2_with fail
      with_reducible refine HIN1.out.mono ?_
      clear HIN1
      rintro x w7 ⟨hR7, hO7, g, hg, rfl, hb7⟩
      have HR7 := Lib.hid hR7
      have HO7 := Lib.hid (HO6.out.then_ (HPE.out _ _ hO7))
      have hsi := Ref.same_ints (some ⟨g, 0, none⟩) A N ca zs w7 (Rd.more (Rd.blk (n := zs.length) hb7 (by simp)) hb7.lt) (by rw [HN.out]; exact HRA.out w7 HO7.out) (by rw [HN.out]; omega)
      rw [HN.out] at hsi
      have HSI := Lib.hid hsi
      clear hR7 hO7 hg hb7 hsi
      go_wp2_with fail
      with_reducible refine HSI.out.mono ?_
      clear HSI
      rintro x w8 ⟨rfl, hO8⟩
      have hst := rStrs_any M p Ap cp T (encZs zs).length false w8 (HR7.out.onlyNil hO8) (by rw [HT0.out, List.length_append]; omega) HTM.out HCP.out
      have hra := rStrs_at (T := T) (pre := encZs zs) (ss := ss) (suf := encP zs ++ (encQ ss ++ rb)) HT0.out (by have := HM.out; omega) (fun s hs => by
        have h1 := HS200.out s hs
        refine ⟨?_, by omega⟩
        have h2 : s.length ≤ (encSs ss).length := by
          unfold encSs encSn
          rw [List.length_append]
          have h3 : (encS s).length ≤ (ss.flatMap encS).length := encS_mem hs
          unfold encS at h3
          rw [List.length_append] at h3
          unfold encS
          omega
        rw [HT0.out, List.length_append, List.length_append]
        omega)
      rw [HM.out] at hra
      rw [hra] at hst
      have hl0 : (encZs zs).length + (encSs ss).length = r0.length := by rw [← HR0.out, List.length_append]
      rw [hl0] at hst
      unfold RStrsPost at hst
      dsimp only at hst
      rw [HM.out] at hst
      have HST := Lib.hid hst
      have HO8 := Lib.hid (HO7.out.thenNil hO8)
      clear hO8 hst hra hl0
      go_wp2_with fail
      with_reducible refine HST.out.mono ?_
      clear HST
      rintro x w9 ⟨Ax, cx, rfl, _, hown9, hR9, hO9⟩
      have HR9 := Lib.hid hR9
      have HO9 := Lib.hid (HO8.out.then_ (HPE.out _ _ hO9))
      have hss := Ref.same_strings Ax B cx cb ss w9 (by rw [HM.out]; exact Rd.of_own hown9) (by rw [HM.out]; exact HRB.out w9 HO9.out) (by rw [HM.out]; omega)
      rw [HM.out] at hss
      have HSS := Lib.hid hss
      clear hown9 hR9 hO9 hss
      go_wp2_with fail
      with_reducible refine HSS.out.mono ?_
      clear HSS
      rintro x w10 ⟨rfl, hO10⟩
      have HR10 := Lib.hid (HR9.out.onlyNil hO10)
      have HO10 := Lib.hid (HO9.out.thenNil hO10)
      clear hO10
      go_wp2_with fail
      go_loopw [11] (fun i wr => ∃ (k q : Nat), k ≤ N ∧ i = .int .i64 k ∧ q = (r0 ++ encP (zs.take k)).length ∧ RR wr p Ap cp T q false ∧ Only (fun z => bs ≤ z) w2 wr) (fun i _ => N - (intOf i).toNat)
      case atStart => exact ⟨0, r0.length, Nat.zero_le _, rfl, by simp [encP], HR10.out, HO10.out⟩
      case round =>
        clear HR10 HO10 HO9 HR9 HO8 HR7 HO7 HO6 HO5 HRE HCK HOWK HO
        obtain ⟨k, q, hk, rfl, hq, hR3, hO⟩ := hrel
        have HQ3 := Lib.hid hq
        have HR3 := Lib.hid hR3
        have HO := Lib.hid hO
        clear hq hR3 hO
        by_cases hlt : k < N
        · obtain ⟨z, hz⟩ : ∃ q, zs[k]? = some q := ⟨zs[k]'(by rw [HN.out]; exact hlt), List.getElem?_eq_getElem _⟩
          obtain ⟨b, off, rfl, hcl⟩ := HCA.out k z hz
          have hzr := HZ.out z (List.mem_of_getElem? hz)
          have hki : (k : Int) < N := by omega
          have hTk : T = (r0 ++ encP (zs.take k)) ++ (encI z ++ (encBo (decide (z < 0)) ++ (encP (zs.drop (k + 1)) ++ (encQ ss ++ rb)))) := by rw [HT1.out, encP_split hz]; simp only [List.append_assoc]
          have hTk2 : T = (r0 ++ encP (zs.take k) ++ encI z) ++ (encBo (decide (z < 0)) ++ (encP (zs.drop (k + 1)) ++ (encQ ss ++ rb))) := by rw [hTk]; simp only [List.append_assoc]
          have hbd := rBnd_at hTk hzr
          have hbo := bool_at hTk2
          have hq2 : (r0 ++ encP (zs.take k) ++ encI z).length = q + (encI z).length := by rw [List.length_append, HQ3.out]
          have hqT : q ≤ T.length := by rw [hTk, List.length_append, HQ3.out]; omega
          have hq3 : q + (encI z).length + 1 = (r0 ++ encP (zs.take (k + 1))).length := by rw [take_next hz, encP_snoc, HQ3.out]; simp only [List.length_append]; unfold encBo; simp only [List.length_cons, List.length_nil]; omega
          rw [hq2] at hbo
          rw [← HQ3.out] at hbd
          obtain ⟨ei, hei⟩ : ∃ n, (encI z).length = n := ⟨_, rfl⟩
          rw [hei] at hbd hbo hq3
          have HQ4 := Lib.hid hq3
          have CBd : Hid (∀ u, Only Nil wr u → Calls Try.prog 38 #[.pointer (some ⟨p, 0, none⟩), .int .i64 z, .int .i64 z] u fun e w' => e = .returned (.int .i64 z) ∧ RR w' p Ap cp T (q + ei) false ∧ Only (One p) u w') := Lib.hid (fun u hu => by
            have := rBnd_any z z p Ap cp T q false u (HR3.out.onlyNil hu) hqT HTM.out
            rw [hbd] at this
            exact this)
          have CBo : Hid (∀ u, RR u p Ap cp T (q + ei) false → Calls Try.prog 39 #[.pointer (some ⟨p, 0, none⟩)] u fun e w' => e = .returned (.bool (decide (z < 0))) ∧ RR w' p Ap cp T (q + ei + 1) false ∧ Only (One p) u w') := Lib.hid (fun u hu => rBool_ok (decide (z < 0)) p Ap cp T (q + ei) u hu hbo HTM.out)
          have HCL := Lib.hid hcl
          have kd := HCL.out wr.drew (HO.out.drew)
          have HOD := Lib.hid ((Only.refl Nil wr).drew)
          have HKN := Lib.hid hlt
          clear hcl hz hzr hlt hTk hTk2 hbd hbo hq2 hqT hq3 hei
          go_upto_region 20 with fail
          go_region_held3 (fun w' => w'.cell? ⟨b, off + k, none⟩ = some (.int .i64 z)) (first | with_reducible assumption | exact kd | go_keep)
            (first
              | (go_simp; go_at_call 38; refine (CBd.out _ HOD.out).mono ?_; rintro x w5 ⟨rfl, hR5, hO5⟩; have hP5 := (HO.out.thenNil HOD.out).then_ (HPE.out _ _ hO5); have hs5 := HCL.out w5 hP5)
              | (go_simp; go_at_call 39; refine (CBo.out _ hR5).mono ?_; rintro x w6 ⟨rfl, hR6, hO6⟩; have hP6 := hP5.then_ (HPE.out _ _ hO6); have hs6 := HCL.out w6 hP6)
              | fail)
          all_goals
            have HR6 := Lib.hid hR6
            have HP6 := Lib.hid hP6
            clear hR6 hP6 hs5 hs6 hP5 hO5 hO6 hR5 kd
            go_wp2_with fail
            go_roundw
            case rel => exact ⟨k + 1, q + ei + 1, by have := HKN.out; omega, by go_num, HQ4.out, HR6.out, HP6.out⟩
            case measure => simp [intOf]; have := HKN.out; omega
        have hkN : k = N := by omega
        have hki : ¬ (k : Int) < N := by omega
        have hqe : q = (r0 ++ encP zs).length := by rw [HQ3.out, hkN, ← HN.out, List.take_length]
        have HQE := Lib.hid hqe
        clear hkN hlt hqe
        go_wp2_with fail
        go_loopw [12] (fun i wr => ∃ (k q : Nat), k ≤ M ∧ i = .int .i64 k ∧ q = (r0 ++ encP zs ++ encQ (ss.take k)).length ∧ RR wr p Ap cp T q false ∧ Only (fun z => bs ≤ z) w2 wr) (fun i _ => M - (intOf i).toNat)
        case atStart => exact ⟨0, q, Nat.zero_le _, rfl, by rw [HQE.out]; simp [encQ], HR3.out, HO.out⟩
        case round =>
          clear HQ3 HR3 HO HQE
          obtain ⟨k, q, hk, rfl, hq, hR3, hO⟩ := hrel
          have HQ3 := Lib.hid hq
          have HR3 := Lib.hid hR3
          have HO := Lib.hid hO
          clear hq hR3 hO
          by_cases hlt : k < M
          · obtain ⟨s, hz⟩ : ∃ q, ss[k]? = some q := ⟨ss[k]'(by rw [HM.out]; exact hlt), List.getElem?_eq_getElem _⟩
            obtain ⟨b, off, rfl, hcl⟩ := HCB.out k s hz
            have hzr := HS200.out s (List.mem_of_getElem? hz)
            have hki : (k : Int) < M := by omega
            have hTk : T = (r0 ++ encP zs ++ encQ (ss.take k)) ++ (encS s ++ (encS s ++ (encQ (ss.drop (k + 1)) ++ rb))) := by rw [HT2.out, encQ_split hz]; simp only [List.append_assoc]
            have hTk2 : T = (r0 ++ encP zs ++ encQ (ss.take k) ++ encS s) ++ (encS s ++ (encQ (ss.drop (k + 1)) ++ rb)) := by rw [hTk]; simp only [List.append_assoc]
            have hb1 := rByt_at hTk (by omega)
            have hb2 := rByt_at hTk2 (by omega)
            have hq2 : (r0 ++ encP zs ++ encQ (ss.take k) ++ encS s).length = q + (encS s).length := by rw [List.length_append, HQ3.out]
            have hqT : q + (encS s).length ≤ T.length := by rw [hTk2, List.length_append, hq2]; omega
            have hq3 : q + (encS s).length + (encS s).length = (r0 ++ encP zs ++ encQ (ss.take (k + 1))).length := by rw [take_next hz, encQ_snoc, HQ3.out]; simp only [List.length_append]; omega
            rw [hq2] at hb2
            rw [← HQ3.out] at hb1
            obtain ⟨es, hes⟩ : ∃ n, (encS s).length = n := ⟨_, rfl⟩
            rw [hes] at hb1 hb2 hq3 hqT
            obtain ⟨S, hS⟩ : ∃ n, s.length = n := ⟨_, rfl⟩
            have hcl' : ∀ u, Only (fun z => bs ≤ z) w2 u → u.cell? ⟨b, off + k, none⟩ = some (.string ⟨s.toArray⟩) := hcl
            have HQ4 := Lib.hid hq3
            have CS : Hid (∀ u, RR u p Ap cp T q false → Calls Try.prog 40 #[.pointer (some ⟨p, 0, none⟩), .int .i64 S] u fun e w' => e = .returned (.string ⟨s.toArray⟩) ∧ RR w' p Ap cp T (q + es) false ∧ Only (One p) u w') := Lib.hid (fun u hu => by
              have := rStr_any s.length p Ap cp T q false u hu (by omega) HTM.out HCP.out
              rw [hb1, hS] at this
              exact this)
            have CB : Hid (∀ u, RR u p Ap cp T (q + es) false → Calls Try.prog 41 #[.pointer (some ⟨p, 0, none⟩), .int .i64 S] u fun e w' => ∃ Ax cx, e = .returned (.slice Ax S cx) ∧ Bs w' w'.heap.size Ax s ∧ RR w' p Ap cp T (q + es + es) false ∧ Only (One p) u w') := Lib.hid (fun u hu => by
              have := rByt_any s.length p Ap cp T (q + es) false u hu hqT HTM.out HCP.out
              rw [hb2, hS] at this
              refine this.mono ?_
              rintro x w' ⟨Ax, cx, rfl, _, ho, h1, h2⟩
              dsimp only at ho h1
              exact ⟨Ax, cx, by rw [← hS], (Bs.of_own ho).1, h1, h2⟩)
            have HSS : Hid (∀ (u : World) (Ax : Option Addr) (cx : Nat), Bs u u.heap.size Ax s → (convert 22 9 (.slice Ax S cx)).run Try.prog u = .ok (.string ⟨s.toArray⟩) u) := Lib.hid (fun u Ax cx h => run_str (P := Try.prog) u 22 9 5 Try.underlying22 Try.underlying5 Try.underlying9 (c := cx) h hS.symm)
            have hlen : (⟨s.toArray⟩ : ByteArray).size = S := hS
            have HCL := Lib.hid hcl'
            have kd := HCL.out wr.drew (HO.out.drew)
            have HOD := Lib.hid ((Only.refl Nil wr).drew)
            have HKM := Lib.hid hlt
            clear hcl hcl' hz hzr hlt hTk hTk2 hb1 hb2 hq2 hqT hq3 hes hS
            go_upto_region 25 with fail
            have HIN : Hid (∀ (L : Nat → Bool) (vs : Nat → Value) (u u' : World), Only Nil u u' → (fun L vs u => Only (fun z => bs ≤ z) wr u ∧ (L 6 = false → RR u p Ap cp T q false) ∧ (L 6 = true → L 19 = false → RR u p Ap cp T (q + es) false) ∧ (L 19 = true → RR u p Ap cp T (q + es + es) false ∧ ∃ Ax cx, vs 19 = .slice Ax S cx ∧ Bs u u.heap.size Ax s) ∧ (L 19 = true → L 6 = true)) L vs u → (fun L vs u => Only (fun z => bs ≤ z) wr u ∧ (L 6 = false → RR u p Ap cp T q false) ∧ (L 6 = true → L 19 = false → RR u p Ap cp T (q + es) false) ∧ (L 19 = true → RR u p Ap cp T (q + es + es) false ∧ ∃ Ax cx, vs 19 = .slice Ax S cx ∧ Bs u u.heap.size Ax s) ∧ (L 19 = true → L 6 = true)) L vs u') := Lib.hid (fun L vs u u' hO hI => by
              obtain ⟨q1, q2, q3, q4, q5⟩ := hI; exact ⟨q1.thenNil hO, fun h => (q2 h).onlyNil hO, fun h h' => (q3 h h').onlyNil hO, fun h => ⟨(q4 h).1.onlyNil hO, (by obtain ⟨_, Ax, cx, a1, a2⟩ := q4 h; exact ⟨Ax, cx, a1, (a2.onlyNil hO (Nat.le_refl _)).up hO.size⟩)⟩, q5⟩)
            refine wp_region_any (by kernel_rfl) ?_
            change wpAny _ _ _ _ _ _ _ (World.drew _)
            refine take_first (i := 0) (v := ?v0_6) (some 129) rfl (by rfl) (by kernel_rfl) (by kernel_rfl) (by kernel_rfl) (fun _ _ _ h => h) (Or.inl ⟨by rfl, ?hy0_6⟩) ?rest0_6
            case hy0_6 => (intro w; go_simp <;> with_reducible rfl)
            refine take_first (i := 1) (v := ?v1_6) (some 130) rfl (by rfl) (by kernel_rfl) (by kernel_rfl) (by kernel_rfl) (fun _ _ _ h => h) (Or.inl ⟨by rfl, ?hy1_6⟩) ?rest1_6
            case hy1_6 => (intro w; go_simp <;> with_reducible rfl)
            refine take_first (i := 2) (v := ?v2_6) (some 131) rfl (by rfl) (by kernel_rfl) (by kernel_rfl) (by kernel_rfl) (fun _ _ _ h => h) (Or.inl ⟨by rfl, ?hy2_6⟩) ?rest2_6
            case hy2_6 => (intro w; go_simp <;> with_reducible rfl)
            refine take_first (i := 3) (v := ?v3_6) (some 132) rfl (by rfl) (by kernel_rfl) (by kernel_rfl) (by kernel_rfl) (fun _ _ _ h => h) (Or.inl ⟨by rfl, ?hy3_6⟩) ?rest3_6
            case hy3_6 => (intro w; go_simp <;> with_reducible rfl)
            refine take_first (i := 7) (v := ?v7_6) (some 136) rfl (by rfl) (by kernel_rfl) (by kernel_rfl) (by kernel_rfl) (fun _ _ _ h => h) (Or.inl ⟨by rfl, ?hy7_6⟩) ?rest7_6
            case hy7_6 => (intro w; go_simp <;> with_reducible rfl)
            refine take_first (i := 8) (v := ?v8_6) (some 137) rfl (by rfl) (by kernel_rfl) (by kernel_rfl) (by kernel_rfl) (fun _ _ _ h => h) (Or.inl ⟨by rfl, ?hy8_6⟩) ?rest8_6
            case hy8_6 => (intro w; go_simp <;> with_reducible rfl)
            refine take_first (i := 9) (v := ?v9_6) (some 138) rfl (by rfl) (by kernel_rfl) (by kernel_rfl) (by kernel_rfl) (fun _ _ _ h => h) (Or.inl ⟨by rfl, ?hy9_6⟩) ?rest9_6
            case hy9_6 => (intro w; go_simp <;> with_reducible rfl)
            refine wpAny_inv3 (X := [(4, some 133, []), (5, some 134, [4]), (6, some 135, [5]), (10, some 139, []), (11, some 140, [6, 10]), (12, some 141, [11]), (13, some 142, [12]), (14, some 143, [12]), (15, some 144, [12]), (16, some 145, [12, 14, 15]), (17, some 146, [12, 16]), (18, some 147, [12, 17]), (19, some 148, [6, 12, 13, 18]), (20, some 149, [12, 19]), (21, some 150, [12]), (22, some 151, [12]), (23, some 152, [12, 21, 22]), (24, some 153, [12, 23]), (25, some 154, [12, 20, 24])]) (n := 19) (g := 1) (m := 26) (l0 := [true, true, true, true, false, false, false, true, true, true, false, false, false, false, false, false, false, false, false, false, false, false, false, false, false, false, false]) (T := fun z => bs ≤ z) (Ps := [Any, Any, Any, Any, Cst (.string ⟨s.toArray⟩), Cst (.int .i64 S), Cst (.string ⟨s.toArray⟩), Any, Any, Any, Cst (.string ⟨s.toArray⟩), Cst (.bool false), Cst (.bool false), Cst (.pointer (some ⟨p, 0, none⟩)), Cst (.slice (some ⟨b, off, none⟩) M cb), Cst (.int .i64 k), Cst (.pointer (some ⟨b, off + k, none⟩)), Cst (.string ⟨s.toArray⟩), Cst (.int .i64 S), Any, Cst (.string ⟨s.toArray⟩), Cst (.slice (some ⟨b, off, none⟩) M cb), Cst (.int .i64 k), Cst (.pointer (some ⟨b, off + k, none⟩)), Cst (.string ⟨s.toArray⟩), Cst (.bool false)])
              (I := fun L vs u => Only (fun z => bs ≤ z) wr u ∧ (L 6 = false → RR u p Ap cp T q false) ∧ (L 6 = true → L 19 = false → RR u p Ap cp T (q + es) false) ∧ (L 19 = true → RR u p Ap cp T (q + es + es) false ∧ ∃ Ax cx, vs 19 = .slice Ax S cx ∧ Bs u u.heap.size Ax s) ∧ (L 19 = true → L 6 = true))
              (by kernel_rfl) rfl (by kernel_rfl) (by kernel_rfl) (by kernel_rfl) rfl ?h0_6 ?st_6 ?i0_6 ?step_6 ?fin_6
            case h0_6 =>
              intro j hj v u
              match j, hj with
              | 0, hj => trivial
              | 1, hj => trivial
              | 2, hj => trivial
              | 3, hj => trivial
              | 4, hj => exact absurd hj (by decide)
              | 5, hj => exact absurd hj (by decide)
              | 6, hj => exact absurd hj (by decide)
              | 7, hj => trivial
              | 8, hj => trivial
              | 9, hj => trivial
              | 10, hj => exact absurd hj (by decide)
              | 11, hj => exact absurd hj (by decide)
              | 12, hj => exact absurd hj (by decide)
              | 13, hj => exact absurd hj (by decide)
              | 14, hj => exact absurd hj (by decide)
              | 15, hj => exact absurd hj (by decide)
              | 16, hj => exact absurd hj (by decide)
              | 17, hj => exact absurd hj (by decide)
              | 18, hj => exact absurd hj (by decide)
              | 19, hj => exact absurd hj (by decide)
              | 20, hj => exact absurd hj (by decide)
              | 21, hj => exact absurd hj (by decide)
              | 22, hj => exact absurd hj (by decide)
              | 23, hj => exact absurd hj (by decide)
              | 24, hj => exact absurd hj (by decide)
              | 25, hj => exact absurd hj (by decide)
              | 26, hj => exact absurd hj (by decide)
              | n + 27, hj => exact absurd hj (by simp)
            case st_6 =>
              intro p hp
              simp only [List.mem_cons, List.not_mem_nil, or_false] at hp
              rcases hp with rfl | rfl | rfl | rfl | rfl | rfl | rfl | rfl | rfl | rfl | rfl | rfl | rfl | rfl | rfl | rfl | rfl | rfl | rfl | rfl | rfl | rfl | rfl | rfl | rfl | rfl <;> first | exact Stays.cst _ | exact Stays.any
            case i0_6 =>
              intro vs
              exact ⟨(Only.refl _ _).drew, (fun _ => HR3.out.onlyNil (Only.refl _ _).drew), (fun h => by cases h), (fun h => by cases h), (fun h => by cases h)⟩
            case step_6 =>
              refine List.forall_mem_cons.2 ⟨fun L vs u hI hA h0 hd => ?_, ?_⟩
              · as_aux_lemma =>
                refine inv_step3 _ (by rfl) (by rfl) (fun K' hK => ?_)
                simp only [putAll, Act.put, List.setIfInBounds_toArray, List.set_cons_succ, List.set_cons_zero] at hK ⊢
                have ks := HCL.out u (HO.out.then_ hI.1)
                go_simp
                exact hK _ _ ⟨Only.refl _ _, hI, rfl⟩
              refine List.forall_mem_cons.2 ⟨fun L vs u hI hA h0 hd => ?_, ?_⟩
              · as_aux_lemma =>
                refine inv_step3 _ (by rfl) (by rfl) (fun K' hK => ?_)
                simp only [putAll, Act.put, List.setIfInBounds_toArray, List.set_cons_succ, List.set_cons_zero] at hK ⊢
                have e4 := hA 4 (hd 4 (by simp))
                change vs 4 = (.string ⟨s.toArray⟩) at e4
                simp only [e4] at hK
                go_simp
                exact hK _ _ ⟨Only.refl _ _, hI, rfl⟩
              refine List.forall_mem_cons.2 ⟨fun L vs u hI hA h0 hd => ?_, ?_⟩
              · as_aux_lemma =>
                refine inv_step3 _ (by rfl) (by rfl) (fun K' hK => ?_)
                simp only [putAll, Act.put, List.setIfInBounds_toArray, List.set_cons_succ, List.set_cons_zero] at hK ⊢
                have e5 := hA 5 (hd 5 (by simp))
                change vs 5 = (.int .i64 S) at e5
                simp only [e5] at hK
                simp only [e5] at hK ⊢
                go_simp
                go_at_call 40
                refine (CS.out u (hI.2.1 h0)).mono ?_
                rintro x u2 ⟨rfl, hR, hO2⟩
                have hT := HPE.out _ _ hO2
                go_simp
                exact hK _ _ ⟨hT, ⟨hI.1.then_ hT, (fun h => by cases h), (fun _ _ => hR), (fun h => absurd ((hI.2.2.2.2 h).symm.trans h0) (by decide)), fun _ => rfl⟩, rfl⟩
              refine List.forall_mem_cons.2 ⟨fun L vs u hI hA h0 hd => ?_, ?_⟩
              · as_aux_lemma =>
                refine inv_step3 _ (by rfl) (by rfl) (fun K' hK => ?_)
                simp only [putAll, Act.put, List.setIfInBounds_toArray, List.set_cons_succ, List.set_cons_zero] at hK ⊢
                have ks := HCL.out u (HO.out.then_ hI.1)
                go_simp
                exact hK _ _ ⟨Only.refl _ _, hI, rfl⟩
              refine List.forall_mem_cons.2 ⟨fun L vs u hI hA h0 hd => ?_, ?_⟩
              · as_aux_lemma =>
                refine inv_step3 _ (by rfl) (by rfl) (fun K' hK => ?_)
                simp only [putAll, Act.put, List.setIfInBounds_toArray, List.set_cons_succ, List.set_cons_zero] at hK ⊢
                have e6 := hA 6 (hd 6 (by simp))
                change vs 6 = (.string ⟨s.toArray⟩) at e6
                have e10 := hA 10 (hd 10 (by simp))
                change vs 10 = (.string ⟨s.toArray⟩) at e10
                simp only [e6, e10] at hK
                go_simp
                exact hK _ _ ⟨Only.refl _ _, hI, rfl⟩
              refine List.forall_mem_cons.2 ⟨fun L vs u hI hA h0 hd => ?_, ?_⟩
              · as_aux_lemma =>
                refine inv_step3 _ (by rfl) (by rfl) (fun K' hK => ?_)
                simp only [putAll, Act.put, List.setIfInBounds_toArray, List.set_cons_succ, List.set_cons_zero] at hK ⊢
                have e11 := hA 11 (hd 11 (by simp))
                change vs 11 = (.bool false) at e11
                simp only [e11] at hK
                go_simp
                exact hK _ _ ⟨Only.refl _ _, hI, rfl⟩
              refine List.forall_mem_cons.2 ⟨fun L vs u hI hA h0 hd => ?_, ?_⟩
              · as_aux_lemma =>
                refine inv_step3 _ (by rfl) (by rfl) (fun K' hK => ?_)
                simp only [putAll, Act.put, List.setIfInBounds_toArray, List.set_cons_succ, List.set_cons_zero] at hK ⊢
                have e12 := hA 12 (hd 12 (by simp))
                change vs 12 = (.bool false) at e12
                simp only [e12] at hK
                go_simp
                exact hK _ _ ⟨Only.refl _ _, hI, rfl⟩
              refine List.forall_mem_cons.2 ⟨fun L vs u hI hA h0 hd => ?_, ?_⟩
              · as_aux_lemma =>
                refine inv_step3 _ (by rfl) (by rfl) (fun K' hK => ?_)
                simp only [putAll, Act.put, List.setIfInBounds_toArray, List.set_cons_succ, List.set_cons_zero] at hK ⊢
                have e12 := hA 12 (hd 12 (by simp))
                change vs 12 = (.bool false) at e12
                simp only [e12] at hK
                go_simp
                exact hK _ _ ⟨Only.refl _ _, hI, rfl⟩
              refine List.forall_mem_cons.2 ⟨fun L vs u hI hA h0 hd => ?_, ?_⟩
              · as_aux_lemma =>
                refine inv_step3 _ (by rfl) (by rfl) (fun K' hK => ?_)
                simp only [putAll, Act.put, List.setIfInBounds_toArray, List.set_cons_succ, List.set_cons_zero] at hK ⊢
                have e12 := hA 12 (hd 12 (by simp))
                change vs 12 = (.bool false) at e12
                simp only [e12] at hK
                go_simp
                exact hK _ _ ⟨Only.refl _ _, hI, rfl⟩
              refine List.forall_mem_cons.2 ⟨fun L vs u hI hA h0 hd => ?_, ?_⟩
              · as_aux_lemma =>
                refine inv_step3 _ (by rfl) (by rfl) (fun K' hK => ?_)
                simp only [putAll, Act.put, List.setIfInBounds_toArray, List.set_cons_succ, List.set_cons_zero] at hK ⊢
                have e12 := hA 12 (hd 12 (by simp))
                change vs 12 = (.bool false) at e12
                have e14 := hA 14 (hd 14 (by simp))
                change vs 14 = (.slice (some ⟨b, off, none⟩) M cb) at e14
                have e15 := hA 15 (hd 15 (by simp))
                change vs 15 = (.int .i64 k) at e15
                simp only [e12, e14, e15] at hK
                go_simp
                exact hK _ _ ⟨Only.refl _ _, hI, rfl⟩
              refine List.forall_mem_cons.2 ⟨fun L vs u hI hA h0 hd => ?_, ?_⟩
              · as_aux_lemma =>
                refine inv_step3 _ (by rfl) (by rfl) (fun K' hK => ?_)
                simp only [putAll, Act.put, List.setIfInBounds_toArray, List.set_cons_succ, List.set_cons_zero] at hK ⊢
                have e12 := hA 12 (hd 12 (by simp))
                change vs 12 = (.bool false) at e12
                have e16 := hA 16 (hd 16 (by simp))
                change vs 16 = (.pointer (some ⟨b, off + k, none⟩)) at e16
                simp only [e12, e16] at hK
                have ks := HCL.out u (HO.out.then_ hI.1)
                go_simp
                exact hK _ _ ⟨Only.refl _ _, hI, rfl⟩
              refine List.forall_mem_cons.2 ⟨fun L vs u hI hA h0 hd => ?_, ?_⟩
              · as_aux_lemma =>
                refine inv_step3 _ (by rfl) (by rfl) (fun K' hK => ?_)
                simp only [putAll, Act.put, List.setIfInBounds_toArray, List.set_cons_succ, List.set_cons_zero] at hK ⊢
                have e12 := hA 12 (hd 12 (by simp))
                change vs 12 = (.bool false) at e12
                have e17 := hA 17 (hd 17 (by simp))
                change vs 17 = (.string ⟨s.toArray⟩) at e17
                simp only [e12, e17] at hK
                go_simp
                exact hK _ _ ⟨Only.refl _ _, hI, rfl⟩
              refine List.forall_mem_cons.2 ⟨fun L vs u hI hA h0 hd => ?_, ?_⟩
              · as_aux_lemma =>
                refine inv_step3 _ (by rfl) (by rfl) (fun K' hK => ?_)
                simp only [putAll, Act.put, List.setIfInBounds_toArray, List.set_cons_succ, List.set_cons_zero] at hK ⊢
                have e6 := hA 6 (hd 6 (by simp))
                change vs 6 = (.string ⟨s.toArray⟩) at e6
                have e12 := hA 12 (hd 12 (by simp))
                change vs 12 = (.bool false) at e12
                have e13 := hA 13 (hd 13 (by simp))
                change vs 13 = (.pointer (some ⟨p, 0, none⟩)) at e13
                have e18 := hA 18 (hd 18 (by simp))
                change vs 18 = (.int .i64 S) at e18
                simp only [e6, e12, e13, e18] at hK
                simp only [e13, e18] at hK ⊢
                go_simp
                go_at_call 41
                refine (CB.out u (hI.2.2.1 (hd 6 (by simp)) h0)).mono ?_
                rintro x u2 ⟨Ax, cx, rfl, hbx, hR, hO2⟩
                have hT := HPE.out _ _ hO2
                go_simp
                exact hK _ _ ⟨hT, ⟨hI.1.then_ hT, (fun h => absurd ((hd 6 (by simp)).symm.trans h) (by decide)), (fun _ h => by cases h), (fun _ => ⟨hR, Ax, cx, rfl, hbx⟩), fun _ => hd 6 (by simp)⟩, trivial⟩
              refine List.forall_mem_cons.2 ⟨fun L vs u hI hA h0 hd => ?_, ?_⟩
              · as_aux_lemma =>
                refine inv_step3 _ (by rfl) (by rfl) (fun K' hK => ?_)
                simp only [putAll, Act.put, List.setIfInBounds_toArray, List.set_cons_succ, List.set_cons_zero] at hK ⊢
                have e12 := hA 12 (hd 12 (by simp))
                change vs 12 = (.bool false) at e12
                simp only [e12] at hK
                obtain ⟨hR9, Ax, cx, e19, hbx⟩ := hI.2.2.2.1 (hd 19 (by simp))
                simp only [e19] at hK ⊢
                have hst := HSS.out u Ax cx hbx
                go_simp
                exact hK _ _ ⟨Only.refl _ _, hI, rfl⟩
              refine List.forall_mem_cons.2 ⟨fun L vs u hI hA h0 hd => ?_, ?_⟩
              · as_aux_lemma =>
                refine inv_step3 _ (by rfl) (by rfl) (fun K' hK => ?_)
                simp only [putAll, Act.put, List.setIfInBounds_toArray, List.set_cons_succ, List.set_cons_zero] at hK ⊢
                have e12 := hA 12 (hd 12 (by simp))
                change vs 12 = (.bool false) at e12
                simp only [e12] at hK
                go_simp
                exact hK _ _ ⟨Only.refl _ _, hI, rfl⟩
              refine List.forall_mem_cons.2 ⟨fun L vs u hI hA h0 hd => ?_, ?_⟩
              · as_aux_lemma =>
                refine inv_step3 _ (by rfl) (by rfl) (fun K' hK => ?_)
                simp only [putAll, Act.put, List.setIfInBounds_toArray, List.set_cons_succ, List.set_cons_zero] at hK ⊢
                have e12 := hA 12 (hd 12 (by simp))
                change vs 12 = (.bool false) at e12
                simp only [e12] at hK
                go_simp
                exact hK _ _ ⟨Only.refl _ _, hI, rfl⟩
              refine List.forall_mem_cons.2 ⟨fun L vs u hI hA h0 hd => ?_, ?_⟩
              · as_aux_lemma =>
                refine inv_step3 _ (by rfl) (by rfl) (fun K' hK => ?_)
                simp only [putAll, Act.put, List.setIfInBounds_toArray, List.set_cons_succ, List.set_cons_zero] at hK ⊢
                have e12 := hA 12 (hd 12 (by simp))
                change vs 12 = (.bool false) at e12
                have e21 := hA 21 (hd 21 (by simp))
                change vs 21 = (.slice (some ⟨b, off, none⟩) M cb) at e21
                have e22 := hA 22 (hd 22 (by simp))
                change vs 22 = (.int .i64 k) at e22
                simp only [e12, e21, e22] at hK
                go_simp
                exact hK _ _ ⟨Only.refl _ _, hI, rfl⟩
              refine List.forall_mem_cons.2 ⟨fun L vs u hI hA h0 hd => ?_, ?_⟩
              · as_aux_lemma =>
                refine inv_step3 _ (by rfl) (by rfl) (fun K' hK => ?_)
                simp only [putAll, Act.put, List.setIfInBounds_toArray, List.set_cons_succ, List.set_cons_zero] at hK ⊢
                have e12 := hA 12 (hd 12 (by simp))
                change vs 12 = (.bool false) at e12
                have e23 := hA 23 (hd 23 (by simp))
                change vs 23 = (.pointer (some ⟨b, off + k, none⟩)) at e23
                simp only [e12, e23] at hK
                have ks := HCL.out u (HO.out.then_ hI.1)
                go_simp
                exact hK _ _ ⟨Only.refl _ _, hI, rfl⟩
              refine List.forall_mem_cons.2 ⟨fun L vs u hI hA h0 hd => ?_, ?_⟩
              rotate_left
              · exact fun x hx => absurd hx (List.not_mem_nil)
              · as_aux_lemma =>
                refine inv_step3 _ (by rfl) (by rfl) (fun K' hK => ?_)
                simp only [putAll, Act.put, List.setIfInBounds_toArray, List.set_cons_succ, List.set_cons_zero] at hK ⊢
                have e12 := hA 12 (hd 12 (by simp))
                change vs 12 = (.bool false) at e12
                have e20 := hA 20 (hd 20 (by simp))
                change vs 20 = (.string ⟨s.toArray⟩) at e20
                have e24 := hA 24 (hd 24 (by simp))
                change vs 24 = (.string ⟨s.toArray⟩) at e24
                simp only [e12, e20, e24] at hK
                go_simp
                exact hK _ _ ⟨Only.refl _ _, hI, rfl⟩
            case fin_6 =>
              intro L vs u hI hL hA
              simp only [putAll, Act.put, List.setIfInBounds_toArray, List.set_cons_succ, List.set_cons_zero, List.drop_succ_cons, List.drop_zero]
              have e12 := hA 12 (by omega)
              change vs 12 = .bool false at e12
              have e25 := hA 25 (by omega)
              change vs 25 = .bool false at e25
              simp only [e12, e25]
              have HR6 := Lib.hid (hI.2.2.2.1 (hL 19 (by omega))).1
              have HP6 := Lib.hid (HO.out.then_ hI.1)
              clear hA hL hI e12 e25
              go_wp2_with fail
              go_roundw
              case rel => exact ⟨k + 1, q + es + es, by have := HKM.out; omega, by go_num, HQ4.out, HR6.out, HP6.out⟩
              case measure => simp [intOf]; have := HKM.out; omega
          have hkN : k = M := by omega
          have hki : ¬ (k : Int) < M := by omega
          have hqe : q = Q := by rw [HQ3.out, HQR.out, hkN, ← HM.out, List.take_length]
          subst hqe
          have hle := rLeft_any p Ap cp T q false wr HR3.out (by rw [HTL.out]; omega) HTM.out
          have hlr : (T.length : Int) - (q : Int) = (R : Int) := by rw [HTL.out]; omega
          rw [hlr] at hle
          have HLE := Lib.hid hle
          have HEN : Hid (∀ u, Only Nil wr u → Calls Try.prog 25 #[.pointer (some ⟨p, 0, none⟩)] u fun e w' => e = .returned (.int .i64 (if R = 0 then 0 else 4)) ∧ Only Nil u w') := Lib.hid (fun u hu => by
            have h1 := rEnd_any p Ap cp T q false u (HR3.out.onlyNil hu) (by rw [HTL.out]; omega)
            have h2 : (if (false = true ∨ q ≠ T.length) then (4 : Int) else 0) = if R = 0 then 0 else 4 := by
              rw [HTL.out]
              by_cases h : R = 0
              · rw [if_pos h, if_neg (by simp [h])]
              · rw [if_neg h, if_pos (.inr (by omega))]
            rw [h2] at h1
            exact h1)
          clear hkN hlt hle hlr
          go_wp2_with fail
          with_reducible refine HLE.out.mono ?_
          clear HLE
          rintro x w5 ⟨rfl, hO5⟩
          have HE2 := Lib.hid (HEN.out w5 hO5)
          have HO5 := Lib.hid (HO.out.thenNil hO5)
          clear hO5 HEN
          by_cases hR0 : R = 0
          · subst hR0
            rw [if_pos rfl] at HE2
            go_wp2_with fail
            with_reducible refine HE2.out.mono ?_
            rintro x w6 ⟨rfl, hO6⟩
            have HO6 := Lib.hid (HO5.out.thenNil hO6)
            clear hO6
            go_wp2_with fail
            refine bodyPost_ret (v := .bool true) (by simp [results, Try.results5, go_sem]) rfl ?_
            exact ⟨rfl, HO1.out.thenNil (HNIL.out _ HO6.out)⟩
          · rw [if_neg hR0] at HE2
            have hRi : ((R : Int) == 0) = false := beq_false_of_ne (by omega)
            go_wp2_with fail
            with_reducible refine HE2.out.mono ?_
            rintro x w6 ⟨rfl, hO6⟩
            have HO6 := Lib.hid (HO5.out.thenNil hO6)
            clear hO6
            go_wp2_with fail
            refine bodyPost_ret (v := .bool true) (by simp [results, Try.results5, go_sem, hRi]) rfl ?_
            exact ⟨rfl, HO1.out.thenNil (HNIL.out _ HO6.out)⟩

set_option maxRecDepth 100000 in
theorem from_args {H : Type} {enc : TypeId × Value → H} (W : World) (base : Nat) (args : Array Value) (ds : List (DataW H)) (ps : List MemPlace)
    (hval0 : ∀ (j : Nat) t v, Try.f5.params[j]? = some t → args[j]? = some v → Value.okWide Try.prog W .any base t v)
    (hA : DataW.TrodAll enc Try.prog W 0 (fun _ => true) true Try.f5.params.toList args.toList ds ps) (_hlt : ∀ x ∈ ps, x.block < W.heap.size)
    (hsz : (DataW.weightsEach Try.prog Try.f5.params.toList ds).all (· ≤ reachBytes) = true) : Calls Try.prog 5 args W (LawPost W) := by
  have hval := hval0
  rw [Try.params5] at hA hval hsz
  obtain ⟨v0, vs0, d0, ds0, p0, q0, hargs, rfl, rfl, h0, r0⟩ := trodAll_cons hA
  obtain ⟨v1, vs1, d1, ds1, p1, q1, rfl, rfl, rfl, h1, r1⟩ := trodAll_cons r0
  obtain ⟨v2, vs2, d2, ds2, p2, q2, rfl, rfl, rfl, h2, r2⟩ := trodAll_cons r1
  obtain ⟨rfl, rfl, rfl⟩ := trodAll_nil r2
  obtain rfl : args = #[v0, v1, v2] := by cases args; simp_all
  obtain ⟨A, zs, ca, rfl, _, _, hA1, hz⟩ := open_ints1 (hval 0 _ v0 rfl rfl) h0
  obtain ⟨B, ss, cb, rfl, h1', h2', hB1⟩ := open_strs (hval 1 _ v1 rfl rfl) h1
  obtain ⟨C, rb, cc, rfl, _, _, hC1⟩ := open_barg (hval 2 _ v2 rfl rfl) h2
  exact walk A ca zs B cb ss C cc rb W hA1 hz hB1 (by omega) hC1

set_option maxRecDepth 100000 in
theorem over : Rows.wireInverseRow.holds Try.pinned (OpenSpec.ofChange Rows.wireInverseSpec) :=
  OpenClaim.holds_of_wide 5 Try.f5 rfl rfl rfl rfl rfl rfl rfl ⟨rfl, rfl, rfl, rfl, rfl⟩ rfl rfl rfl rfl rfl (by kernel_rfl) Try.func5 (by kernel_rfl)
    (of_decide_eq_true (by kernel_rfl)) (by unfold Func.isWrapper; first | (rw [if_pos (by decide +kernel)]; kernel_rfl) | (rw [if_neg (by decide +kernel)]; exact ⟨rfl, rfl⟩))
    (fun os started H enc _ => law_lifted (f := 5) (F := Try.f5) (s := Rows.wireInverseSpec) os started H enc (by kernel_rfl) Try.func5 rfl rfl (by kernel_rfl) (by kernel_rfl)
      (fun ds hd => by match ds, hd with | [_, _, _], _ => rfl)
      (ChangeSpec.witness6 (enc := enc) (C := Try.checked) false ⟨#[], #[.slice none 0 0, .slice none 0 0, .slice none 0 0], []⟩ 8 (by kernel_rfl) (by kernel_rfl) (by kernel_rfl) (by kernel_rfl))
      (fun W base args ds ps hv hA hlt hsz => from_args W base args ds ps hv hA hlt hsz))

/-- The statement. -/
theorem proved : Rows.WireInverseSaid := over

end wireInverse
end Go.Proofs.Ytbhgaaendekghaa
