/-
  Encode of the repository's message queue.
  Conditions: the queue is whole; its messages' numbers are of type int.
-/
import Derived.Test.YtljfblnpgeconaaRiW3
import Derived.Test.YtljfblnpgeconaaMqE
import Derived.Test.YtljfblnpgeconaaRiW1
namespace Go.Proofs.Ytljfblnpgeconaa
open Go.RowKit

/-- The encoding of a queue of messages. -/
def encQ (size : Nat) (ms : List M) : List UInt8 := encI size ++ encI ms.length ++ ms.flatMap encM
theorem encMs_len {ms : List M} (hf : ∀ m ∈ ms, m.fits ∧ m.data.length ≤ 1536) : (ms.flatMap encM).length ≤ 1626 * ms.length := by
  induction ms with
  | nil => simp
  | cons m ms ih =>
    rw [List.flatMap_cons, List.length_append, List.length_cons]
    have h1 := hf m (by simp)
    have h2 := encM_len h1.1 (by omega)
    have h3 := ih fun y hy => hf y (List.mem_cons_of_mem _ hy)
    omega

set_option maxRecDepth 100000 in
set_option maxHeartbeats 2000000 in
theorem qencode_any {F : Nat → Prop} {p size : Nat} {ms : List M} (w : World) (h : QU w F p size ms) (hf : ∀ m ∈ ms, m.fits) :
    Calls Try.prog 30 #[.pointer (some ⟨p, 0, none⟩)] w (BytesPost Nil (encQ size ms) w) := by
  obtain ⟨A, c, hblk, rs, r1, r2, r3, r4, r5⟩ := h.row
  have hroom := h.room
  have hmost := h.most
  have hdat : ∀ r ∈ rs, r.2.2.fits ∧ r.2.2.data.length ≤ 1536 ∧ Bs w w.heap.size r.1 r.2.2.data := fun r hr => by
    obtain ⟨g1, g2, g3, g4⟩ := r5 r hr
    exact ⟨hf _ (by rw [← r2]; exact List.mem_map_of_mem hr), g2, (Bs.of_own g3).1⟩
  have hms : ∀ m ∈ ms, m.fits ∧ m.data.length ≤ 1536 := fun m hm => by
    rw [← r2] at hm
    obtain ⟨r, hr, rfl⟩ := List.mem_map.1 hm
    exact ⟨(hdat r hr).1, (hdat r hr).2.1⟩
  have hrl : rs.length = ms.length := by rw [← r2, List.length_map]
  have hrd := Rd.of_own r3
  obtain ⟨N, hN⟩ : ∃ N, ms.length = N := ⟨_, rfl⟩
  rw [hN] at hroom hrl hrd hblk
  have hN200 : N ≤ 200 := by omega
  have kb : ∀ u, Only Nil w u → ∀ i, u.cell? ⟨p, i, none⟩ = #[Value.int .i64 size, .slice A N c][i]? := fun u hO i => (hblk.onlyNil hO).cell i
  have HKB := Lib.hid kb
  have HRD := Lib.hid hrd
  have HD := Lib.hid hdat
  have HMS := Lib.hid hms
  have HRL := Lib.hid hrl
  have HN := Lib.hid hN
  have HR2 := Lib.hid r2
  -- the two integers ahead
  obtain ⟨E1, hE1⟩ : ∃ E, encI (size : Int) = E := ⟨_, rfl⟩
  obtain ⟨E2, hE2⟩ : ∃ E, E1 ++ encI (N : Int) = E := ⟨_, rfl⟩
  have l1 : E1.length ≤ 10 := by rw [← hE1]; exact encI_len _ (zig_lt (by omega))
  have l2 : E2.length ≤ 20 := by
    rw [← hE2, List.length_append]
    have := encI_len (N : Int) (zig_lt (by omega))
    omega
  have hc1 : ∀ u, Only Nil w u → Calls Try.prog 48 #[.slice none 0 0, .int .i64 size] u fun x u' => ∃ A1 c1, x = .returned (.slice A1 E1.length c1) ∧ E1.length ≤ c1 ∧ u'.ownsRow w.heap.size 5 1 (.slice A1 E1.length c1) E1.length (bcells E1) ∧ Only Nil u u' := fun u hO => by
    refine (int_any none 0 w.heap.size [] size u hO.size (World.ownsRow_nil _ _ _ _) (by simp) (by omega)).mono ?_
    rw [List.nil_append, hE1]
    rintro x u' ⟨A1, c1, rfl, hc1, hown, _, hO2⟩
    exact ⟨A1, c1, rfl, hc1, hown, hO2.more (fun x hx => by cases hx)⟩
  have hc2 : ∀ u A1 c1, Only Nil w u → u.ownsRow w.heap.size 5 1 (.slice A1 E1.length c1) E1.length (bcells E1) → Calls Try.prog 48 #[.slice A1 E1.length c1, .int .i64 N] u fun x u' => ∃ A2 c2, x = .returned (.slice A2 E2.length c2) ∧ E2.length ≤ c2 ∧ u'.ownsRow w.heap.size 5 1 (.slice A2 E2.length c2) E2.length (bcells E2) ∧ Only Nil w u' := fun u A1 c1 hO hown => by
    refine (int_any A1 c1 w.heap.size E1 N u hO.size hown (by omega) (by omega)).mono ?_
    rw [hE2]
    rintro x u' ⟨A2, c2, rfl, hc2, hown2, _, hO2⟩
    exact ⟨A2, c2, rfl, hc2, hown2, hO.trans hO2 (fun x hx => .inr (ownBlock_ge hown hx))⟩
  have hfin : ∀ r, r = E2 ++ (ms.take N).flatMap encM → r = encQ size ms := fun r hr => by
    rw [hr, List.take_of_length_le (by omega), ← hE2, ← hE1]
    unfold encQ
    rw [hN]
  have HF := Lib.hid hfin
  have HC1 := Lib.hid hc1
  have HC2 := Lib.hid hc2
  have HL2 := Lib.hid l2
  obtain ⟨L1, hL1⟩ : ∃ L, E1.length = L := ⟨_, rfl⟩
  rw [hL1] at HC1 HC2
  have kb0 := kb w (Only.refl _ _)
  have kb1 := kb w.drew (Only.refl _ _).drew
  clear hblk r1 r2 r3 r4 r5 hroom hmost hdat hms hrl hrd hN kb hE1 hE2 l1 l2 hc1 hc2 hfin hL1 h hf
  go_enter Try.func30, Try.ntmps30
  go_upto_region 3 with fail
  go_cut [3] (fun v wd => ∃ A2 c2, v = .slice A2 E2.length c2 ∧ E2.length ≤ c2 ∧ wd.ownsRow w.heap.size 5 1 (.slice A2 E2.length c2) E2.length (bcells E2) ∧ Only Nil w wd)
  case first =>
    go_region_held3 (fun u => ∀ i, u.cell? ⟨p, i, none⟩ = #[Value.int .i64 size, .slice A N c][i]?) (first | with_reducible assumption | go_keep)
      (first
        | (go_simp; go_at_call 48; have hh := HC2.out _ _ _ hO1 hown1; refine hh.mono ?_; rintro x u2 ⟨A2, c2, rfl, hc2, hown2, hO2⟩; have hs2 := HKB.out _ hO2)
        | (go_simp; go_at_call 48; have hO0 := (Only.refl Nil w).drew; have hh := HC1.out _ hO0; refine hh.mono ?_; rintro x u1 ⟨A1, c1, rfl, hc1, hown1, hOx⟩; have hO1 := hO0.thenNil hOx; have hs1 := HKB.out _ hO1)
        | fail)
    all_goals
      go_wp2_with fail
      go_meet
      case rel => exact ⟨A2, c2, rfl, hc2, hown2, hO2⟩
  case rest =>
  obtain ⟨A2, c2, rfl, hcc2, hown2, hO2⟩ := hcut
  have kb2 := HKB.out wc hO2
  have HW2 := Lib.hid hown2
  have HO2 := Lib.hid hO2
  have HCC2 := Lib.hid hcc2
  clear kb0 kb1 hown2 hO2 hcc2
  go_wp2_with fail
  go_loopw [24, 3] (fun i v wr => ∃ (k : Nat) (A1 : Option Addr) (c1 : Nat) (r : List UInt8), k ≤ N ∧ i = .int .i64 k ∧ v = .slice A1 r.length c1 ∧ r = E2 ++ (ms.take k).flatMap encM ∧ r.length ≤ c1 ∧ wr.ownsRow w.heap.size 5 1 (.slice A1 r.length c1) r.length (bcells r) ∧ Only Nil w wr) (fun i _ _ => N - (intOf i).toNat)
  case atStart => exact ⟨0, A2, c2, E2, Nat.zero_le _, rfl, rfl, by simp, HCC2.out, HW2.out, HO2.out⟩
  case round =>
    obtain ⟨k, A1, c1, r, hk, rfl, rfl, hr, hrc, hown, hO⟩ := hrel
    have hRL : r.length ≤ 20 + 1626 * k := by
      rw [hr, List.length_append]
      have h1 := encMs_len (ms := ms.take k) (fun m hm => HMS.out m (List.mem_of_mem_take hm))
      rw [List.length_take] at h1
      have := HL2.out
      omega
    have HRE := Lib.hid hr
    have HRC := Lib.hid hrc
    have HW1 := Lib.hid hown
    have HO := Lib.hid hO
    clear hr hrc hown hO kb2
    by_cases hlt : k < N
    · obtain ⟨⟨Am, cm, m⟩, hrk⟩ : ∃ r, rs[k]? = some r := ⟨rs[k]'(by rw [HRL.out]; exact hlt), List.getElem?_eq_getElem _⟩
      obtain ⟨hmf, hmd, hmb⟩ := HD.out _ (List.mem_of_getElem? hrk)
      have hmk : ms[k]? = some m := by rw [← HR2.out, List.getElem?_map, hrk]; rfl
      have hr2 : r ++ encM m = E2 ++ (ms.take (k + 1)).flatMap encM := by
        obtain ⟨hkl, hge⟩ := List.getElem?_eq_some_iff.1 hmk
        rw [List.take_succ_eq_append_getElem hkl, hge, List.flatMap_append, ← List.append_assoc, ← HRE.out]
        simp
      obtain ⟨b, off, rfl, hbw, hc⟩ := ((HRD.out.onlyNil HO.out (Nat.le_refl _))).row (fun r => mcells_length _ _ _) hrk (by omega)
      dsimp only at hc hmf hmd hmb
      have hw := wmsg_any A1 c1 w.heap.size r Am cm m
      have HWM := Lib.hid (fun u (hu : Only Nil wr u) => wmsg_any A1 c1 w.heap.size r Am cm m u (HO.out.thenNil hu).size (own_onlyNil HW1.out hu) HRC.out hmf (hmb.onlyNil (HO.out.thenNil hu) (Nat.le_refl _)) (by omega) (by omega))
      have HR2' := Lib.hid hr2
      obtain ⟨src, dst, kind, seq, a0, a1, a2, a3, data⟩ := m
      unfold mcells at hc HWM
      dsimp only at hc HWM
      obtain ⟨D, hD⟩ : ∃ D, data.length = D := ⟨_, rfl⟩
      rw [hD] at hc HWM
      have e0 : wr.cell? ⟨b, off + k * 9, none⟩ = some (.int .i64 src) := hc 0 _ rfl
      have e1 : wr.cell? ⟨b, off + k * 9 + 1, none⟩ = some (.int .i64 dst) := hc 1 _ rfl
      have e2 : wr.cell? ⟨b, off + k * 9 + 2, none⟩ = some (.int .i64 kind) := hc 2 _ rfl
      have e3 : wr.cell? ⟨b, off + k * 9 + 3, none⟩ = some (.int .i64 seq) := hc 3 _ rfl
      have e4 : wr.cell? ⟨b, off + k * 9 + 4, none⟩ = some (.int .i64 a0) := hc 4 _ rfl
      have e5 : wr.cell? ⟨b, off + k * 9 + 5, none⟩ = some (.int .i64 a1) := hc 5 _ rfl
      have e6 : wr.cell? ⟨b, off + k * 9 + 6, none⟩ = some (.int .i64 a2) := hc 6 _ rfl
      have e7 : wr.cell? ⟨b, off + k * 9 + 7, none⟩ = some (.int .i64 a3) := hc 7 _ rfl
      have e8 : wr.cell? ⟨b, off + k * 9 + 8, none⟩ = some (.slice Am D cm) := hc 8 _ rfl
      have hki : (k : Int) < N := by omega
      clear hc hw hmf hmd hmb hmk hrk hr2 hD
      go_wp2_with fail
      clear e0 e1 e2 e3 e4 e5 e6 e7 e8
      refine (HWM.out _ ((Only.refl _ _).alloc _)).mono ?_
      rintro e w2 ⟨A2', c2', rfl, hc2, hown2, hq2, hO2⟩
      obtain ⟨r', hr'⟩ : ∃ r', r ++ encM ⟨src, dst, kind, seq, a0, a1, a2, a3, data⟩ = r' := ⟨_, rfl⟩
      rw [hr'] at HR2' hc2 hown2 ⊢
      have HC' := Lib.hid hc2
      have HW' := Lib.hid hown2
      have HO' := Lib.hid ((HO.out.alloc _).trans hO2 (fun x hx => .inr (ownBlock_ge HW1.out hx)))
      clear hc2 hown2 hq2 hO2 hr'
      go_wp2_with fail
      go_roundw
      case rel => exact ⟨k + 1, A2', c2', r', by omega, by go_num, rfl, HR2'.out, HC'.out, HW'.out, HO'.out⟩
      case measure => simp [intOf]; omega
    · have hkN : k = N := by omega
      subst hkN
      have hfin := HF.out r HRE.out
      have HFF := Lib.hid hfin
      clear hfin
      go_wp2_with fail
      go_ret
      rw [← HFF.out]
      exact ⟨A1, c1, rfl, HRC.out, HW1.out, HO.out⟩

end Go.Proofs.Ytljfblnpgeconaa
