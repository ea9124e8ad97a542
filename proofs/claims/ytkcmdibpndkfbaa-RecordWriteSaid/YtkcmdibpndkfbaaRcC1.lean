/-
  The walk of record's chain.add.
  Conditions: the entry can be read; the chain's bytes are its own.
-/
import Derived.Test.YtkcmdibpndkfbaaRcF
namespace Go.Proofs.Ytkcmdibpndkfbaa
open Go.RowKit

set_option maxRecDepth 100000 in
set_option maxHeartbeats 4000000 in
theorem add_any (base p : Nat) (A : Option Addr) (c : Nat) (out : List UInt8) (h : Nat) (r : ER) (w : World) (hb : base ≤ w.heap.size) (hch : CH base p A c out h w) (hr : ER.ok w base r) (hd : r.x.data.length ≤ 1536) (hl : out.length ≤ 1000000) (hh : h < 18446744073709551616) :
    Calls Try.prog 20 #[.pointer (some ⟨p, 0, none⟩), .agg r.cells.toArray] w (AddPost base p (out ++ frB r.x h) (fromS h (encE r.x)) w) := by
  obtain ⟨i0, hi0, hz0, hz1, hz2⟩ := info_parts byte_info
  obtain ⟨hbp, hbk, hcap, hown⟩ := hch
  obtain ⟨w1, hw1⟩ : ∃ w1, w1 = w.alloc (.cells r.cells.toArray 39) := ⟨_, rfl⟩
  have hO1 : Only Nil w w1 := by rw [hw1]; exact (Only.refl _ _).alloc _
  have hs1 : w1.heap.size = w.heap.size + 1 := by rw [hw1]; exact World.size_alloc _ _
  have hE := entry_enc r w1 ((hr.onlyNil hO1 hb).up (by omega)) (by omega)
  have hel := encE_len hr.fits (by omega : r.x.data.length ≤ 1099511627776)
  have hk1 : Blk w1 w.heap.size 39 r.cells.toArray := by rw [hw1]; exact Blk.new _ _ _
  have hfr : frB r.x h = be4 (encE r.x).length ++ be4 (4294967295 - (encE r.x).length) ++ encE r.x ++ le8 (fromS h (encE r.x)) := rfl
  rw [hfr]
  have hH2 := fromS_lt hh (encE r.x)
  obtain ⟨EB, hEB⟩ : ∃ EB, encE r.x = EB := ⟨_, rfl⟩
  rw [hEB] at hE hel hH2 ⊢
  obtain ⟨H2, hHe⟩ : ∃ H2, fromS h EB = H2 := ⟨_, rfl⟩
  rw [hHe] at hH2 ⊢
  obtain ⟨n, hn⟩ : ∃ n, EB.length = n := ⟨_, rfl⟩
  rw [hn] at hel ⊢
  obtain ⟨K, hK⟩ : ∃ K, 4294967295 - n = K := ⟨_, rfl⟩
  rw [hK]
  have hKi : (4294967295 : Int) - (n : Int) = (K : Int) := by omega
  unfold EncPost at hE
  rw [hn] at hE
  obtain ⟨N, hN⟩ : ∃ N, out.length = N := ⟨_, rfl⟩
  rw [hN] at hbk hcap
  have HE := Lib.hid hE
  have HW1 := Lib.hid hw1
  have HOWN := Lib.hid hown
  have HBK := Lib.hid (hbk.onlyNil hO1)
  have HO1 := Lib.hid hO1
  have HS1 := Lib.hid hs1
  have HN := Lib.hid hN
  have HNN := Lib.hid hn
  have HHE := Lib.hid hHe
  have HH := Lib.hid hh
  have HCAP := Lib.hid hcap
  have HB := Lib.hid hb
  have HBP := Lib.hid hbp
  have HELL := Lib.hid (show n ≤ 2000 by omega)
  have HLL := Lib.hid (show N ≤ 1000000 by omega)
  have kc : ∀ i, w1.cell? ⟨w.heap.size, i, none⟩ = r.cells.toArray[i]? := fun i => hk1.cell i
  clear hE hown hO1 hs1 hN hn hHe hh hcap hb hbp hl hel hk1 hr hd hbk hfr hEB hK
  obtain ⟨Ad, cd, ⟨kind, task, call, a0, a1, a2, result, data⟩⟩ := r
  unfold ER.cells at kc HE HW1 hw1 ⊢
  dsimp only at kc HE HW1 hw1 ⊢
  go_enter Try.func20, Try.ntmps20
  go_upto_region 1 with fail
  rw [← HW1.out]
  clear hw1
  go_wp2_with fail
  refine HE.out.mono ?_
  rintro e w2 ⟨A1, c1, rfl, hc1, hown1, hO2⟩
  have hb2 := HBK.out.onlyNil hO2
  have hf2 : ∀ i, w2.frozen? ⟨p, i, none⟩ = false := fun i => hb2.frozen i
  have kp2 : ∀ i, w2.cell? ⟨p, i, none⟩ = #[Value.slice A N c, .int .u64 h][i]? := fun i => hb2.cell i
  have hbs := (Bs.of_own hown1).1
  have hFr := from_any h A1 c1 EB w2 hbs HH.out (by have := HNN.out; have := HELL.out; omega)
  rw [HHE.out, HNN.out] at hFr
  have HFR := Lib.hid hFr
  have HOWN1 := Lib.hid hown1
  have HO2 := Lib.hid hO2
  have HB2 := Lib.hid hb2
  clear hown1 hc1 hO2 hb2 hbs hFr
  go_wp2_with fail
  refine HFR.out.mono ?_
  rintro e w2 ⟨rfl, rfl⟩
  obtain ⟨w3, hw3⟩ : ∃ w3, w3 = w2.setCell ⟨p, 1, none⟩ (.int .u64 H2) := ⟨_, rfl⟩
  have hO3 : Only (One p) w2 w3 := by rw [hw3]; exact (Only.refl (One p) w2).setCell (.inl (show One p p from rfl)) _
  have hb3 : Blk w3 p 49 #[.slice A N c, .int .u64 H2] := by rw [hw3]; exact HB2.out.set_ 1 _
  have hs3 : w3.heap.size = w2.heap.size := by rw [hw3]; exact World.size_setCell _ _ _
  have how2 := HOWN.out.onlyNil (HO1.out.thenNil HO2.out)
  have how3 := how2.blk HB2.out (by decide) hO3
  have howE3 := own_blk HOWN1.out HB2.out (by decide) hO3
  have hbase3 : base ≤ w3.heap.size := by have := HB.out; have := HO1.out.size; have := HO2.out.size; omega
  have h4 := four_any A c base out n w3 hbase3 how3 (by rw [HN.out]; exact HCAP.out) (by have := HN.out; have := HLL.out; omega)
  obtain ⟨r4, hr4⟩ : ∃ r4, out ++ be4 n = r4 := ⟨_, rfl⟩
  have hrl4 : r4.length = N + 4 := by rw [← hr4, List.length_append, HN.out]; rfl
  rw [hr4, HN.out] at h4
  unfold AppPost at h4
  rw [hrl4] at h4
  obtain ⟨N4, hN4⟩ : ∃ N4, N + 4 = N4 := ⟨_, rfl⟩
  rw [hN4] at h4 hrl4
  have kp3 : ∀ i, w3.cell? ⟨p, i, none⟩ = #[Value.slice A N c, .int .u64 H2][i]? := fun i => hb3.cell i
  have H4 := Lib.hid h4
  have HW3 := Lib.hid hw3
  have HO3 := Lib.hid hO3
  have HB3 := Lib.hid hb3
  have HS3 := Lib.hid hs3
  have HOW3 := Lib.hid how3
  have HOE3 := Lib.hid howE3
  have HR4 := Lib.hid hr4
  have HRL4 := Lib.hid hrl4
  have HN4 := Lib.hid hN4
  have HBASE3 := Lib.hid hbase3
  clear h4 hO3 hb3 hs3 how2 how3 howE3 hr4 hrl4 hN4 hbase3
  go_wp2_with fail
  rw [← HW3.out]
  clear hw3
  refine H4.out.mono ?_
  rintro e w4 ⟨A4, c4, rfl, hc4, hown4, hq4, hO4⟩
  have hbase4 : base ≤ w4.heap.size := Nat.le_trans HBASE3.out hO4.size
  have h5 := four_any A4 c4 base r4 K w4 hbase4 (.inl (by rw [HRL4.out]; exact hown4)) (by rw [HRL4.out]; exact hc4) (by have := HRL4.out; have := HN4.out; have := HLL.out; omega)
  obtain ⟨r5, hr5⟩ : ∃ r5, r4 ++ be4 K = r5 := ⟨_, rfl⟩
  have hrl5 : r5.length = N4 + 4 := by rw [← hr5, List.length_append, HRL4.out]; rfl
  rw [hr5, HRL4.out] at h5
  unfold AppPost at h5
  rw [hrl5] at h5
  obtain ⟨N5, hN5⟩ : ∃ N5, N4 + 4 = N5 := ⟨_, rfl⟩
  rw [hN5] at h5 hrl5
  have hb4 := HB3.out.only hO4 (by have := HOW3.out.blk_ne HB3.out (by decide); rw [HN.out] at this; exact this)
  have howE4 := own_only HOE3.out hO4 (fun q hq hx => by
    have h1 := ownBlock_ge HOWN1.out hq
    have h2 := HOWN.out.lt (by rw [HN.out]; exact hx)
    have h3 := HS1.out
    omega)
  have H5 := Lib.hid h5
  have HB4 := Lib.hid hb4
  have HOE4 := Lib.hid howE4
  have HQ4 := Lib.hid hq4
  have HO4 := Lib.hid hO4
  have HOW4 := Lib.hid hown4
  have HR5 := Lib.hid hr5
  have HRL5 := Lib.hid hrl5
  have HN5 := Lib.hid hN5
  clear h5 hb4 howE4 hq4 hO4 hown4 hr5 hrl5 hN5 hbase4 hc4
  go_wp2_with fail
  refine H5.out.mono ?_
  rintro e w5 ⟨A5, c5, rfl, hc5, hown5, hq5, hO5⟩
  have hb5 := HB4.out.only hO5 (own_blk_ne HOW4.out HB4.out (by decide))
  have howE5 := own_only HOE4.out hO5 (fun q hq hx => by
    have h1 := ownBlock_ge HOWN1.out hq
    have h2 := own_lt HOWN1.out hq
    have h3 := HS1.out
    rcases HQ4.out q hx with h | h
    · have := HOWN.out.lt (by rw [HN.out]; exact h)
      omega
    · have := HS3.out
      omega)
  obtain ⟨r6, hr6⟩ : ∃ r6, r5 ++ EB = r6 := ⟨_, rfl⟩
  obtain ⟨N6, hN6⟩ : ∃ N6, N5 + n = N6 := ⟨_, rfl⟩
  have hrl6 : r6.length = N6 := by rw [← hr6, List.length_append, HRL5.out, HNN.out, hN6]
  have hyc6 : bcells r5 ++ bcells EB = bcells r6 := by rw [← hr6, bcells_append]
  have hN6b : N6 ≤ 1010000 := by have := HN5.out; have := HN4.out; have := HLL.out; have := HELL.out; omega
  have hbase5 : base ≤ w5.heap.size := by have := HBASE3.out; have := HO4.out.size; have := hO5.size; omega
  have hrd5 : Rd w5 w5.heap.size 1 A1 n (bcells EB) := Rd.of_own howE5
  have HB5 := Lib.hid hb5
  have HQ5 := Lib.hid hq5
  have HO5 := Lib.hid hO5
  have HOW5 := Lib.hid hown5
  have HR6 := Lib.hid hr6
  have HN6 := Lib.hid hN6
  have HRL6 := Lib.hid hrl6
  have HYC6 := Lib.hid hyc6
  have HN6B := Lib.hid hN6b
  have HBASE5 := Lib.hid hbase5
  have HRD5 := Lib.hid hrd5
  clear hb5 howE5 hq5 hO5 hown5 hr6 hN6 hrl6 hyc6 hN6b hbase5 hrd5 hc5
  go_wp2_with (at_builtin; go_must (refine wpList_append_rd _ rfl (.tmp 28) (.tmp 29) _ rfl base 5 i0 (.int .u8 0) 1 1 Try.underlying26 hi0 hz0 hz1 hz2 rfl (by omega) (.slice A5 N5 c5) N5 (bcells r5) rfl HOW5.out w5.heap.size A1 n c1 (bcells EB) rfl HRD5.out (bcells_one _) N6 HN6.out (bcells r6) HYC6.out (by have := HN6B.out; have := HN6.out; unfold maxLen; omega) (by have := HN6B.out; have := HN6.out; omega) HBASE5.out ?_))
  intro A6 c6 w6 hc6 hown6 hgr6 hat6
  have hb6 := HB5.out.grown hgr6 (fun e => own_blk_ne HOW5.out HB5.out (by decide) e.symm)
  have hO6 : Only (fun z => base ≤ z) w5 w6 := grown_only HOW5.out hgr6
  have kp6 : ∀ i, w6.cell? ⟨p, i, none⟩ = #[Value.slice A N c, .int .u64 H2][i]? := fun i => hb6.cell i
  have fp6 : ∀ i, w6.frozen? ⟨p, i, none⟩ = false := fun i => hb6.frozen i
  have hOw6 : Only (fun z => base ≤ z) w w6 := by
    have t1 : Only (fun z => base ≤ z) w w3 := (HO1.out.thenNil HO2.out).any.trans HO3.out (fun x hx => .inl (by unfold One at hx; rw [hx]; exact HBP.out))
    have t2 := t1.trans HO4.out (fun x hx => .inl (HOWN.out.ge (by rw [HN.out]; exact hx)))
    have t3 := t2.trans HO5.out (fun x hx => .inl (ownBlock_ge HOW4.out hx))
    exact t3.then_ hO6
  have HB6 := Lib.hid hb6
  have HOW6 := Lib.hid hown6
  have HC6 := Lib.hid hc6
  have HO6 := Lib.hid hOw6
  clear hb6 hO6 hown6 hc6 hOw6 hgr6 hat6 kp2 kp3 kc hf2
  go_wp2_with fail
  have hch7 : CH base p A6 c6 r6 H2 (w6.setCell ⟨p, 0, none⟩ (.slice A6 N6 c6)) ∧ Only (fun z => base ≤ z) w (w6.setCell ⟨p, 0, none⟩ (.slice A6 N6 c6)) := by
    have hOz : Only (One p) w6 (w6.setCell ⟨p, 0, none⟩ (.slice A6 N6 c6)) := (Only.refl (One p) w6).setCell (.inl (show One p p from rfl)) _
    refine ⟨⟨HBP.out, ?_, ?_, ?_⟩, HO6.out.trans hOz (fun x hx => .inl (by unfold One at hx; rw [hx]; exact HBP.out))⟩
    · rw [HRL6.out]; exact HB6.out.set_ 0 _
    · rw [HRL6.out]; exact HC6.out
    · exact .inl (by rw [HRL6.out]; exact own_blk HOW6.out HB6.out (by decide) hOz)
  have HCH7 := Lib.hid hch7
  have hfr : out ++ (be4 n ++ be4 K ++ EB ++ le8 H2) = r6 ++ le8 H2 := by
    rw [← HR6.out, ← HR5.out, ← HR4.out]
    simp only [List.append_assoc]
  rw [hfr]
  clear hch7 hfr kp6 fp6
  go_loopw [33] (fun i wr => ∃ (k : Nat) (Ak : Option Addr) (ck : Nat), k ≤ 8 ∧ i = .int .i64 k ∧ CH base p Ak ck (r6 ++ le8to H2 k) H2 wr ∧ wr.ownsRow base 5 1 (.slice Ak (r6 ++ le8to H2 k).length ck) (r6 ++ le8to H2 k).length (bcells (r6 ++ le8to H2 k)) ∧ Only (fun z => base ≤ z) w wr) (fun i _ => 8 - (intOf i).toNat)
  case atStart => exact ⟨0, A6, c6, Nat.zero_le _, rfl, by rw [show le8to H2 0 = [] from rfl, List.append_nil]; exact HCH7.out.1, by rw [show le8to H2 0 = [] from rfl, List.append_nil, HRL6.out]; exact own_blk HOW6.out HB6.out (by decide) ((Only.refl (One p) w6).setCell (.inl (show One p p from rfl)) _), HCH7.out.2⟩
  case round =>
    obtain ⟨k, Ak, ck, hk, rfl, ⟨_, hbk, hck, _⟩, hownk, hOk⟩ := hrel
    obtain ⟨M, hM⟩ : ∃ M, (r6 ++ le8to H2 k).length = M := ⟨_, rfl⟩
    rw [hM] at hbk hck hownk
    have hMk : M = N6 + k := by rw [← hM, List.length_append, HRL6.out, le8to_len]
    have HM := Lib.hid hM
    have HMK := Lib.hid hMk
    have HBK7 := Lib.hid hbk
    have HCK := Lib.hid hck
    have HOWK := Lib.hid hownk
    have HOK := Lib.hid hOk
    have HK := Lib.hid hk
    clear hM hMk hck hownk hOk
    by_cases hlt : k < 8
    · have hki : (k : Int) < 8 := by omega
      have hy0 : (0 : Int) ≤ 8 * (k : Int) := by omega
      have hy1 : 8 * (k : Int) ≤ 64 := by omega
      have hbx := byte_at H2 k
      have hw8 : IntKind.u8.wrap ((H2 : Int) / 2 ^ (8 * k)) = ((UInt8.ofNat (H2 / 256 ^ k % 256)).toNat : Int) := by rw [← hbx]; simp [IntKind.wrap, IntKind.bits, IntKind.signed]
      have hwr : IntKind.i64.wrap (8 * (k : Int)) = 8 * (k : Int) := IntWalk.i64_in _ (by omega)
      have HS := Lib.hid (le8to_succ H2 k)
      obtain ⟨x, hx⟩ : ∃ x, UInt8.ofNat (H2 / 256 ^ k % 256) = x := ⟨_, rfl⟩
      rw [hx] at hbx hw8 HS
      have hr7 : r6 ++ le8to H2 (k + 1) = (r6 ++ le8to H2 k) ++ [x] := by rw [HS.out, List.append_assoc]
      obtain ⟨rr, hrr⟩ : ∃ rr, r6 ++ le8to H2 k = rr := ⟨_, rfl⟩
      rw [hrr] at hr7 HOWK HM
      have hyc : bcells rr ++ [Value.int .u8 (x.toNat : Int)] = bcells (rr ++ [x]) := by rw [bcells_append]; rfl
      have hlen : (rr ++ [x]).length = M + 1 := by rw [List.length_append, HM.out]; rfl
      have HYC := Lib.hid hyc
      have HR7 := Lib.hid hr7
      have HLEN := Lib.hid hlen
      have HBASE := Lib.hid (show base ≤ wr.heap.size from Nat.le_trans HB.out HOK.out.size)
      have kq : ∀ i, wr.cell? ⟨p, i, none⟩ = #[Value.slice Ak M ck, .int .u64 H2][i]? := fun i => hbk.cell i
      have HX := Lib.hid hbx
      clear hyc hr7 hlen hx hrr hbk hk hlt
      go_wp2_with fail
      have HIN : Hid (∀ (L : Nat → Bool) (vs : Nat → Value) (u u' : World), Only Nil u u' → (fun L vs u => Only (fun z => base ≤ z) wr u ∧ Blk u p 49 #[.slice Ak M ck, .int .u64 H2] ∧ (L 14 = false → u.ownsRow base 5 1 (.slice Ak M ck) M (bcells rr)) ∧ (L 13 = true → L 14 = false → NewB base #[Value.int .u8 (x.toNat : Int)] (vs 13) u) ∧ (L 14 = true → OwnB 5 base (rr ++ [x]) (vs 14) u)) L vs u → (fun L vs u => Only (fun z => base ≤ z) wr u ∧ Blk u p 49 #[.slice Ak M ck, .int .u64 H2] ∧ (L 14 = false → u.ownsRow base 5 1 (.slice Ak M ck) M (bcells rr)) ∧ (L 13 = true → L 14 = false → NewB base #[Value.int .u8 (x.toNat : Int)] (vs 13) u) ∧ (L 14 = true → OwnB 5 base (rr ++ [x]) (vs 14) u)) L vs u') := Lib.hid (fun L vs u u' hO hI => by
        obtain ⟨a1, a2, a3, a4, a5⟩ := hI; exact ⟨a1.thenNil hO, a2.onlyNil hO, fun h => own_onlyNil (a3 h) hO, fun h h' => (by obtain ⟨g, q1, q2, q3⟩ := a4 h h'; exact ⟨g, q1, q2, q3.onlyNil hO⟩), fun h => Stays.ownNil _ _ _ hO (a5 h)⟩)
      refine wp_region_any (by kernel_rfl) ?_
      change wpAny _ _ _ _ _ _ _ (World.drew _)
      refine take_first (i := 0) (v := ?v0_5) (some 36) rfl (by rfl) (by kernel_rfl) (by kernel_rfl) (by kernel_rfl) (fun _ _ _ h => h) (Or.inl ⟨by rfl, ?hy0_5⟩) ?rest0_5
      case hy0_5 => (intro w; go_simp <;> with_reducible rfl)
      refine take_first (i := 1) (v := ?v1_5) (some 37) rfl (by rfl) (by kernel_rfl) (by kernel_rfl) (by kernel_rfl) (fun _ _ _ h => h) (Or.inl ⟨by rfl, ?hy1_5⟩) ?rest1_5
      case hy1_5 => (intro w; go_simp <;> with_reducible rfl)
      refine take_first (i := 2) (v := ?v2_5) (some 38) rfl (by rfl) (by kernel_rfl) (by kernel_rfl) (by kernel_rfl) (fun _ _ _ h => h) (Or.inl ⟨by rfl, ?hy2_5⟩) ?rest2_5
      case hy2_5 => (intro w; go_simp <;> with_reducible rfl)
      refine take_first (i := 3) (v := ?v3_5) (some 39) rfl (by rfl) (by kernel_rfl) (by kernel_rfl) (by kernel_rfl) (fun _ _ _ h => h) (Or.inl ⟨by rfl, ?hy3_5⟩) ?rest3_5
      case hy3_5 => (intro w; go_simp <;> with_reducible rfl)
      refine take_first (i := 5) (v := ?v5_5) (some 41) rfl (by rfl) (by kernel_rfl) (by kernel_rfl) (by kernel_rfl) (fun _ _ _ h => h) (Or.inl ⟨by rfl, ?hy5_5⟩) ?rest5_5
      case hy5_5 => (intro w; go_simp <;> with_reducible rfl)
      refine take_first (i := 6) (v := ?v6_5) (some 42) rfl (by rfl) (by kernel_rfl) (by kernel_rfl) (by kernel_rfl) (fun _ _ _ h => h) (Or.inl ⟨by rfl, ?hy6_5⟩) ?rest6_5
      case hy6_5 => (intro w; go_simp <;> with_reducible rfl)
      refine take_first (i := 7) (v := ?v7_5) (some 43) rfl (by rfl) (by kernel_rfl) (by kernel_rfl) (by kernel_rfl) (fun _ _ _ h => h) (Or.inl ⟨by rfl, ?hy7_5⟩) ?rest7_5
      case hy7_5 => (intro w; go_simp <;> with_reducible rfl)
      refine take_first (i := 9) (v := ?v9_5) (some 45) rfl (by rfl) (by kernel_rfl) (by kernel_rfl) (by kernel_rfl) (fun _ _ _ h => h) (Or.inl ⟨by rfl, ?hy9_5⟩) ?rest9_5
      case hy9_5 => (intro w; go_simp <;> with_reducible rfl)
      refine wpAny_inv2 (X := [(4, some 40, []), (8, some 44, []), (10, some 46, []), (11, some 47, [8, 10]), (12, some 48, [11]), (13, some 49, [12]), (14, some 50, [4, 13])]) (n := 7) (g := 3) (m := 15) (l0 := [true, true, true, true, false, true, true, true, false, true, false, false, false, false, false, false, false, false]) (T := fun z => base ≤ z) (Ps := [Any, Any, Any, Any, Cst (.slice Ak M ck), Any, Any, Any, Cst (.int .u64 H2), Any, Cst (.int .i64 (8 * (k : Int))), Cst (.int .u64 ((H2 : Int) / 2 ^ (8 * k))), Cst (.int .u8 (x.toNat : Int)), Any, Any])
        (I := fun L vs u => Only (fun z => base ≤ z) wr u ∧ Blk u p 49 #[.slice Ak M ck, .int .u64 H2] ∧ (L 14 = false → u.ownsRow base 5 1 (.slice Ak M ck) M (bcells rr)) ∧ (L 13 = true → L 14 = false → NewB base #[Value.int .u8 (x.toNat : Int)] (vs 13) u) ∧ (L 14 = true → OwnB 5 base (rr ++ [x]) (vs 14) u))
        (by kernel_rfl) rfl (by kernel_rfl) (by kernel_rfl) (by kernel_rfl) rfl ?h0_5 ?st_5 ?i0_5 ?step_5 ?fin_5
      case h0_5 =>
        intro j hj v u
        match j, hj with
        | 0, hj => trivial
        | 1, hj => trivial
        | 2, hj => trivial
        | 3, hj => trivial
        | 4, hj => exact absurd hj (by decide)
        | 5, hj => trivial
        | 6, hj => trivial
        | 7, hj => trivial
        | 8, hj => exact absurd hj (by decide)
        | 9, hj => trivial
        | 10, hj => exact absurd hj (by decide)
        | 11, hj => exact absurd hj (by decide)
        | 12, hj => exact absurd hj (by decide)
        | 13, hj => exact absurd hj (by decide)
        | 14, hj => exact absurd hj (by decide)
        | 15, hj => exact absurd hj (by decide)
        | 16, hj => exact absurd hj (by decide)
        | 17, hj => exact absurd hj (by decide)
        | n + 18, hj => exact absurd hj (by simp)
      case st_5 =>
        intro p hp
        simp only [List.mem_cons, List.not_mem_nil, or_false] at hp
        rcases hp with rfl | rfl | rfl | rfl | rfl | rfl | rfl | rfl | rfl | rfl | rfl | rfl | rfl | rfl | rfl <;> first | exact Stays.cst _ | exact Stays.any
      case i0_5 =>
        intro vs
        exact ⟨(Only.refl _ _).drew, HBK7.out.drew, (fun _ => HOWK.out.drew), (fun h => by cases h), (fun h => by cases h)⟩
      case step_5 =>
        intro x hx L vs u hI hA h0 hd
        simp only [List.mem_cons, List.not_mem_nil, or_false] at hx
        rcases hx with rfl | rfl | rfl | rfl | rfl | rfl | rfl
        · refine inv_step _ (by rfl) (by rfl) (fun K' hK => ?_)
          simp only [putAll, Act.put, List.setIfInBounds_toArray, List.set_cons_succ, List.set_cons_zero] at hK ⊢
          have ks : ∀ i, u.cell? ⟨p, i, none⟩ = #[Value.slice Ak M ck, .int .u64 H2][i]? := fun i => hI.2.1.cell i
          go_simp
          exact hK _ _ ⟨Only.refl _ _, hI, rfl⟩
        · refine inv_step _ (by rfl) (by rfl) (fun K' hK => ?_)
          simp only [putAll, Act.put, List.setIfInBounds_toArray, List.set_cons_succ, List.set_cons_zero] at hK ⊢
          have ks : ∀ i, u.cell? ⟨p, i, none⟩ = #[Value.slice Ak M ck, .int .u64 H2][i]? := fun i => hI.2.1.cell i
          go_simp
          exact hK _ _ ⟨Only.refl _ _, hI, rfl⟩
        · refine inv_step _ (by rfl) (by rfl) (fun K' hK => ?_)
          simp only [putAll, Act.put, List.setIfInBounds_toArray, List.set_cons_succ, List.set_cons_zero] at hK ⊢
          go_simp
          exact hK _ _ ⟨Only.refl _ _, hI, rfl⟩
        · refine inv_step _ (by rfl) (by rfl) (fun K' hK => ?_)
          simp only [putAll, Act.put, List.setIfInBounds_toArray, List.set_cons_succ, List.set_cons_zero] at hK ⊢
          have e8 := hA 8 (hd 8 (by simp))
          change vs 8 = (.int .u64 H2) at e8
          have e10 := hA 10 (hd 10 (by simp))
          change vs 10 = (.int .i64 (8 * (k : Int))) at e10
          simp only [e8, e10] at hK
          go_simp
          exact hK _ _ ⟨Only.refl _ _, hI, rfl⟩
        · refine inv_step _ (by rfl) (by rfl) (fun K' hK => ?_)
          simp only [putAll, Act.put, List.setIfInBounds_toArray, List.set_cons_succ, List.set_cons_zero] at hK ⊢
          have e11 := hA 11 (hd 11 (by simp))
          change vs 11 = (.int .u64 ((H2 : Int) / 2 ^ (8 * k))) at e11
          simp only [e11] at hK
          go_simp
          exact hK _ _ ⟨Only.refl _ _, hI, rfl⟩
        · refine inv_step _ (by rfl) (by rfl) (fun K' hK => ?_)
          simp only [putAll, Act.put, List.setIfInBounds_toArray, List.set_cons_succ, List.set_cons_zero] at hK ⊢
          have e12 := hA 12 (hd 12 (by simp))
          change vs 12 = (.int .u8 (x.toNat : Int)) at e12
          simp only [e12] at hK
          go_simp
          have hI' := HIN.out L vs _ _ ((Only.refl Nil u).alloc (.cells #[Value.int .u8 (x.toNat : Int)] 5)) hI
          exact hK _ _ ⟨(Only.refl _ _).alloc _, ⟨hI'.1, hI'.2.1, hI'.2.2.1, fun _ _ => ⟨_, rfl, Nat.le_trans HBASE.out hI.1.size, Blk.new _ _ _⟩, hI'.2.2.2.2⟩, trivial⟩
        · refine inv_step _ (by rfl) (by rfl) (fun K' hK => ?_)
          simp only [putAll, Act.put, List.setIfInBounds_toArray, List.set_cons_succ, List.set_cons_zero] at hK
          have e4 := hA 4 (hd 4 (by simp))
          change vs 4 = (.slice Ak M ck) at e4
          obtain ⟨g13, e13, hg13, hb13⟩ := hI.2.2.2.1 (hd 13 (by simp)) h0
          have ho3 := hI.2.2.1 h0
          refine step_append_rd _ (by rfl) (.tmp 40) (.tmp 49) _ (by rfl) base 5 i0 (.int .u8 0) 1 1 Try.underlying26 hi0 hz0 hz1 hz2 rfl (by decide) (.slice Ak M ck) M (bcells rr) (by simp [Act.eval, putAll, Act.put, e4]) ho3 (g13 + 1) (some ⟨g13, 0, none⟩) 1 1 [Value.int .u8 (x.toNat : Int)] (by simp [Act.eval, putAll, Act.put, e13]) (Rd.blk hb13 rfl) (one_cell1 rfl) (M + 1) rfl (bcells (rr ++ [x])) HYC.out (by have := HMK.out; have := HN6B.out; have := HK.out; unfold maxLen; omega) (by have := HMK.out; have := HN6B.out; have := HK.out; omega) (Nat.le_trans HBASE.out hI.1.size) ?_
          intro A8 c8 w8 hc8 hown8 hgr8 hat8
          simp only [putAll, Act.put, List.setIfInBounds_toArray, List.set_cons_succ, List.set_cons_zero]
          have hT : Only (fun z => base ≤ z) _ w8 := grown_only ho3 hgr8
          exact hK _ _ ⟨hT, ⟨hI.1.then_ hT, hI.2.1.grown hgr8 (fun e => own_blk_ne ho3 hI.2.1 (by decide) e.symm), (fun h => by cases h), (fun _ h => by cases h), fun _ => ⟨A8, c8, by rw [HLEN.out]; rfl, by rw [HLEN.out]; exact hc8, by rw [HLEN.out]; exact hown8⟩⟩, trivial⟩
      case fin_5 =>
        intro L vs u hI hL hA
        simp only [putAll, Act.put, List.setIfInBounds_toArray, List.set_cons_succ, List.set_cons_zero, List.drop_succ_cons, List.drop_zero]
        obtain ⟨A9, c9, e14, hc9, ho9⟩ := hI.2.2.2.2 (hL 14 (by omega))
        rw [HLEN.out] at e14 hc9 ho9
        simp only [e14]
        have kr : ∀ i, u.cell? ⟨p, i, none⟩ = #[Value.slice Ak M ck, .int .u64 H2][i]? := fun i => hI.2.1.cell i
        have fr : ∀ i, u.frozen? ⟨p, i, none⟩ = false := fun i => hI.2.1.frozen i
        have HI1 := Lib.hid hI.1
        have HI2 := Lib.hid hI.2.1
        have HC9 := Lib.hid hc9
        have HW9 := Lib.hid ho9
        clear hA hL hI hc9 ho9 e14 kq
        go_wp2_with fail
        go_roundw
        case rel =>
          have hOz : ∀ v, Only (One p) u v → Blk v p 49 #[.slice A9 (M + 1) c9, .int .u64 H2] → CH base p A9 c9 (r6 ++ le8to H2 (k + 1)) H2 v ∧ v.ownsRow base 5 1 (.slice A9 (r6 ++ le8to H2 (k + 1)).length c9) (r6 ++ le8to H2 (k + 1)).length (bcells (r6 ++ le8to H2 (k + 1))) ∧ Only (fun z => base ≤ z) w v := fun v h1 h2 => by
            rw [HR7.out]
            have ho : v.ownsRow base 5 1 (.slice A9 (rr ++ [x]).length c9) (rr ++ [x]).length (bcells (rr ++ [x])) := by rw [HLEN.out]; exact own_blk HW9.out HI2.out (by decide) h1
            refine ⟨⟨HBP.out, ?_, ?_, .inl ho⟩, ho, (HOK.out.then_ HI1.out).trans h1 (fun x hx => .inl (by unfold One at hx; rw [hx]; exact HBP.out))⟩
            · rw [HLEN.out]; exact h2
            · rw [HLEN.out]; exact HC9.out
          refine ⟨k + 1, A9, c9, by omega, by go_num, hOz _ ?_ (HI2.out.set_ 0 _)⟩
          (repeat' (first | with_reducible exact Only.refl _ _ | with_reducible refine Only.setCell ?_ (Or.inl ?_) _ | with_reducible refine Only.drewN ?_ _ | with_reducible refine Only.drew ?_ | with_reducible refine Only.alloc ?_ _ | (exact rfl)))
        case measure => simp [intOf]; omega
    · have hk8 : k = 8 := by omega
      have hki : ¬ (k : Int) < 8 := by omega
      have hfin : CH base p Ak ck (r6 ++ le8 H2) H2 wr := by
        subst hk8
        refine ⟨HBP.out, ?_, ?_, ?_⟩
        · rw [show le8 H2 = le8to H2 8 from rfl, HM.out]; exact HBK7.out
        · rw [show le8 H2 = le8to H2 8 from rfl, HM.out]; exact HCK.out
        · exact .inl (by rw [show le8 H2 = le8to H2 8 from rfl, HM.out]; exact HOWK.out)
      have HF := Lib.hid hfin
      clear hfin hlt hk hk8 hbk
      go_wp2_with fail
      refine bodyPost_end (v := .tuple #[]) (by simp [results, Try.results20, go_sem]) rfl ?_
      exact ⟨rfl, ⟨Ak, ck, HF.out⟩, HOK.out⟩

end Go.Proofs.Ytkcmdibpndkfbaa
