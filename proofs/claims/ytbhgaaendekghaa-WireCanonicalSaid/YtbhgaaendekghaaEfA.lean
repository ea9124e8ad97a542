/-
  The walk of wire.Effects, from no bytes.
  Conditions: the effects can be read; there are at most 200, with at most 2 to the power 27 bytes each.
-/
import Derived.Test.YtbhgaaendekghaaEfQ
import Derived.Test.YtbhgaaendekghaaMqE
import Derived.Test.YtbhgaaendekghaaWrE
import Derived.Test.YtbhgaaendekghaaInv
import Derived.Deep.Cut
import Derived.Deep.DeepCutAuto
namespace Go.Proofs.Ytbhgaaendekghaa
open Go.RowKit

/-- An effect whose Data can be read. -/
structure FR.ok (w : World) (B : Nat) (r : FR) : Prop where
  fits : r.x.fits
  cm : r.x.msg.data.length ≤ r.cm
  mm : r.cm ≤ maxLen
  bm : Bs w B r.Am r.x.msg.data
  cd : r.x.data.length ≤ r.cd
  md : r.cd ≤ maxLen
  bd : Bs w B r.Ad r.x.data
theorem FR.ok.onlyNil {w w' : World} {B : Nat} {r : FR} (h : FR.ok w B r) (hO : Only Nil w w') (hB : B ≤ w.heap.size) : FR.ok w' B r := ⟨h.fits, h.cm, h.mm, h.bm.onlyNil hO hB, h.cd, h.md, h.bd.onlyNil hO hB⟩
theorem FR.ok.up {w : World} {B B' : Nat} {r : FR} (h : FR.ok w B r) (hB : B ≤ B') : FR.ok w B' r := ⟨h.fits, h.cm, h.mm, h.bm.up hB, h.cd, h.md, h.bd.up hB⟩
/-- A list of effects that can be read. -/
structure Fs (w : World) (B : Nat) (A : Option Addr) (rs : List FR) : Prop where
  rd : Rd w B 15 A rs.length (rs.flatMap FR.cells)
  ok : ∀ r ∈ rs, FR.ok w B r
theorem Fs.onlyNil {w w' : World} {B : Nat} {A : Option Addr} {rs : List FR} (h : Fs w B A rs) (hO : Only Nil w w') (hB : B ≤ w.heap.size) : Fs w' B A rs := ⟨Rd.onlyNil h.rd hO hB, fun r hr => (h.ok r hr).onlyNil hO hB⟩
theorem Fs.up {w : World} {B B' : Nat} {A : Option Addr} {rs : List FR} (h : Fs w B A rs) (hB : B ≤ B') : Fs w B' A rs := ⟨Rd.more h.rd hB, fun r hr => (h.ok r hr).up hB⟩
theorem Fs.next {w w' : World} {A : Option Addr} {rs : List FR} (h : Fs w w.heap.size A rs) (hO : Only Nil w w') : Fs w' w'.heap.size A rs := (h.onlyNil hO (Nat.le_refl _)).up hO.size
theorem Fs.at_ {w : World} {B : Nat} {A : Option Addr} {rs : List FR} (h : Fs w B A rs) {k : Nat} {r : FR} (hk : rs[k]? = some r) :
    ∃ b off, A = some ⟨b, off, none⟩ ∧ b < B ∧ ∀ j u, r.cells[j]? = some u → w.cell? ⟨b, off + (k * 15 + j), none⟩ = some u :=
  Rd.row FR.cells_len h.rd hk (by omega)
theorem FL.fs {base : Nat} {w : World} {A : Option Addr} {c : Nat} {rs : List FR} (h : FL base w A c rs) : Fs w w.heap.size A rs :=
  ⟨Rd.of_own h.row, fun r hr => ⟨(h.data r hr).1, (h.data r hr).2.cm, cap_of_own (h.data r hr).2.om, (Bs.of_own (h.data r hr).2.om).1, (h.data r hr).2.cd, cap_of_own (h.data r hr).2.od, (Bs.of_own (h.data r hr).2.od).1⟩⟩

theorem own_uint8 {w w' : World} {base g : Nat} {t : TypeId} {cs : Array Value} {A : Option Addr} {n c : Nat} {xs : List Value} (h : w.ownsRow base 5 1 (.slice A n c) n xs) (hk : Blk w g t cs) (hne : 5 ≠ t) (hO : Only (fun x => (Value.slice A n c).ownBlock = some x) w w') : Blk w' g t cs :=
  hk.only hO (own_blk_ne h hk hne)

set_option maxRecDepth 100000 in
set_option maxHeartbeats 4000000 in
theorem weffects_any (A' : Option Addr) (c' : Nat) (rs : List FR) (w : World) (hE : Fs w w.heap.size A' rs) (hl : rs.length ≤ 200) (hd : ∀ r ∈ rs, r.x.msg.data.length ≤ 134217728 ∧ r.x.data.length ≤ 134217728) :
    Calls Try.prog 22 #[.slice none 0 0, .slice A' rs.length c'] w (BytesPost Nil (encFs (rs.map FR.x)) w) := by
  obtain ⟨N, hN⟩ : ∃ N, rs.length = N := ⟨_, rfl⟩
  have hi := int_any none 0 w.heap.size [] N w (Nat.le_refl _) (World.ownsRow_nil _ _ _ _) (by simp) (by omega)
  rw [List.nil_append] at hi
  have HI := Lib.hid hi
  have HE := Lib.hid hE
  have HN := Lib.hid hN
  have HD := Lib.hid hd
  rw [hN]
  rw [hN] at hl
  have HFS : Hid (encFs (rs.map FR.x) = encI N ++ encFn (rs.map FR.x)) := Lib.hid (by unfold encFs; rw [List.length_map, hN])
  have hNI := encI_len (N : Int) (zig_lt (by omega))
  clear hi hE hN hd
  go_enter Try.func22, Try.ntmps22
  go_wp2_with fail
  refine HI.out.mono ?_
  rintro e w1 ⟨A1, c1, rfl, hc1, hown1, _, hO1⟩
  have hO1n : Only Nil w w1 := hO1.more (fun x hx => by have h0 : (none : Option Nat) = some x := hx; cases h0)
  have HOW1 := Lib.hid hown1
  have HO1 := Lib.hid hO1n
  have HC1 := Lib.hid hc1
  clear hown1 hO1 hO1n hc1
  obtain ⟨L1, hL1⟩ : ∃ L1, (encI (N : Int)).length = L1 := ⟨_, rfl⟩
  have HL1 := Lib.hid hL1
  rw [hL1] at hNI ⊢
  clear hL1
  go_wp2_with fail
  go_loopw [13, 0] (fun i v wr => ∃ (k : Nat) (Ak : Option Addr) (ck M : Nat) (r : List UInt8), k ≤ N ∧ i = .int .i64 k ∧ v = .slice Ak M ck ∧ r.length = M ∧ M ≤ 10 + k * 268435800 ∧ r = encI N ++ encFn ((rs.take k).map FR.x) ∧ M ≤ ck ∧ wr.ownsRow w.heap.size 5 1 (.slice Ak M ck) M (bcells r) ∧ Only Nil w wr) (fun i _ _ => N - (intOf i).toNat)
  case atStart => exact ⟨0, A1, c1, L1, encI N, Nat.zero_le _, rfl, rfl, HL1.out, by omega, by simp [encFn], by rw [← HL1.out]; exact HC1.out, by rw [← HL1.out]; exact HOW1.out, HO1.out⟩
  case round =>
    obtain ⟨k, Ak, ck, M, r, hk, rfl, rfl, hM, hMb, hr, hck, hownk, hO⟩ := hrel
    have HM := Lib.hid hM
    have HMB := Lib.hid hMb
    have HR := Lib.hid hr
    have HCK := Lib.hid hck
    have HOWK := Lib.hid hownk
    have HO := Lib.hid hO
    clear hM hMb hr hck hownk hO
    by_cases hlt : k < N
    · obtain ⟨q, hq⟩ : ∃ q, rs[k]? = some q := ⟨rs[k]'(by rw [HN.out]; exact hlt), List.getElem?_eq_getElem _⟩
      obtain ⟨hkl, hge⟩ := List.getElem?_eq_some_iff.1 hq
      have htk : (rs.take (k + 1)).map FR.x = (rs.take k).map FR.x ++ [q.x] := by
        rw [List.take_succ_eq_append_getElem hkl, hge, List.map_append]
        rfl
      obtain ⟨b, off, rfl, _, hc⟩ := (HE.out.next HO.out).at_ hq
      have hokq := HE.out.ok q (List.mem_of_getElem? hq)
      have hdq := HD.out q (List.mem_of_getElem? hq)
      have hki : (k : Int) < N := by omega
      obtain ⟨w5, hw5⟩ : ∃ w5, w5 = wr.alloc (.cells q.cells.toArray 58) := ⟨_, rfl⟩
      have hO5 : Only Nil wr w5 := by rw [hw5]; exact (Only.refl _ _).alloc _
      have hb5 : Blk w5 wr.heap.size 58 q.cells.toArray := by rw [hw5]; exact Blk.new _ _ _
      have hok5 : ∀ u, Only (fun z => w.heap.size ≤ z) w5 u → FR.ok u w.heap.size q := fun u hu => hokq.onlyNil ((HO.out.thenNil hO5).trans hu (fun x hx => .inr hx)) (Nat.le_refl _)
      have hlenq := encF_len hokq.fits (by omega) (by omega)
      -- what is appended
      have hfq := hokq.fits
      obtain ⟨r1, hr1⟩ : ∃ r1, r ++ encI q.x.kind = r1 := ⟨_, rfl⟩
      obtain ⟨r2, hr2⟩ : ∃ r2, r1 ++ encL [q.x.a0, q.x.a1, q.x.a2, q.x.a3] = r2 := ⟨_, rfl⟩
      obtain ⟨r3, hr3⟩ : ∃ r3, r2 ++ encM q.x.msg = r3 := ⟨_, rfl⟩
      obtain ⟨r4, hr4⟩ : ∃ r4, r3 ++ encI q.x.data.length ++ q.x.data = r4 := ⟨_, rfl⟩
      have hall : r4 = r ++ encF q.x := by
        rw [← hr4, ← hr3, ← hr2, ← hr1]
        unfold encF Ef.nums encL
        simp [List.append_assoc]
      have hz := hfq.nums
      unfold Ef.nums at hz
      have hzk := hz q.x.kind (by simp)
      have hz4 : ∀ z ∈ [q.x.a0, q.x.a1, q.x.a2, q.x.a3], -9223372036854775808 ≤ z ∧ z ≤ 9223372036854775807 := fun z h => hz z (List.mem_cons_of_mem _ h)
      have l4 : r4.length ≤ M + 268435748 := by rw [hall, List.length_append, HM.out]; omega
      have l34 : r3.length ≤ r4.length := by rw [← hr4]; simp only [List.length_append]; omega
      have l23 : r2.length ≤ r3.length := by rw [← hr3]; simp only [List.length_append]; omega
      have l12 : r1.length ≤ r2.length := by rw [← hr2]; simp only [List.length_append]; omega
      have hMb := HMB.out
      have hMb2 : M ≤ 60000000000 := by have : k * 268435800 ≤ 200 * 268435800 := Nat.mul_le_mul_right _ (by omega); omega
      have hbase5 : w.heap.size ≤ w5.heap.size := Nat.le_trans HO.out.size hO5.size
      have hown5 := own_onlyNil HOWK.out hO5
      -- the four calls
      have hc1 : ∀ u, w.heap.size ≤ u.heap.size → u.ownsRow w.heap.size 5 1 (.slice Ak M ck) M (bcells r) → Calls Try.prog 21 #[.slice Ak M ck, .int .i64 q.x.kind] u (AppPost w.heap.size (.slice Ak M ck) r1 u) := fun u hu ho => by
        have := int_any Ak ck w.heap.size r q.x.kind u hu (by rw [HM.out]; exact ho) (by rw [HM.out]; omega) hzk
        rwa [HM.out, hr1] at this
      have hc2 : ∀ u (X : Option Addr) (cx g : Nat), w.heap.size ≤ u.heap.size → r1.length ≤ cx → u.ownsRow w.heap.size 5 1 (.slice X r1.length cx) r1.length (bcells r1) → Blk u g 58 q.cells.toArray → Calls Try.prog 59 #[.slice X r1.length cx, .slice (some ⟨g, 1, none⟩) 4 4] u (AppPost w.heap.size (.slice X r1.length cx) r2 u) := fun u X cx g hu hcx ho hg => by
        have := wplain_any X cx w.heap.size r1 (some ⟨g, 1, none⟩) 4 [q.x.a0, q.x.a1, q.x.a2, q.x.a3] u hu ho hcx (fun u' hu' => by
          have hg2 := own_uint8 ho hg (by decide) hu'
          refine ⟨rfl, fun _ => ⟨g, 1, rfl, hg.lt, fun j v hj => ?_⟩⟩
          rw [hg2.cell]
          match j, hj with
          | 0, hj => simpa [FR.cells] using hj
          | 1, hj => simpa [FR.cells] using hj
          | 2, hj => simpa [FR.cells] using hj
          | 3, hj => simpa [FR.cells] using hj
          | n + 4, hj => simp at hj) (by omega) (by simp) hz4
        rwa [hr2] at this
      have hc3 : ∀ u (X : Option Addr) (cx : Nat), Only (fun z => w.heap.size ≤ z) w5 u → r2.length ≤ cx → u.ownsRow w.heap.size 5 1 (.slice X r2.length cx) r2.length (bcells r2) → Calls Try.prog 26 #[.slice X r2.length cx, .agg (mcells q.Am q.cm q.x.msg).toArray] u (AppPost w.heap.size (.slice X r2.length cx) r3 u) := fun u X cx hu hcx ho => by
        have := wmsg_any X cx w.heap.size r2 q.Am q.cm q.x.msg u (Nat.le_trans hbase5 hu.size) ho hcx hfq.msg (hok5 u hu).bm (by omega) (by omega)
        rwa [hr3] at this
      have hc4 : ∀ u (X : Option Addr) (cx : Nat), Only (fun z => w.heap.size ≤ z) w5 u → r3.length ≤ cx → u.ownsRow w.heap.size 5 1 (.slice X r3.length cx) r3.length (bcells r3) → Calls Try.prog 31 #[.slice X r3.length cx, .slice q.Ad q.x.data.length q.cd] u (AppPost w.heap.size (.slice X r3.length cx) r4 u) := fun u X cx hu hcx ho => by
        have := bytes_any X cx w.heap.size r3 q.Ad q.cd q.x.data u (Nat.le_trans hbase5 hu.size) ho (fun u' hu' => by
          have h1 := (hok5 u hu).bd
          refine Rd.more (h1.sep hu' (Nat.le_trans hbase5 hu.size) (fun hn a ha hx => ?_)) (Nat.le_trans hbase5 hu.size)
          obtain ⟨g', off', e', hlt', _⟩ := h1.2 hn
          rw [ha] at e'
          injection e' with e'
          have := ownBlock_ge ho hx
          rw [e'] at this
          have h5 : g' < w.heap.size := hlt'
          have h6 : w.heap.size ≤ g' := this
          omega) (by omega) (by omega)
        rwa [hr4] at this
      have hnext : r4 = encI N ++ encFn ((rs.take (k + 1)).map FR.x) := by rw [hall, HR.out, htk, encFn_snoc, List.append_assoc]
      have HNEXT := Lib.hid hnext
      have HC1 := Lib.hid hc1
      have HC2 := Lib.hid hc2
      have HC3 := Lib.hid hc3
      have HC4 := Lib.hid hc4
      have HB5 := Lib.hid hb5
      have HW5 := Lib.hid hw5
      have HO5 := Lib.hid hO5
      have HOWN5 := Lib.hid hown5
      have HBASE5 := Lib.hid hbase5
      have HL4 := Lib.hid l4
      clear hnext hc1 hc2 hc3 hc4 hb5 hw5 hO5 hown5 hbase5 l4 l34 l23 l12 hall htk hokq hdq hok5 hlenq hfq hz hzk hz4 hr1 hr2 hr3 hr4 hq hkl hge hMb2 hMb
      obtain ⟨Am, cm, Ad, cd, ⟨kind, a0, a1, a2, a3, ⟨src, dst, mk, seq, b0, b1, b2, b3, md⟩, data⟩⟩ := q
      unfold FR.cells mcells at hc HW5 HB5 HC2
      unfold mcells at HC3
      simp only [List.cons_append, List.nil_append] at hc HW5 HB5 HC2
      dsimp only at HC1 HC3 HC4
      obtain ⟨X, hX⟩ : ∃ X, md.length = X := ⟨_, rfl⟩
      obtain ⟨Y, hY⟩ : ∃ Y, data.length = Y := ⟨_, rfl⟩
      rw [hX] at hc HW5 HB5 HC2 HC3
      rw [hY] at hc HW5 HB5 HC2 HC4
      have e0 : wr.cell? ⟨b, off + k * 15, none⟩ = some (.int .i64 kind) := by have := hc 0 _ rfl; rwa [Nat.add_zero] at this
      have e1 : wr.cell? ⟨b, off + k * 15 + 1, none⟩ = some (.int .i64 a0) := by have := hc 1 _ rfl; rwa [← Nat.add_assoc] at this
      have e2 : wr.cell? ⟨b, off + k * 15 + 2, none⟩ = some (.int .i64 a1) := by have := hc 2 _ rfl; rwa [← Nat.add_assoc] at this
      have e3 : wr.cell? ⟨b, off + k * 15 + 3, none⟩ = some (.int .i64 a2) := by have := hc 3 _ rfl; rwa [← Nat.add_assoc] at this
      have e4 : wr.cell? ⟨b, off + k * 15 + 4, none⟩ = some (.int .i64 a3) := by have := hc 4 _ rfl; rwa [← Nat.add_assoc] at this
      have e5 : wr.cell? ⟨b, off + k * 15 + 5, none⟩ = some (.int .i64 src) := by have := hc 5 _ rfl; rwa [← Nat.add_assoc] at this
      have e6 : wr.cell? ⟨b, off + k * 15 + 6, none⟩ = some (.int .i64 dst) := by have := hc 6 _ rfl; rwa [← Nat.add_assoc] at this
      have e7 : wr.cell? ⟨b, off + k * 15 + 7, none⟩ = some (.int .i64 mk) := by have := hc 7 _ rfl; rwa [← Nat.add_assoc] at this
      have e8 : wr.cell? ⟨b, off + k * 15 + 8, none⟩ = some (.int .i64 seq) := by have := hc 8 _ rfl; rwa [← Nat.add_assoc] at this
      have e9 : wr.cell? ⟨b, off + k * 15 + 9, none⟩ = some (.int .i64 b0) := by have := hc 9 _ rfl; rwa [← Nat.add_assoc] at this
      have e10 : wr.cell? ⟨b, off + k * 15 + 10, none⟩ = some (.int .i64 b1) := by have := hc 10 _ rfl; rwa [← Nat.add_assoc] at this
      have e11 : wr.cell? ⟨b, off + k * 15 + 11, none⟩ = some (.int .i64 b2) := by have := hc 11 _ rfl; rwa [← Nat.add_assoc] at this
      have e12 : wr.cell? ⟨b, off + k * 15 + 12, none⟩ = some (.int .i64 b3) := by have := hc 12 _ rfl; rwa [← Nat.add_assoc] at this
      have e13 : wr.cell? ⟨b, off + k * 15 + 13, none⟩ = some (.slice Am X cm) := by have := hc 13 _ rfl; rwa [← Nat.add_assoc] at this
      have e14 : wr.cell? ⟨b, off + k * 15 + 14, none⟩ = some (.slice Ad Y cd) := by have := hc 14 _ rfl; rwa [← Nat.add_assoc] at this
      clear hc hX hY
      go_upto_region 5 with fail
      rw [← HW5.out]
      clear e0 e1 e2 e3 e4 e5 e6 e7 e8 e9 e10 e11 e12 e13 e14
      go_cut [0] (fun v wd => OwnB 5 w.heap.size r2 v wd ∧ Blk wd wr.heap.size 58 #[Value.int .i64 kind, .int .i64 a0, .int .i64 a1, .int .i64 a2, .int .i64 a3, .int .i64 src, .int .i64 dst, .int .i64 mk, .int .i64 seq, .int .i64 b0, .int .i64 b1, .int .i64 b2, .int .i64 b3, .slice Am X cm, .slice Ad Y cd] ∧ Only (fun z => w.heap.size ≤ z) w5 wd)
      case first =>
        have HIN : Hid (∀ (L : Nat → Bool) (vs : Nat → Value) (u u' : World), Only Nil u u' → (fun L vs u => Only (fun z => w.heap.size ≤ z) w5 u ∧ Blk u wr.heap.size 58 #[Value.int .i64 kind, .int .i64 a0, .int .i64 a1, .int .i64 a2, .int .i64 a3, .int .i64 src, .int .i64 dst, .int .i64 mk, .int .i64 seq, .int .i64 b0, .int .i64 b1, .int .i64 b2, .int .i64 b3, .slice Am X cm, .slice Ad Y cd] ∧ (L 3 = false → u.ownsRow w.heap.size 5 1 (.slice Ak M ck) M (bcells r)) ∧ (L 3 = true → L 6 = false → OwnB 5 w.heap.size r1 (vs 3) u) ∧ (L 6 = true → OwnB 5 w.heap.size r2 (vs 6) u) ∧ (L 6 = true → L 3 = true)) L vs u → (fun L vs u => Only (fun z => w.heap.size ≤ z) w5 u ∧ Blk u wr.heap.size 58 #[Value.int .i64 kind, .int .i64 a0, .int .i64 a1, .int .i64 a2, .int .i64 a3, .int .i64 src, .int .i64 dst, .int .i64 mk, .int .i64 seq, .int .i64 b0, .int .i64 b1, .int .i64 b2, .int .i64 b3, .slice Am X cm, .slice Ad Y cd] ∧ (L 3 = false → u.ownsRow w.heap.size 5 1 (.slice Ak M ck) M (bcells r)) ∧ (L 3 = true → L 6 = false → OwnB 5 w.heap.size r1 (vs 3) u) ∧ (L 6 = true → OwnB 5 w.heap.size r2 (vs 6) u) ∧ (L 6 = true → L 3 = true)) L vs u') := Lib.hid (fun L vs u u' hO hI => by
          obtain ⟨q1, q2, q3, q4, q5, q6⟩ := hI; exact ⟨q1.thenNil hO, q2.onlyNil hO, fun h => own_onlyNil (q3 h) hO, fun h h' => Stays.ownNil _ _ _ hO (q4 h h'), fun h => Stays.ownNil _ _ _ hO (q5 h), q6⟩)
        refine wp_region_any (by kernel_rfl) ?_
        change wpAny _ _ _ _ _ _ _ (World.drew _)
        refine take_first (i := 0) (v := ?v0_3) (some 17) rfl (by rfl) (by kernel_rfl) (by kernel_rfl) (by kernel_rfl) (fun _ _ _ h => h) (Or.inl ⟨by rfl, ?hy0_3⟩) ?rest0_3
        case hy0_3 => (intro w; go_simp <;> with_reducible rfl)
        refine take_first (i := 1) (v := ?v1_3) (some 18) rfl (by rfl) (by kernel_rfl) (by kernel_rfl) (by kernel_rfl) (fun _ _ _ h => h) (Or.inl ⟨by rfl, ?hy1_3⟩) ?rest1_3
        case hy1_3 => (intro w; go_simp <;> with_reducible rfl)
        refine take_first (i := 4) (v := ?v4_3) (some 21) rfl (by rfl) (by kernel_rfl) (by kernel_rfl) (by kernel_rfl) (fun _ _ _ h => h) (Or.inl ⟨by rfl, ?hy4_3⟩) ?rest4_3
        case hy4_3 => (intro w; go_simp <;> with_reducible rfl)
        refine take_first (i := 5) (v := ?v5_3) (some 22) rfl (by rfl) (by kernel_rfl) (by kernel_rfl) (by kernel_rfl) (fun _ _ _ h => h) (Or.inl ⟨by rfl, ?hy5_3⟩) ?rest5_3
        case hy5_3 => (intro w; go_simp <;> with_reducible rfl)
        refine wpAny_inv2 (X := [(2, some 19, []), (3, some 20, [2]), (6, some 23, [3])]) (n := 3) (g := 1) (m := 7) (l0 := [true, true, false, false, true, true, false, false]) (T := fun z => w.heap.size ≤ z) (Ps := [Any, Any, Cst (.int .i64 kind), Any, Any, Any, Any])
          (I := fun L vs u => Only (fun z => w.heap.size ≤ z) w5 u ∧ Blk u wr.heap.size 58 #[Value.int .i64 kind, .int .i64 a0, .int .i64 a1, .int .i64 a2, .int .i64 a3, .int .i64 src, .int .i64 dst, .int .i64 mk, .int .i64 seq, .int .i64 b0, .int .i64 b1, .int .i64 b2, .int .i64 b3, .slice Am X cm, .slice Ad Y cd] ∧ (L 3 = false → u.ownsRow w.heap.size 5 1 (.slice Ak M ck) M (bcells r)) ∧ (L 3 = true → L 6 = false → OwnB 5 w.heap.size r1 (vs 3) u) ∧ (L 6 = true → OwnB 5 w.heap.size r2 (vs 6) u) ∧ (L 6 = true → L 3 = true))
          (by kernel_rfl) rfl (by kernel_rfl) (by kernel_rfl) (by kernel_rfl) rfl ?h0_3 ?st_3 ?i0_3 ?step_3 ?fin_3
        case h0_3 =>
          intro j hj v u
          match j, hj with
          | 0, hj => trivial
          | 1, hj => trivial
          | 2, hj => exact absurd hj (by decide)
          | 3, hj => exact absurd hj (by decide)
          | 4, hj => trivial
          | 5, hj => trivial
          | 6, hj => exact absurd hj (by decide)
          | 7, hj => exact absurd hj (by decide)
          | n + 8, hj => exact absurd hj (by simp)
        case st_3 =>
          intro p hp
          simp only [List.mem_cons, List.not_mem_nil, or_false] at hp
          rcases hp with rfl | rfl | rfl | rfl | rfl | rfl | rfl <;> first | exact Stays.cst _ | exact Stays.any
        case i0_3 =>
          intro vs
          exact ⟨(Only.refl _ _).drew, HB5.out.drew, (fun _ => HOWN5.out.drew), (fun h => by cases h), (fun h => by cases h), (fun h => by cases h)⟩
        case step_3 =>
          intro x hx L vs u hI hA h0 hd
          simp only [List.mem_cons, List.not_mem_nil, or_false] at hx
          rcases hx with rfl | rfl | rfl
          · refine inv_step _ (by rfl) (by rfl) (fun K' hK => ?_)
            simp only [putAll, Act.put, List.setIfInBounds_toArray, List.set_cons_succ, List.set_cons_zero] at hK ⊢
            have ks : ∀ i, u.cell? ⟨wr.heap.size, i, none⟩ = #[Value.int .i64 kind, .int .i64 a0, .int .i64 a1, .int .i64 a2, .int .i64 a3, .int .i64 src, .int .i64 dst, .int .i64 mk, .int .i64 seq, .int .i64 b0, .int .i64 b1, .int .i64 b2, .int .i64 b3, .slice Am X cm, .slice Ad Y cd][i]? := fun i => hI.2.1.cell i
            go_simp
            exact hK _ _ ⟨Only.refl _ _, hI, rfl⟩
          · refine inv_step _ (by rfl) (by rfl) (fun K' hK => ?_)
            simp only [putAll, Act.put, List.setIfInBounds_toArray, List.set_cons_succ, List.set_cons_zero] at hK ⊢
            have e2 := hA 2 (hd 2 (by simp))
            change vs 2 = (.int .i64 kind) at e2
            simp only [e2] at hK
            go_simp
            go_at_call 21
            refine (HC1.out u (Nat.le_trans HBASE5.out hI.1.size) (hI.2.2.1 h0)).mono ?_
            rintro z u2 ⟨A2, c2, rfl, hc2, ho2, _, hO2⟩
            go_simp
            have hT : Only (fun z => w.heap.size ≤ z) u u2 := hO2.more (fun x hx => ownBlock_ge (hI.2.2.1 h0) hx)
            exact hK _ _ ⟨hT, ⟨hI.1.then_ hT, own_uint8 (hI.2.2.1 h0) hI.2.1 (by decide) hO2, (fun h => by cases h), (fun _ _ => ⟨A2, c2, rfl, hc2, ho2⟩), (fun h => absurd ((hI.2.2.2.2.2 h).symm.trans h0) (by decide)), fun _ => rfl⟩, trivial⟩
          · refine inv_step _ (by rfl) (by rfl) (fun K' hK => ?_)
            simp only [putAll, Act.put, List.setIfInBounds_toArray, List.set_cons_succ, List.set_cons_zero] at hK ⊢
            obtain ⟨A3, c3, e3, hc3, ho3⟩ := hI.2.2.2.1 (hd 3 (by simp)) h0
            simp only [e3] at hK ⊢
            go_simp
            go_at_call 59
            refine (HC2.out u A3 c3 wr.heap.size (Nat.le_trans HBASE5.out hI.1.size) hc3 ho3 hI.2.1).mono ?_
            rintro z u2 ⟨A2, c2, rfl, hc2, ho2, _, hO2⟩
            go_simp
            have hT : Only (fun z => w.heap.size ≤ z) u u2 := hO2.more (fun x hx => ownBlock_ge ho3 hx)
            exact hK _ _ ⟨hT, ⟨hI.1.then_ hT, own_uint8 ho3 hI.2.1 (by decide) hO2, (fun h => absurd ((hd 3 (by simp)).symm.trans h) (by decide)), (fun _ h => by cases h), (fun _ => ⟨A2, c2, rfl, hc2, ho2⟩), fun _ => hd 3 (by simp)⟩, trivial⟩
        case fin_3 =>
          intro L vs u hI hL hA
          simp only [putAll, Act.put, List.setIfInBounds_toArray, List.set_cons_succ, List.set_cons_zero, List.drop_succ_cons, List.drop_zero]
          obtain ⟨A9, c9, e6, hc9, ho9⟩ := hI.2.2.2.2.1 (hL 6 (by omega))
          simp only [e6]
          have HI1 := Lib.hid hI.1
          have HI2 := Lib.hid hI.2.1
          have HC9 := Lib.hid hc9
          have HW9 := Lib.hid ho9
          clear hA hL hI hc9 ho9 e6
          go_wp2_with fail
          go_meet
          case rel => exact ⟨⟨A9, c9, rfl, HC9.out, HW9.out⟩, HI2.out, HI1.out⟩
      case rest =>
      obtain ⟨⟨A6, c6, rfl, hc6, ho6⟩, hb6, hO6⟩ := hcut
      obtain ⟨M2, hM2⟩ : ∃ M2, r2.length = M2 := ⟨_, rfl⟩
      rw [hM2] at hc6 ho6 HC3 ⊢
      have HC6 := Lib.hid hc6
      have HO6 := Lib.hid ho6
      have HB6 := Lib.hid hb6
      have HOC := Lib.hid hO6
      clear hc6 ho6 hb6 hO6 hM2
      go_wp2_with fail
      have HIN : Hid (∀ (L : Nat → Bool) (vs : Nat → Value) (u u' : World), Only Nil u u' → (fun L vs u => Only (fun z => w.heap.size ≤ z) wc u ∧ Blk u wr.heap.size 58 #[Value.int .i64 kind, .int .i64 a0, .int .i64 a1, .int .i64 a2, .int .i64 a3, .int .i64 src, .int .i64 dst, .int .i64 mk, .int .i64 seq, .int .i64 b0, .int .i64 b1, .int .i64 b2, .int .i64 b3, .slice Am X cm, .slice Ad Y cd] ∧ (L 3 = false → u.ownsRow w.heap.size 5 1 (.slice A6 M2 c6) M2 (bcells r2)) ∧ (L 3 = true → L 6 = false → OwnB 5 w.heap.size r3 (vs 3) u) ∧ (L 6 = true → OwnB 5 w.heap.size r4 (vs 6) u) ∧ (L 6 = true → L 3 = true)) L vs u → (fun L vs u => Only (fun z => w.heap.size ≤ z) wc u ∧ Blk u wr.heap.size 58 #[Value.int .i64 kind, .int .i64 a0, .int .i64 a1, .int .i64 a2, .int .i64 a3, .int .i64 src, .int .i64 dst, .int .i64 mk, .int .i64 seq, .int .i64 b0, .int .i64 b1, .int .i64 b2, .int .i64 b3, .slice Am X cm, .slice Ad Y cd] ∧ (L 3 = false → u.ownsRow w.heap.size 5 1 (.slice A6 M2 c6) M2 (bcells r2)) ∧ (L 3 = true → L 6 = false → OwnB 5 w.heap.size r3 (vs 3) u) ∧ (L 6 = true → OwnB 5 w.heap.size r4 (vs 6) u) ∧ (L 6 = true → L 3 = true)) L vs u') := Lib.hid (fun L vs u u' hO hI => by
        obtain ⟨q1, q2, q3, q4, q5, q6⟩ := hI; exact ⟨q1.thenNil hO, q2.onlyNil hO, fun h => own_onlyNil (q3 h) hO, fun h h' => Stays.ownNil _ _ _ hO (q4 h h'), fun h => Stays.ownNil _ _ _ hO (q5 h), q6⟩)
      refine wp_region_any (by kernel_rfl) ?_
      change wpAny _ _ _ _ _ _ _ (World.drew _)
      refine take_first (i := 0) (v := ?v0_4) (some 24) rfl (by rfl) (by kernel_rfl) (by kernel_rfl) (by kernel_rfl) (fun _ _ _ h => h) (Or.inl ⟨by rfl, ?hy0_4⟩) ?rest0_4
      case hy0_4 => (intro w; go_simp <;> with_reducible rfl)
      refine take_first (i := 1) (v := ?v1_4) (some 25) rfl (by rfl) (by kernel_rfl) (by kernel_rfl) (by kernel_rfl) (fun _ _ _ h => h) (Or.inl ⟨by rfl, ?hy1_4⟩) ?rest1_4
      case hy1_4 => (intro w; go_simp <;> with_reducible rfl)
      refine take_first (i := 4) (v := ?v4_4) (some 28) rfl (by rfl) (by kernel_rfl) (by kernel_rfl) (by kernel_rfl) (fun _ _ _ h => h) (Or.inl ⟨by rfl, ?hy4_4⟩) ?rest4_4
      case hy4_4 => (intro w; go_simp <;> with_reducible rfl)
      refine wpAny_inv2 (X := [(2, some 26, []), (3, some 27, [2]), (5, some 29, []), (6, some 30, [3, 5])]) (n := 4) (g := 1) (m := 7) (l0 := [true, true, false, false, true, false, false, false]) (T := fun z => w.heap.size ≤ z) (Ps := [Any, Any, Cst (.agg #[Value.int .i64 src, .int .i64 dst, .int .i64 mk, .int .i64 seq, .int .i64 b0, .int .i64 b1, .int .i64 b2, .int .i64 b3, .slice Am X cm]), Any, Any, Cst (.slice Ad Y cd), Any])
        (I := fun L vs u => Only (fun z => w.heap.size ≤ z) wc u ∧ Blk u wr.heap.size 58 #[Value.int .i64 kind, .int .i64 a0, .int .i64 a1, .int .i64 a2, .int .i64 a3, .int .i64 src, .int .i64 dst, .int .i64 mk, .int .i64 seq, .int .i64 b0, .int .i64 b1, .int .i64 b2, .int .i64 b3, .slice Am X cm, .slice Ad Y cd] ∧ (L 3 = false → u.ownsRow w.heap.size 5 1 (.slice A6 M2 c6) M2 (bcells r2)) ∧ (L 3 = true → L 6 = false → OwnB 5 w.heap.size r3 (vs 3) u) ∧ (L 6 = true → OwnB 5 w.heap.size r4 (vs 6) u) ∧ (L 6 = true → L 3 = true))
        (by kernel_rfl) rfl (by kernel_rfl) (by kernel_rfl) (by kernel_rfl) rfl ?h0_4 ?st_4 ?i0_4 ?step_4 ?fin_4
      case h0_4 =>
        intro j hj v u
        match j, hj with
        | 0, hj => trivial
        | 1, hj => trivial
        | 2, hj => exact absurd hj (by decide)
        | 3, hj => exact absurd hj (by decide)
        | 4, hj => trivial
        | 5, hj => exact absurd hj (by decide)
        | 6, hj => exact absurd hj (by decide)
        | 7, hj => exact absurd hj (by decide)
        | n + 8, hj => exact absurd hj (by simp)
      case st_4 =>
        intro p hp
        simp only [List.mem_cons, List.not_mem_nil, or_false] at hp
        rcases hp with rfl | rfl | rfl | rfl | rfl | rfl | rfl <;> first | exact Stays.cst _ | exact Stays.any
      case i0_4 =>
        intro vs
        exact ⟨(Only.refl _ _).drew, HB6.out.drew, (fun _ => HO6.out.drew), (fun h => by cases h), (fun h => by cases h), (fun h => by cases h)⟩
      case step_4 =>
        intro x hx L vs u hI hA h0 hd
        simp only [List.mem_cons, List.not_mem_nil, or_false] at hx
        rcases hx with rfl | rfl | rfl | rfl
        · refine inv_step _ (by rfl) (by rfl) (fun K' hK => ?_)
          simp only [putAll, Act.put, List.setIfInBounds_toArray, List.set_cons_succ, List.set_cons_zero] at hK ⊢
          have ks : ∀ i, u.cell? ⟨wr.heap.size, i, none⟩ = #[Value.int .i64 kind, .int .i64 a0, .int .i64 a1, .int .i64 a2, .int .i64 a3, .int .i64 src, .int .i64 dst, .int .i64 mk, .int .i64 seq, .int .i64 b0, .int .i64 b1, .int .i64 b2, .int .i64 b3, .slice Am X cm, .slice Ad Y cd][i]? := fun i => hI.2.1.cell i
          go_simp
          exact hK _ _ ⟨Only.refl _ _, hI, rfl⟩
        · refine inv_step _ (by rfl) (by rfl) (fun K' hK => ?_)
          simp only [putAll, Act.put, List.setIfInBounds_toArray, List.set_cons_succ, List.set_cons_zero] at hK ⊢
          have e2 := hA 2 (hd 2 (by simp))
          change vs 2 = (.agg #[Value.int .i64 src, .int .i64 dst, .int .i64 mk, .int .i64 seq, .int .i64 b0, .int .i64 b1, .int .i64 b2, .int .i64 b3, .slice Am X cm]) at e2
          simp only [e2] at hK
          go_simp
          go_at_call 26
          refine (HC3.out u A6 c6 (HOC.out.then_ hI.1) HC6.out (hI.2.2.1 h0)).mono ?_
          rintro z u2 ⟨A2, c2, rfl, hc2, ho2, _, hO2⟩
          go_simp
          have hT : Only (fun z => w.heap.size ≤ z) u u2 := hO2.more (fun x hx => ownBlock_ge (hI.2.2.1 h0) hx)
          exact hK _ _ ⟨hT, ⟨hI.1.then_ hT, own_uint8 (hI.2.2.1 h0) hI.2.1 (by decide) hO2, (fun h => by cases h), (fun _ _ => ⟨A2, c2, rfl, hc2, ho2⟩), (fun h => absurd ((hI.2.2.2.2.2 h).symm.trans h0) (by decide)), fun _ => rfl⟩, trivial⟩
        · refine inv_step _ (by rfl) (by rfl) (fun K' hK => ?_)
          simp only [putAll, Act.put, List.setIfInBounds_toArray, List.set_cons_succ, List.set_cons_zero] at hK ⊢
          have ks : ∀ i, u.cell? ⟨wr.heap.size, i, none⟩ = #[Value.int .i64 kind, .int .i64 a0, .int .i64 a1, .int .i64 a2, .int .i64 a3, .int .i64 src, .int .i64 dst, .int .i64 mk, .int .i64 seq, .int .i64 b0, .int .i64 b1, .int .i64 b2, .int .i64 b3, .slice Am X cm, .slice Ad Y cd][i]? := fun i => hI.2.1.cell i
          go_simp
          exact hK _ _ ⟨Only.refl _ _, hI, rfl⟩
        · refine inv_step _ (by rfl) (by rfl) (fun K' hK => ?_)
          simp only [putAll, Act.put, List.setIfInBounds_toArray, List.set_cons_succ, List.set_cons_zero] at hK ⊢
          have e5 := hA 5 (hd 5 (by simp))
          change vs 5 = (.slice Ad Y cd) at e5
          simp only [e5] at hK
          obtain ⟨A3, c3, e3, hc3, ho3⟩ := hI.2.2.2.1 (hd 3 (by simp)) h0
          simp only [e3] at hK ⊢
          go_simp
          go_at_call 31
          refine (HC4.out u A3 c3 (HOC.out.then_ hI.1) hc3 ho3).mono ?_
          rintro z u2 ⟨A2, c2, rfl, hc2, ho2, _, hO2⟩
          go_simp
          have hT : Only (fun z => w.heap.size ≤ z) u u2 := hO2.more (fun x hx => ownBlock_ge ho3 hx)
          exact hK _ _ ⟨hT, ⟨hI.1.then_ hT, own_uint8 ho3 hI.2.1 (by decide) hO2, (fun h => absurd ((hd 3 (by simp)).symm.trans h) (by decide)), (fun _ h => by cases h), (fun _ => ⟨A2, c2, rfl, hc2, ho2⟩), fun _ => hd 3 (by simp)⟩, trivial⟩
      case fin_4 =>
        intro L vs u hI hL hA
        simp only [putAll, Act.put, List.setIfInBounds_toArray, List.set_cons_succ, List.set_cons_zero, List.drop_succ_cons, List.drop_zero]
        obtain ⟨A9, c9, e6, hc9, ho9⟩ := hI.2.2.2.2.1 (hL 6 (by omega))
        simp only [e6]
        obtain ⟨M4, hM4⟩ : ∃ M4, r4.length = M4 := ⟨_, rfl⟩
        rw [hM4] at hc9 ho9 ⊢
        have HM4 := Lib.hid hM4
        have HI1 := Lib.hid (HOC.out.then_ hI.1)
        have HC9 := Lib.hid hc9
        have HW9 := Lib.hid ho9
        clear hA hL hI hc9 ho9 e6 hM4
        go_wp2_with fail
        go_roundw
        case rel => exact ⟨k + 1, A9, c9, M4, r4, by omega, by go_num, rfl, HM4.out, by have := HL4.out; have := HM4.out; have := HMB.out; omega, HNEXT.out, HC9.out, HW9.out, (HO.out.thenNil HO5.out).trans HI1.out (fun x hx => .inr hx)⟩
        case measure => simp [intOf]; omega
    · have hkN : k = N := by omega
      have hki : ¬ (k : Int) < N := by omega
      have hfin : r = encFs (rs.map FR.x) := by rw [HR.out, HFS.out, hkN, List.take_of_length_le (by rw [HN.out]; exact Nat.le_refl _)]
      have HF := Lib.hid hfin
      clear hfin hkN hlt
      go_wp2_with fail
      refine bodyPost_ret (v := .slice Ak M ck) (by simp [results, Try.results22, go_sem]) rfl ?_
      exact ⟨Ak, ck, by rw [← HF.out, HM.out], by rw [← HF.out, HM.out]; exact HCK.out, by rw [← HF.out, HM.out]; exact HOWK.out, HO.out⟩

end Go.Proofs.Ytbhgaaendekghaa
