/-
  The walk of ring.DecodeQueue on any bytes.
  Conditions: the slice can be read.
-/
import Derived.Test.YtljfblnpgeconaaRiM2
import Derived.Deep.RegionLaw
namespace Go.Proofs.Ytljfblnpgeconaa
open Go.RowKit

def DecQPost (r : Option (Nat × List M)) (w : World) (e : Ending) (w' : World) : Prop :=
  match r with
  | none => e = .returned (.tuple #[.pointer none, .int .i64 4]) ∧ Only Nil w w'
  | some (n, ms) => ∃ p, e = .returned (.tuple #[.pointer (some ⟨p, 0, none⟩), .int .i64 0]) ∧ QU w' (fun x => w.heap.size ≤ x ∧ x < w'.heap.size) p n ms ∧ Only Nil w w'

theorem rBnd_zero {lo hi : Int} {l : List UInt8} {pos : Nat} {f : Bool} (h : (rBnd lo hi l pos f).2.2 = true) : (rBnd lo hi l pos f).1 = 0 := by
  unfold rBnd at h ⊢
  split at h
  · rename_i h1; rw [if_pos h1]
  · rename_i h1
    rw [if_neg h1]
    split at h
    · rename_i hd
      split at h
      · cases h
      · rename_i h2; simp only [hd, if_neg h2]
    · rename_i hd; simp only [hd]
theorem msg_one (s d k q a b c e : Int) (A : Option Addr) (n m : Nat) : ∀ u ∈ #[Value.int .i64 s, .int .i64 d, .int .i64 k, .int .i64 q, .int .i64 a, .int .i64 b, .int .i64 c, .int .i64 e, .slice A n m].toList, u.oneCell' = true := by
  intro u hu
  simp only [List.mem_cons, List.not_mem_nil, or_false] at hu
  rcases hu with rfl | rfl | rfl | rfl | rfl | rfl | rfl | rfl | rfl <;> rfl
theorem qb_no (n : Int) (A : Option Addr) (k c : Nat) : NoU8 #[.int .i64 n, .slice A k c] := by
  intro i z
  match i with
  | 0 => simp
  | 1 => simp
  | n + 2 => simp

set_option maxRecDepth 100000 in
set_option maxHeartbeats 4000000 in
theorem decQueue_any (A : Option Addr) (c : Nat) (l : List UInt8) (w : World) (h : Bs w w.heap.size A l) (hl : l.length ≤ 1099511627776) :
    Calls Try.prog 39 #[.slice A l.length c] w (DecQPost (decQu l) w) := by
  obtain ⟨i0, hi0, hz0, hz1, hz2⟩ := info_parts msg_info
  obtain ⟨r, hr⟩ : ∃ r, decQu l = r := ⟨_, rfl⟩
  have hr0 := hr
  obtain ⟨a, ha⟩ : ∃ a, rBnd 1 200 l 0 false = a := ⟨_, rfl⟩
  obtain ⟨b, hb⟩ : ∃ b, rBnd 0 a.1 l a.2.1 a.2.2 = b := ⟨_, rfl⟩
  have ha0 : 0 ≤ a.1 ∧ a.1 ≤ 200 := by
    cases hf : a.2.2 with
    | false => have := rBnd_in (lo := 1) (hi := 200) (l := l) (pos := 0) (f := false) (by rw [ha]; exact hf); rw [ha] at this; omega
    | true =>
      have := rBnd_zero (lo := 1) (hi := 200) (l := l) (pos := 0) (f := false) (by rw [ha]; exact hf)
      rw [ha] at this
      omega
  have hb0 : 0 ≤ b.1 ∧ b.1 ≤ a.1 := by
    cases hf : b.2.2 with
    | false => have := rBnd_in (lo := 0) (hi := a.1) (l := l) (pos := a.2.1) (f := a.2.2) (by rw [hb]; exact hf); rw [hb] at this; omega
    | true =>
      have := rBnd_zero (lo := 0) (hi := a.1) (l := l) (pos := a.2.1) (f := a.2.2) (by rw [hb]; exact hf)
      rw [hb] at this
      omega
  have hap : a.2.1 ≤ l.length := by rw [← ha]; exact rBnd_to _ (Nat.zero_le _)
  have hbp : b.2.1 ≤ l.length := by rw [← hb]; exact rBnd_to _ hap
  have hr' : r = if (rMs b.1.toNat l b.2.1 b.2.2).2.2 = true ∨ (rMs b.1.toNat l b.2.1 b.2.2).2.1 ≠ l.length then none else some (a.1.toNat, (rMs b.1.toNat l b.2.1 b.2.2).1) := by rw [← hr, ← hb, ← ha]; rfl
  rw [hr]
  obtain ⟨a0, a1, a2⟩ := a
  obtain ⟨b0, b1, b2⟩ := b
  dsimp only at ha0 hb0 hap hbp hr' hb ⊢
  obtain ⟨na, rfl⟩ : ∃ n : Nat, a0 = n := ⟨a0.toNat, by omega⟩
  obtain ⟨nb, rfl⟩ : ∃ n : Nat, b0 = n := ⟨b0.toNat, by omega⟩
  rw [Int.toNat_natCast, Int.toNat_natCast] at hr'
  have hnb : nb ≤ 200 := by omega
  have HRR := Lib.hid hr'
  have HRD := Lib.hid hr0
  have HA := Lib.hid ha
  have HB := Lib.hid hb
  have HAP := Lib.hid hap
  have HBP := Lib.hid hbp
  have H := Lib.hid h
  have HL := Lib.hid hl
  have HNA := Lib.hid ha0
  have HNB := Lib.hid hb0
  clear hr hr0 hr' ha hb hap hbp h hl ha0 hb0
  go_enter Try.func39, Try.ntmps39
  go_wp2_with fail
  refine (rread_any A c l _ H.out HL.out).mono ?_
  rintro e w1 ⟨p, A1, c1, rfl, hp, hR1, hc1, hO1⟩
  have HO1 := Lib.hid hO1
  have HC1 := Lib.hid hc1
  have HP := Lib.hid hp
  have HR1 := Lib.hid hR1
  obtain ⟨B1, hB1⟩ : ∃ B, w1.heap.size = B := ⟨_, rfl⟩
  have hbs1 := hR1.bytes
  rw [hB1] at hbs1
  have HS1 := Lib.hid (show w.heap.size ≤ B1 by rw [← hB1]; exact hO1.size)
  have HE1 := Lib.hid hB1
  have HBS1 := Lib.hid hbs1
  clear hO1 hc1 hR1 hp hB1 hbs1
  go_wp2_with fail
  refine (rBnd_any 1 200 p A1 c1 l 0 false _ HR1.out (Nat.zero_le _) HL.out).mono ?_
  rw [HA.out]
  rintro e w2 ⟨rfl, hR2, hO2⟩
  have HBS2 := Lib.hid (HBS1.out.box HR1.out.box (rr_no _ _ _ _ _) hO2 (Nat.le_of_eq HE1.out.symm))
  have HZ2 := Lib.hid (show B1 ≤ w2.heap.size by rw [← HE1.out]; exact hO2.size)
  have HO2 := Lib.hid (HO1.out.trans hO2 fun x hx => .inr (by unfold One at hx; rw [hx]; exact HP.out))
  have HR2 := Lib.hid hR2
  clear hO2 hR2
  obtain ⟨w3, hw3⟩ : ∃ w3, w3 = w2.alloc (.cells #[.int .i64 na, .slice none 0 0] 88) := ⟨_, rfl⟩
  obtain ⟨gq, hgq⟩ : ∃ g, g = w2.heap.size := ⟨_, rfl⟩
  have hO3 : Only Nil w2 w3 := by rw [hw3]; exact (Only.refl _ _).alloc _
  have hb3 : Blk w3 gq 88 #[.int .i64 na, .slice none 0 0] := by rw [hw3, hgq]; exact Blk.new _ _ _
  have HGQ := Lib.hid (show w.heap.size ≤ gq by have := HO2.out.size; omega)
  have HBS3 := Lib.hid (HBS2.out.onlyNil hO3 HZ2.out)
  have HZ3 := Lib.hid (Nat.le_trans HZ2.out hO3.size)
  have HR3 := Lib.hid (HR2.out.onlyNil hO3)
  have HB3 := Lib.hid hb3
  have HO3 := Lib.hid (HO2.out.thenNil hO3)
  have HW3 := Lib.hid hw3
  have HGG := Lib.hid hgq
  clear hO3 hb3 hw3 hgq
  go_upto_region 3 with fail
  rw [← HGG.out, ← HW3.out]
  clear HGG HW3
  have kq : ∀ i, w3.cell? ⟨gq, i, none⟩ = #[Value.int .i64 na, .slice none 0 0][i]? := fun i => HB3.out.cell i
  go_wp2_with fail
  refine (rBnd_any 0 na p A1 c1 l a1 a2 _ HR3.out HAP.out HL.out).mono ?_
  rw [HB.out]
  rintro e w4 ⟨rfl, hR4, hO4⟩
  have HBS4 := Lib.hid (HBS3.out.box HR3.out.box (rr_no _ _ _ _ _) hO4 HZ3.out)
  have HZ4 := Lib.hid (Nat.le_trans HZ3.out hO4.size)
  have HB4 := Lib.hid (HB3.out.only hO4 (fun hx => HR3.out.box.ne_ HB3.out (by decide) hx.symm))
  have HO4 := Lib.hid (HO3.out.trans hO4 fun x hx => .inr (by unfold One at hx; rw [hx]; exact HP.out))
  have HR4 := Lib.hid hR4
  clear hO4 hR4 kq
  go_wp2_with fail
  go_loopw [18] (fun i wr => ∃ (k : Nat) (Aq : Option Addr) (cq : Nat) (ms : List M) (q : Nat) (g : Bool), k ≤ nb ∧ i = .int .i64 k ∧ rMs k l b1 b2 = (ms, q, g) ∧ q ≤ l.length ∧ RR wr p A1 c1 l q g ∧ Blk wr gq 88 #[.int .i64 na, .slice Aq ms.length cq] ∧ MRow wr (fun x => B1 ≤ x) Aq cq ms ∧ Bs wr B1 A1 l ∧ B1 ≤ wr.heap.size ∧ Only Nil w wr) (fun i _ => nb - (intOf i).toNat)
  case atStart => exact ⟨0, none, 0, [], b1, b2, Nat.zero_le _, rfl, rfl, HBP.out, HR4.out, HB4.out, ⟨[], Nat.le_refl _, rfl, World.ownsRow_nil _ _ _ _, (fun q hq => by cases hq), (fun r hr => by cases hr)⟩, HBS4.out, HZ4.out, HO4.out⟩
  case round =>
    obtain ⟨k, Aq, cq, ms, q, g, hk, rfl, hms, hq, hR, hB, hM, hBS, hBZ, hO⟩ := hrel
    have hml : ms.length = k := by have := rMs_length k l b1 b2; rw [hms] at this; exact this
    by_cases hlt : k < nb
    · have hki : (k : Int) < nb := by omega
      obtain ⟨rs, r1, r2, r3, r4, r5⟩ := hM
      obtain ⟨z, hz⟩ : ∃ z, rMsg l q g = z := ⟨_, rfl⟩
      have hzd : z.1.data.length ≤ 1536 := by rw [← hz]; exact (rMsg_fits l q g).2
      have hzq : z.2.1 ≤ l.length := by rw [← hz]; exact rMsg_pos g hq
      have hms2 : rMs (k + 1) l b1 b2 = (ms ++ [z.1], z.2.1, z.2.2) := by rw [rMs_snoc, hms, hz]
      rw [hml] at r1 r3 r4 hB
      have hpq : p ≠ gq := hR.box.ne_ hB (by decide)
      have HCALL := Lib.hid (rMsg_any p A1 c1 l q g wr.drew (hR.onlyNil (Only.refl _ _).drew) hq HL.out HC1.out)
      rw [hz] at HCALL
      have HBD := Lib.hid hB.drew
      have kq0 : wr.drew.cell? ⟨gq, 1, none⟩ = some (.slice Aq k cq) := hB.drew.cell 1
      have ox : ∀ w1, Only (One p) wr.drew w1 → ∀ o, (w1.alloc o).ownsRow 0 48 9 (.slice Aq k cq) k (rs.flatMap fun r => mcells r.1 r.2.1 r.2.2) := fun w1 h1 o => own_onlyNil (own_only r3 (((Only.refl (One p) wr).drew).then_ h1) (fun y hy hx => own_blk_ne r3 hR.box (by decide) (by rw [hy, hx]))) ((Only.refl _ _).alloc o)
      have OX := Lib.hid ox
      have kb : ∀ w1, Only (One p) wr.drew w1 → Blk w1 gq 88 #[.int .i64 na, .slice Aq k cq] := fun w1 h1 => hB.drew.only h1 (fun hx => hpq hx.symm)
      have KB := Lib.hid kb
      have kx : ∀ w1 o w5, Only (One p) wr.drew w1 → (w1.alloc o).grownBy w5 (Value.slice Aq k cq).ownBlock → Blk w5 gq 88 #[.int .i64 na, .slice Aq k cq] := fun w1 o w5 h1 h2 => by
        have hh := ox w1 h1 o
        exact ((kb w1 h1).alloc o).only (Only.of_grown h2) (fun e => own_blk_ne hh ((kb w1 h1).alloc o) (by decide) e)
      have KX := Lib.hid kx
      have hfin : ∀ w1 A3 c3 w5 A5 c5 w', Only (One p) wr.drew w1 → RR w1 p A1 c1 l z.2.1 z.2.2 → z.1.data.length ≤ c3 → w1.ownsRow wr.heap.size 5 1 (.slice A3 z.1.data.length c3) z.1.data.length (bcells z.1.data) → k + 1 ≤ c5 → w5.ownsRow 0 48 9 (.slice A5 (k + 1) c5) (k + 1) ((rs.flatMap fun r => mcells r.1 r.2.1 r.2.2) ++ mcells A3 c3 z.1) →
          (w1.alloc (.cells (mcells A3 c3 z.1).toArray 48)).grownBy w5 (Value.slice Aq k cq).ownBlock → ((Value.slice A5 (k + 1) c5).ownBlock = (Value.slice Aq k cq).ownBlock ∨ (Value.slice A5 (k + 1) c5).ownBlock = some (w1.alloc (.cells (mcells A3 c3 z.1).toArray 48)).heap.size) →
          Only (One gq) w5 w' → Blk w' gq 88 #[.int .i64 na, .slice A5 (k + 1) c5] →
          RR w' p A1 c1 l z.2.1 z.2.2 ∧ Blk w' gq 88 #[.int .i64 na, .slice A5 (ms ++ [z.1]).length c5] ∧ MRow w' (fun x => B1 ≤ x) A5 c5 (ms ++ [z.1]) ∧ Bs w' B1 A1 l ∧ B1 ≤ w'.heap.size ∧ Only Nil w w' := by
        intro w1 A3 c3 w5 A5 c5 w' h1 h2 h3 h4 h5 h6 h7 h8 h9 h10
        have ha1 : Only Nil w1 (w1.alloc (.cells (mcells A3 c3 z.1).toArray 48)) := (Only.refl _ _).alloc _
        have hg := Only.of_grown h7
        have hrow := ox w1 h1 (.cells (mcells A3 c3 z.1).toArray 48)
        have hb5 := kx w1 _ w5 h1 h7
        have hs1 : B1 ≤ w1.heap.size := Nat.le_trans hBZ h1.size
        have h11 := mrow_push (B := B1) (w := w1.alloc (.cells (mcells A3 c3 z.1).toArray 48)) hml r2 hrow r4 (fun r hr => by
          obtain ⟨g1, g2, g3, g4⟩ := r5 r hr
          exact ⟨g1, g2, own_onlyNil (own_only g3 (((Only.refl (One p) wr).drew).then_ h1) (fun y hy hx => own_blk_ne g3 hR.box (by decide) (by rw [hy, hx]))) ha1, g4⟩) (Nat.le_trans hs1 ha1.size) hzd h3 (own_base (own_onlyNil h4 ha1) hBZ) h5 h6 h7 h8
        have hbs1 : Bs w1 B1 A1 l := hBS.box hR.box (rr_no _ _ _ _ _) (((Only.refl (One p) wr).drew).then_ h1) hBZ
        have hbs5 : Bs w5 B1 A1 l := (hbs1.onlyNil ha1 hs1).sep hg (Nat.le_trans hs1 ha1.size) (fun hn x hx hxx => by
          obtain ⟨b', o', e', hb', _⟩ := hbs1.2 hn
          rw [hx] at e'
          injection e' with e'
          have := r4 _ hxx
          rw [e'] at this
          dsimp only at this
          omega)
        have hs5 : B1 ≤ w5.heap.size := Nat.le_trans (Nat.le_trans hs1 ha1.size) hg.size
        have hbs' : Bs w' B1 A1 l := hbs5.box hb5 (qb_no _ _ _ _) h9 hs5
        have hbx := (h2.onlyNil ha1)
        have hbx5 := hbx.box.only hg (fun e => own_blk_ne hrow hbx.box (by decide) e)
        refine ⟨⟨hbx5.only h9 hpq, hbs'.up (Nat.le_trans hs5 h9.size), hbx.cap⟩, ?_, h11.box hb5 (by decide) (by decide) h9, hbs', Nat.le_trans hs5 h9.size, ?_⟩
        · rw [List.length_append, hml]; exact h10
        · exact ((((hO.thenNil ((Only.refl _ _).drew)).trans h1 (fun x hx => .inr (by unfold One at hx; rw [hx]; exact HP.out))).thenNil ha1).trans hg (fun x hx => .inr (Nat.le_trans HS1.out (r4 x hx)))).trans h9 (fun x hx => .inr (by unfold One at hx; rw [hx]; exact HGQ.out))
      have HF := Lib.hid hfin
      have HMS2 := Lib.hid hms2
      have HZQ := Lib.hid hzq
      have m1 : k + 1 ≤ maxLen := by unfold maxLen; omega
      have m2 : (k + 1) * 88 ≤ 140737488355328 := by omega
      have M1 := Lib.hid m1
      have M2 := Lib.hid m2
      obtain ⟨⟨src, dst, kind, seq, a0, a1', a2', a3, x⟩, zq, zg⟩ := z
      clear hfin hms2 hzq m1 m2 r1 r2 r3 r4 r5 hz hzd hms hq hR hB hBS hBZ hO ox kb kx hml hpq
      unfold RMsgPost mcells at HCALL
      dsimp only at HCALL
      obtain ⟨X, hX⟩ : ∃ X, x.length = X := ⟨_, rfl⟩
      have HX := Lib.hid hX
      rw [hX] at HCALL
      clear hX
      go_wp2_with fail
      go_region_law (first
        | (go_simp; go_at_call 64; have hh := HCALL.out; refine hh.mono ?_; rintro e w1 ⟨A3, c3, rfl, hc3, hown3, hR3, hO3⟩; have kb1 := KB.out _ hO3; have kc1 := kb1.cell 1; have kd1 := fun o => (kb1.alloc o).cell 1)
        | (refine step_append_rd _ (by rfl) (.tmp 24) (.tmp 27) _ (by rfl) 0 48 i0 _ 9 88 Try.underlying45 hi0 hz0 hz1 hz2 rfl (by decide) (.slice Aq k cq) k _ (by simp [Act.eval]) (OX.out _ hO3 _) (w1.heap.size + 1) (some ⟨w1.heap.size, 0, none⟩) 1 1 _ (by simp [Act.eval]) (Rd.newBlock w1 #[Value.int .i64 src, .int .i64 dst, .int .i64 kind, .int .i64 seq, .int .i64 a0, .int .i64 a1', .int .i64 a2', .int .i64 a3, .slice A3 X c3] _ 9 1 rfl rfl) (msg_one _ _ _ _ _ _ _ _ _ _ _) (k + 1) rfl _ rfl M1.out M2.out (Nat.zero_le _) ?_; intro A5 c5 w5 hc5 hown5 hgr5 hat5; have kx5 := KX.out _ _ _ hO3 hgr5; have kc5 := kx5.cell 1; have kf5 := kx5.frozen 1)
        | fail)
      all_goals
        go_wp2_with fail
        go_roundw
        case rel =>
          have hF2 := HF.out
          unfold mcells at hF2
          dsimp only at hF2
          rw [HX.out] at hF2
          have hS : Only (One gq) w5 (w5.setCell ⟨gq, 1, none⟩ (.slice A5 (k + 1) c5)) := by (repeat' (first | with_reducible exact Only.refl _ _ | with_reducible refine Only.setCell ?_ (Or.inl ?_) _ | with_reducible refine Only.drewN ?_ _ | with_reducible refine Only.drew ?_ | with_reducible refine Only.alloc ?_ _ | (exact rfl)))
          obtain ⟨h1, h2, h3, h4, h5, h6⟩ := hF2 w1 A3 c3 w5 A5 c5 _ hO3 hR3 hc3 hown3 hc5 hown5 hgr5 hat5 hS (kx5.set_ 1 _)
          exact ⟨k + 1, A5, c5, _, zq, zg, by omega, by go_num, HMS2.out, HZQ.out, h1, h2, h3, h4, h5, h6⟩
        case measure => simp [intOf]; omega
    · have hkN : k = nb := by omega
      subst hkN
      have HC2 := Lib.hid (rEnd_any p A1 c1 l q g wr hR hq)
      by_cases hend : g = true ∨ q ≠ l.length
      · rw [if_pos hend] at HC2
        have hrn : r = none := by rw [HRR.out, hms, if_pos hend]
        have HRN := Lib.hid hrn
        have HO := Lib.hid hO
        clear hend hrn hms hq hR hB hM hBS hBZ hO hml
        go_wp2_with fail
        refine HC2.out.mono ?_
        rintro e w5 ⟨rfl, hO5⟩
        have HO5 := Lib.hid (HO.out.thenNil hO5)
        clear hO5
        go_wp2_with fail
        go_ret2
        have hfin : ∀ u, Only Nil w u → DecQPost r w (.returned (.tuple #[.pointer none, .int .i64 4])) u := fun u hu => by
          rw [HRN.out]
          exact ⟨rfl, hu⟩
        exact hfin _ HO5.out
      · rw [if_neg hend] at HC2
        have hrn : r = some (na, ms) := by rw [HRR.out, hms, if_neg hend]
        have hdec := decQu_enc (by rw [HRD.out]; exact hrn)
        have hfin : ∀ u, Only Nil wr u → DecQPost r w (.returned (.tuple #[.pointer (some ⟨gq, 0, none⟩), .int .i64 0])) u := fun u hu => by
          rw [hrn]
          have hB' := hB.onlyNil hu
          refine ⟨gq, rfl, ⟨⟨Aq, cq, hB', ((hM.onlyNil hu).bound).more (fun x hx => ⟨Nat.le_trans HS1.out hx.1, hx.2⟩)⟩, hdec.2.2.2.1, hdec.2.1, hdec.2.2.1, ⟨HGQ.out, hB'.lt⟩, fun x hx => hx.2⟩, hO.thenNil hu⟩
        have HFN := Lib.hid hfin
        clear hend hrn hms hq hR hB hM hBS hBZ hO hml hdec hfin
        go_wp2_with fail
        refine HC2.out.mono ?_
        rintro e w5 ⟨rfl, hO5⟩
        have HF5 := Lib.hid (HFN.out _ hO5)
        clear hO5
        go_wp2_with fail
        go_ret2
        exact HF5.out

end Go.Proofs.Ytljfblnpgeconaa
