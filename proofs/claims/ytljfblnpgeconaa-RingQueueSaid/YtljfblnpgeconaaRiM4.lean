/-
  The walk of the reference's DecodeQueue on any bytes.
  Conditions: the slice can be read.
-/
import Derived.Test.YtljfblnpgeconaaRiM3
import Derived.Test.YtljfblnpgeconaaRqR
import Derived.Test.YtljfblnpgeconaaRiG1
namespace Go.Proofs.Ytljfblnpgeconaa
open Go.RowKit

theorem rMs_fail : ∀ (n : Nat) (l : List UInt8) (pos : Nat), (rMs n l pos true).2.2 = true := by
  intro n
  induction n with
  | zero => intro l pos; rfl
  | succ n ih => intro l pos; exact ih l pos
theorem rMs_more : ∀ (k j : Nat) (l : List UInt8) (pos : Nat) (f : Bool), (rMs k l pos f).2.2 = true → (rMs (k + j) l pos f).2.2 = true := by
  intro k j
  induction j with
  | zero => intro l pos f h; exact h
  | succ j ih =>
    intro l pos f h
    have := ih l pos f h
    rw [← Nat.add_assoc, rMs_snoc, this]
    rfl

def RDecQPost (r : Option (Nat × List M)) (w : World) (e : Ending) (w' : World) : Prop :=
  match r with
  | none => e = .returned (.tuple #[.agg #[.int .i64 0, .slice none 0 0], .int .i64 4]) ∧ Only Nil w w'
  | some (n, ms) => ∃ A c, e = .returned (.tuple #[.agg #[.int .i64 n, .slice A ms.length c], .int .i64 0]) ∧ MRow w' (fun x => w.heap.size ≤ x) A c ms ∧ Only Nil w w'

set_option maxRecDepth 100000 in
set_option maxHeartbeats 4000000 in
theorem Ref.decQueue_any (A : Option Addr) (c : Nat) (l : List UInt8) (w : World) (h : Bs w w.heap.size A l) (hl : l.length ≤ 1099511627776) (hc : l.length ≤ c) (hcm : c ≤ maxLen) :
    Calls Try.prog 40 #[.slice A l.length c] w (RDecQPost (decQu l) w) := by
  obtain ⟨i0, hi0, hz0, hz1, hz2⟩ := info_parts msg_info
  obtain ⟨r, hr⟩ : ∃ r, decQu l = r := ⟨_, rfl⟩
  have hr0 := hr
  obtain ⟨a, ha⟩ : ∃ a, rBnd 1 200 l 0 false = a := ⟨_, rfl⟩
  obtain ⟨b, hb⟩ : ∃ b, rBnd 0 a.1 l a.2.1 a.2.2 = b := ⟨_, rfl⟩
  have ha0 : 0 ≤ a.1 ∧ a.1 ≤ 200 := by
    cases hf : a.2.2 with
    | false => have := rBnd_in (lo := 1) (hi := 200) (l := l) (pos := 0) (f := false) (by rw [ha]; exact hf); rw [ha] at this; omega
    | true =>
      have := rBnd_zero (lo := 1) (hi := 200) (l := l) (pos := 0) (f := false) (by rw [ha]; exact hf)
      rw [ha] at this
      omega
  have hb0 : 0 ≤ b.1 ∧ b.1 ≤ a.1 := by
    cases hf : b.2.2 with
    | false => have := rBnd_in (lo := 0) (hi := a.1) (l := l) (pos := a.2.1) (f := a.2.2) (by rw [hb]; exact hf); rw [hb] at this; omega
    | true =>
      have := rBnd_zero (lo := 0) (hi := a.1) (l := l) (pos := a.2.1) (f := a.2.2) (by rw [hb]; exact hf)
      rw [hb] at this
      omega
  have hap : a.2.1 ≤ l.length := by rw [← ha]; exact rBnd_to _ (Nat.zero_le _)
  have hbp : b.2.1 ≤ l.length := by rw [← hb]; exact rBnd_to _ hap
  have hr' : r = if (rMs b.1.toNat l b.2.1 b.2.2).2.2 = true ∨ (rMs b.1.toNat l b.2.1 b.2.2).2.1 ≠ l.length then none else some (a.1.toNat, (rMs b.1.toNat l b.2.1 b.2.2).1) := by rw [← hr, ← hb, ← ha]; rfl
  rw [hr]
  obtain ⟨a0, a1, a2⟩ := a
  obtain ⟨b0, b1, b2⟩ := b
  dsimp only at ha0 hb0 hap hbp hr' hb ⊢
  obtain ⟨na, rfl⟩ : ∃ n : Nat, a0 = n := ⟨a0.toNat, by omega⟩
  obtain ⟨nb, rfl⟩ : ∃ n : Nat, b0 = n := ⟨b0.toNat, by omega⟩
  rw [Int.toNat_natCast, Int.toNat_natCast] at hr'
  have hnb : nb ≤ 200 := by omega
  have HRR := Lib.hid hr'
  have HRD := Lib.hid hr0
  have HA := Lib.hid ha
  have HB := Lib.hid hb
  have HAP := Lib.hid hap
  have HBP := Lib.hid hbp
  have H := Lib.hid h
  have HL := Lib.hid hl
  have HNA := Lib.hid ha0
  have HNB := Lib.hid hb0
  obtain ⟨rp, hrp⟩ : ∃ rp, rp = w.heap.size + 1 := ⟨_, rfl⟩
  obtain ⟨W0, hW0⟩ : ∃ W, w.alloc (.cells #[.int .i64 0, .slice none 0 0] 73) = W := ⟨_, rfl⟩
  obtain ⟨W, hW⟩ : ∃ V, W0.alloc (.cells #[.slice A l.length c, .int .i64 0, .bool false] 101) = V := ⟨_, rfl⟩
  have hO0 : Only Nil w W0 := by rw [← hW0]; exact (Only.refl _ _).alloc _
  have hO : Only Nil w W := by rw [← hW]; exact hO0.alloc _
  have hs0 : W0.heap.size = w.heap.size + 1 := by rw [← hW0, World.size_alloc]
  have hsW : W.heap.size = w.heap.size + 2 := by rw [← hW, World.size_alloc, hs0]
  have hb0g : Blk W w.heap.size 73 #[.int .i64 0, .slice none 0 0] := by rw [← hW, ← hW0]; exact (Blk.new _ _ _).alloc _
  have hR : RF W rp A c l 0 false := ⟨by rw [hrp, ← hW, ← hs0]; exact Blk.new _ _ _, (h.onlyNil hO (Nat.le_refl _)).up hO.size, hc⟩
  have HRP := Lib.hid hrp
  have HR1 := Lib.hid hR
  have HO1 := Lib.hid hO
  have HG1 := Lib.hid hb0g
  have HBS1 := Lib.hid (h.onlyNil hO (Nat.le_refl _))
  have HSW := Lib.hid hsW
  have HCM := Lib.hid hcm
  clear hr hr0 hr' ha hb hap hbp h hl ha0 hb0 hR hO hO0 hb0g hc hcm
  go_enter Try.func40, Try.ntmps40
  go_wp2_with fail
  clear hW0 hW hs0 hsW
  rw [← HRP.out]
  clear hrp
  refine (rfBnd_any 1 200 rp A c l 0 false _ HR1.out (Nat.zero_le _) HL.out).mono ?_
  rw [HA.out]
  rintro e w2 ⟨rfl, hR2, hO2⟩
  have HBS2 := Lib.hid (HBS1.out.box HR1.out.box (rr_no _ _ _ _ _) hO2 HO1.out.size)
  have HO2 := Lib.hid (HO1.out.trans hO2 fun x hx => .inr (by unfold One at hx; rw [hx, HRP.out]; omega))
  have HG2 := Lib.hid (HG1.out.only hO2 (fun hx => by unfold One at hx; rw [HRP.out] at hx; omega))
  have HR2 := Lib.hid hR2
  have HS2 := Lib.hid hO2.size
  clear hO2 hR2
  obtain ⟨w3, hw3⟩ : ∃ w3, w3 = w2.alloc (.cells #[.int .i64 na, .slice none 0 0] 73) := ⟨_, rfl⟩
  obtain ⟨gq, hgq⟩ : ∃ g, g = w2.heap.size := ⟨_, rfl⟩
  have hO3 : Only Nil w2 w3 := by rw [hw3]; exact (Only.refl _ _).alloc _
  have hb3 : Blk w3 gq 73 #[.int .i64 na, .slice none 0 0] := by rw [hw3, hgq]; exact Blk.new _ _ _
  have HGQ := Lib.hid (show w.heap.size < gq by have := HG2.out.lt; omega)
  have HBS3 := Lib.hid (HBS2.out.onlyNil hO3 HO2.out.size)
  have HR3 := Lib.hid (HR2.out.onlyNil hO3)
  have HG3 := Lib.hid (HG2.out.onlyNil hO3)
  have HB3 := Lib.hid hb3
  have HO3 := Lib.hid (HO2.out.thenNil hO3)
  have HW3 := Lib.hid hw3
  have HGG := Lib.hid hgq
  clear hO3 hb3 hw3 hgq
  go_wp2_with fail
  rw [← HGG.out, ← HW3.out]
  clear HGG HW3
  refine (rfBnd_any 0 na rp A c l a1 a2 _ HR3.out HAP.out HL.out).mono ?_
  rw [HB.out]
  rintro e w4 ⟨rfl, hR4, hO4⟩
  have HBS4 := Lib.hid (HBS3.out.box HR3.out.box (rr_no _ _ _ _ _) hO4 HO3.out.size)
  have HB4 := Lib.hid (HB3.out.only hO4 (fun hx => HR3.out.box.ne_ HB3.out (by decide) hx.symm))
  have HG4 := Lib.hid (HG3.out.only hO4 (fun hx => by unfold One at hx; rw [HRP.out] at hx; omega))
  have HO4 := Lib.hid (HO3.out.trans hO4 fun x hx => .inr (by unfold One at hx; rw [hx, HRP.out]; omega))
  have HR4 := Lib.hid hR4
  clear hO4 hR4
  go_wp2_with fail
  go_loopw [7] (fun i wr => ∃ (k : Nat) (Aq : Option Addr) (cq : Nat) (ms : List M) (q : Nat) (g : Bool), k ≤ nb ∧ i = .int .i64 k ∧ rMs k l b1 b2 = (ms, q, g) ∧ q ≤ l.length ∧ RF wr rp A c l q g ∧ Blk wr gq 73 #[.int .i64 na, .slice Aq ms.length cq] ∧ Blk wr w.heap.size 73 #[.int .i64 0, .slice none 0 0] ∧ MRow wr (fun x => w.heap.size ≤ x) Aq cq ms ∧ Bs wr w.heap.size A l ∧ Only Nil w wr) (fun i _ => nb - (intOf i).toNat)
  case atStart => exact ⟨0, none, 0, [], b1, b2, Nat.zero_le _, rfl, rfl, HBP.out, HR4.out, HB4.out, HG4.out, ⟨[], Nat.le_refl _, rfl, World.ownsRow_nil _ _ _ _, (fun q hq => by cases hq), (fun r hr => by cases hr)⟩, HBS4.out, HO4.out⟩
  case round =>
    obtain ⟨k, Aq, cq, ms, q, g, hk, rfl, hms, hq, hR, hB, hG, hM, hBS, hO⟩ := hrel
    have hml : ms.length = k := by have := rMs_length k l b1 b2; rw [hms] at this; exact this
    have hgw : gq ≠ w.heap.size := by have := HGQ.out; omega
    obtain ⟨N, hN⟩ : ∃ N, l.length = N := ⟨_, rfl⟩
    have hbx := hR.box
    rw [hN] at hbx
    have kp : ∀ i, wr.cell? ⟨rp, i, none⟩ = #[Value.slice A N c, .int .i64 q, .bool g][i]? := fun i => hbx.cell i
    clear hN hbx
    by_cases hlt : k < nb ∧ g = false
    · obtain ⟨hlt, rfl⟩ := hlt
      have hki : (k : Int) < nb := by omega
      obtain ⟨rs, r1, r2, r3, r4, r5⟩ := hM
      obtain ⟨z, hz⟩ : ∃ z, rMsg l q false = z := ⟨_, rfl⟩
      have hzd : z.1.data.length ≤ 1536 := by rw [← hz]; exact (rMsg_fits l q false).2
      have hzq : z.2.1 ≤ l.length := by rw [← hz]; exact rMsg_pos false hq
      have hms2 : rMs (k + 1) l b1 b2 = (ms ++ [z.1], z.2.1, z.2.2) := by rw [rMs_snoc, hms, hz]
      rw [hml] at r1 r3 r4 hB
      have hpq : rp ≠ gq := hR.box.ne_ hB (by decide)
      have hpg : rp ≠ w.heap.size := by rw [HRP.out]; omega
      have HCALL := Lib.hid (rfMsg_any rp A c l q false wr.drew (hR.onlyNil (Only.refl _ _).drew) hq HL.out HCM.out)
      rw [hz] at HCALL
      have kq0 : wr.drew.cell? ⟨gq, 1, none⟩ = some (.slice Aq k cq) := hB.drew.cell 1
      have ox : ∀ w1, Only (One rp) wr.drew w1 → ∀ o, (w1.alloc o).ownsRow 0 48 9 (.slice Aq k cq) k (rs.flatMap fun r => mcells r.1 r.2.1 r.2.2) := fun w1 h1 o => own_onlyNil (own_only r3 (((Only.refl (One rp) wr).drew).then_ h1) (fun y hy hx => own_blk_ne r3 hR.box (by decide) (by rw [hy, hx]))) ((Only.refl _ _).alloc o)
      have OX := Lib.hid ox
      have kb : ∀ w1, Only (One rp) wr.drew w1 → Blk w1 gq 73 #[.int .i64 na, .slice Aq k cq] := fun w1 h1 => hB.drew.only h1 (fun hx => hpq hx.symm)
      have KB := Lib.hid kb
      have kx : ∀ w1 o w5, Only (One rp) wr.drew w1 → (w1.alloc o).grownBy w5 (Value.slice Aq k cq).ownBlock → Blk w5 gq 73 #[.int .i64 na, .slice Aq k cq] := fun w1 o w5 h1 h2 => by
        have hh := ox w1 h1 o
        exact ((kb w1 h1).alloc o).only (Only.of_grown h2) (fun e => own_blk_ne hh ((kb w1 h1).alloc o) (by decide) e)
      have KX := Lib.hid kx
      have hfin : ∀ w1 A3 c3 w5 A5 c5 w', Only (One rp) wr.drew w1 → RF w1 rp A c l z.2.1 z.2.2 → z.1.data.length ≤ c3 → w1.ownsRow wr.heap.size 5 1 (.slice A3 z.1.data.length c3) z.1.data.length (bcells z.1.data) → k + 1 ≤ c5 → w5.ownsRow 0 48 9 (.slice A5 (k + 1) c5) (k + 1) ((rs.flatMap fun r => mcells r.1 r.2.1 r.2.2) ++ mcells A3 c3 z.1) →
          (w1.alloc (.cells (mcells A3 c3 z.1).toArray 48)).grownBy w5 (Value.slice Aq k cq).ownBlock → ((Value.slice A5 (k + 1) c5).ownBlock = (Value.slice Aq k cq).ownBlock ∨ (Value.slice A5 (k + 1) c5).ownBlock = some (w1.alloc (.cells (mcells A3 c3 z.1).toArray 48)).heap.size) →
          Only (One gq) w5 w' → Blk w' gq 73 #[.int .i64 na, .slice A5 (k + 1) c5] →
          RF w' rp A c l z.2.1 z.2.2 ∧ Blk w' gq 73 #[.int .i64 na, .slice A5 (ms ++ [z.1]).length c5] ∧ Blk w' w.heap.size 73 #[.int .i64 0, .slice none 0 0] ∧ MRow w' (fun x => w.heap.size ≤ x) A5 c5 (ms ++ [z.1]) ∧ Bs w' w.heap.size A l ∧ Only Nil w w' := by
        intro w1 A3 c3 w5 A5 c5 w' h1 h2 h3 h4 h5 h6 h7 h8 h9 h10
        have ha1 : Only Nil w1 (w1.alloc (.cells (mcells A3 c3 z.1).toArray 48)) := (Only.refl _ _).alloc _
        have hg := Only.of_grown h7
        have hrow := ox w1 h1 (.cells (mcells A3 c3 z.1).toArray 48)
        have hb5 := kx w1 _ w5 h1 h7
        have hBZ := hO.size
        have hs1 : w.heap.size ≤ w1.heap.size := Nat.le_trans hBZ h1.size
        have h11 := mrow_push (B := w.heap.size) (w := w1.alloc (.cells (mcells A3 c3 z.1).toArray 48)) hml r2 hrow r4 (fun r hr => by
          obtain ⟨g1, g2, g3, g4⟩ := r5 r hr
          exact ⟨g1, g2, own_onlyNil (own_only g3 (((Only.refl (One rp) wr).drew).then_ h1) (fun y hy hx => own_blk_ne g3 hR.box (by decide) (by rw [hy, hx]))) ha1, g4⟩) (Nat.le_trans hs1 ha1.size) hzd h3 (own_base (own_onlyNil h4 ha1) hBZ) h5 h6 h7 h8
        have hgr := hG.only (((Only.refl (One rp) wr).drew).then_ h1) (fun hx => hpg hx.symm)
        have hg5 := (hgr.onlyNil ha1).only hg (fun e => own_blk_ne hrow (hgr.onlyNil ha1) (by decide) e)
        have hbs1 : Bs w1 w.heap.size A l := hBS.box hR.box (rr_no _ _ _ _ _) (((Only.refl (One rp) wr).drew).then_ h1) hBZ
        have hbs5 : Bs w5 w.heap.size A l := (hbs1.onlyNil ha1 hs1).sep hg (Nat.le_trans hs1 ha1.size) (fun hn x hx hxx => by
          obtain ⟨b', o', e', hb', _⟩ := hbs1.2 hn
          rw [hx] at e'
          injection e' with e'
          have := r4 _ hxx
          rw [e'] at this
          dsimp only at this
          omega)
        have hs5 : w.heap.size ≤ w5.heap.size := Nat.le_trans (Nat.le_trans hs1 ha1.size) hg.size
        have hbs' : Bs w' w.heap.size A l := hbs5.box hb5 (qb_no _ _ _ _) h9 hs5
        have hbx := (h2.onlyNil ha1)
        have hbx5 := hbx.box.only hg (fun e => own_blk_ne hrow hbx.box (by decide) e)
        refine ⟨⟨hbx5.only h9 hpq, hbs'.up (Nat.le_trans hs5 h9.size), hbx.cap⟩, ?_, hg5.only h9 (fun hx => hgw hx.symm), h11.box hb5 (by decide) (by decide) h9, hbs', ?_⟩
        · rw [List.length_append, hml]; exact h10
        · exact ((((hO.thenNil ((Only.refl _ _).drew)).trans h1 (fun x hx => .inr (by unfold One at hx; rw [hx, HRP.out]; omega))).thenNil ha1).trans hg (fun x hx => .inr (r4 x hx))).trans h9 (fun x hx => .inr (by unfold One at hx; rw [hx]; have := HGQ.out; omega))
      have HF := Lib.hid hfin
      have HMS2 := Lib.hid hms2
      have HZQ := Lib.hid hzq
      have m1 : k + 1 ≤ maxLen := by unfold maxLen; omega
      have m2 : (k + 1) * 88 ≤ 140737488355328 := by omega
      have M1 := Lib.hid m1
      have M2 := Lib.hid m2
      obtain ⟨⟨src, dst, kind, seq, a0, a1', a2', a3, x⟩, zq, zg⟩ := z
      clear hfin hms2 hzq m1 m2 r1 r2 r3 r4 r5 hz hzd hms hq hR hB hG hBS hO ox kb kx hml hpq hpg hgw
      unfold RfMsgPost mcells at HCALL
      dsimp only at HCALL
      obtain ⟨X, hX⟩ : ∃ X, x.length = X := ⟨_, rfl⟩
      have HX := Lib.hid hX
      rw [hX] at HCALL
      clear hX
      go_wp2_with fail
      clear kp
      go_region_law (first
        | (go_simp; go_at_call 65; have hh := HCALL.out; refine hh.mono ?_; rintro e w1 ⟨A3, c3, rfl, hc3, hown3, hR3, hO3⟩; have kb1 := KB.out _ hO3; have kc1 := kb1.cell 1; have kd1 := fun o => (kb1.alloc o).cell 1)
        | (refine step_append_rd _ (by rfl) (.tmp 31) (.tmp 34) _ (by rfl) 0 48 i0 _ 9 88 Try.underlying45 hi0 hz0 hz1 hz2 rfl (by decide) (.slice Aq k cq) k _ (by simp [Act.eval]) (OX.out _ hO3 _) (w1.heap.size + 1) (some ⟨w1.heap.size, 0, none⟩) 1 1 _ (by simp [Act.eval]) (Rd.newBlock w1 #[Value.int .i64 src, .int .i64 dst, .int .i64 kind, .int .i64 seq, .int .i64 a0, .int .i64 a1', .int .i64 a2', .int .i64 a3, .slice A3 X c3] _ 9 1 rfl rfl) (msg_one _ _ _ _ _ _ _ _ _ _ _) (k + 1) rfl _ rfl M1.out M2.out (Nat.zero_le _) ?_; intro A5 c5 w5 hc5 hown5 hgr5 hat5; have kx5 := KX.out _ _ _ hO3 hgr5; have kc5 := kx5.cell 1; have kf5 := kx5.frozen 1)
        | fail)
      all_goals
        go_wp2_with fail
        go_roundw
        case rel =>
          have hF2 := HF.out
          unfold mcells at hF2
          dsimp only at hF2
          rw [HX.out] at hF2
          have hS : Only (One gq) w5 (w5.setCell ⟨gq, 1, none⟩ (.slice A5 (k + 1) c5)) := by (repeat' (first | with_reducible exact Only.refl _ _ | with_reducible refine Only.setCell ?_ (Or.inl ?_) _ | with_reducible refine Only.drewN ?_ _ | with_reducible refine Only.drew ?_ | with_reducible refine Only.alloc ?_ _ | (exact rfl)))
          obtain ⟨h1, h2, h3, h4, h5, h6⟩ := hF2 w1 A3 c3 w5 A5 c5 _ hO3 hR3 hc3 hown3 hc5 hown5 hgr5 hat5 hS (kx5.set_ 1 _)
          exact ⟨k + 1, A5, c5, _, zq, zg, by omega, by go_num, HMS2.out, HZQ.out, h1, h2, h3, h4, h5, h6⟩
        case measure => simp [intOf]; omega
    · have HC2 := Lib.hid (rfEnd_any rp A c l q g wr hR)
      have hrn : (g = true ∨ q ≠ l.length) → r = none := fun hend => by
        rw [HRR.out]
        cases g
        · have hkn : k = nb := by
            rcases Nat.lt_or_ge k nb with h1 | h1
            · exact absurd ⟨h1, rfl⟩ hlt
            · omega
          rw [← hkn, hms, if_pos hend]
        · have := rMs_more k (nb - k) l b1 b2 (by rw [hms])
          rw [show k + (nb - k) = nb by omega] at this
          rw [if_pos (.inl this)]
      have hout : ¬ (g = true ∨ q ≠ l.length) → r = some (na, ms) := fun hend => by
        rw [HRR.out]
        have hg : g = false := by cases g; rfl; exact absurd (.inl rfl) hend
        have hkn : k = nb := by
          rcases Nat.lt_or_ge k nb with h1 | h1
          · exact absurd ⟨h1, hg⟩ hlt
          · omega
        rw [← hkn, hms, if_neg hend]
      have hg1 := hG
      have kg : ∀ u, Only Nil wr u → (∀ i, u.cell? ⟨w.heap.size, i, none⟩ = #[Value.int .i64 0, .slice none 0 0][i]?) ∧ (∀ i, u.frozen? ⟨w.heap.size, i, none⟩ = false) := fun u hu => ⟨fun i => (hG.onlyNil hu).cell i, fun i => (hG.onlyNil hu).frozen i⟩
      have KG := Lib.hid kg
      have kq5 : ∀ u, Only Nil wr u → ∀ i, u.cell? ⟨gq, i, none⟩ = #[Value.int .i64 na, .slice Aq ms.length cq][i]? := fun u hu i => (hB.onlyNil hu).cell i
      have KQ := Lib.hid kq5
      have hstep : ∀ w5 v0 v1, Only Nil wr w5 → Only Nil w ((w5.setCell ⟨w.heap.size, 0, none⟩ v0).setCell ⟨w.heap.size, 1, none⟩ v1) := fun w5 v0 v1 h5 =>
        ((hO.thenNil h5).setCell (p := ⟨w.heap.size, 0, none⟩) (.inr (Nat.le_refl _)) v0).setCell (p := ⟨w.heap.size, 1, none⟩) (.inr (Nat.le_refl _)) v1
      have hMM : ∀ w5 v0 v1, Only Nil wr w5 → MRow ((w5.setCell ⟨w.heap.size, 0, none⟩ v0).setCell ⟨w.heap.size, 1, none⟩ v1) (fun x => w.heap.size ≤ x) Aq cq ms := fun w5 v0 v1 h5 =>
        (hM.onlyNil h5).box (hG.onlyNil h5) (by decide) (by decide) (((Only.refl (One w.heap.size) w5).setCell (p := ⟨w.heap.size, 0, none⟩) (.inl rfl) v0).setCell (p := ⟨w.heap.size, 1, none⟩) (.inl rfl) v1)
      have HST := Lib.hid hstep
      have HMM := Lib.hid hMM
      have hcase : (k < nb ∧ g = true) ∨ k = nb := by
        rcases Nat.lt_or_ge k nb with h1 | h1
        · left
          refine ⟨h1, ?_⟩
          cases g
          · exact absurd ⟨h1, rfl⟩ hlt
          · rfl
        · right; omega
      have HRN := Lib.hid hrn
      have HOUT := Lib.hid hout
      clear hrn hout kg kq5 hstep hMM hG hB hM hBS hR hO hms hml hq hgw hlt hg1
      by_cases hend : g = true ∨ q ≠ l.length
      · rw [if_pos hend] at HC2
        have HRR1 := Lib.hid (HRN.out hend)
        clear hend
        rcases hcase with ⟨hk2, rfl⟩ | hk2
        · have hki : (k : Int) < nb := by omega
          go_wp2_with fail
          refine HC2.out.mono ?_
          rintro e w5 ⟨rfl, hO5⟩
          have k5 := (KG.out _ hO5).1
          have f5 := (KG.out _ hO5).2
          have H5 := Lib.hid hO5
          clear hO5 kp
          go_wp2_with fail
          refine bodyPost_ret (v := .tuple #[.agg #[.int .i64 0, .slice none 0 0], .int .i64 4]) (by simp [results, Try.results40, go_sem, k5]) rfl ?_
          rw [HRR1.out]
          exact ⟨rfl, HST.out _ _ _ H5.out⟩
        · subst hk2
          go_wp2_with fail
          refine HC2.out.mono ?_
          rintro e w5 ⟨rfl, hO5⟩
          have k5 := (KG.out _ hO5).1
          have f5 := (KG.out _ hO5).2
          have H5 := Lib.hid hO5
          clear hO5 kp
          go_wp2_with fail
          refine bodyPost_ret (v := .tuple #[.agg #[.int .i64 0, .slice none 0 0], .int .i64 4]) (by simp [results, Try.results40, go_sem, k5]) rfl ?_
          rw [HRR1.out]
          exact ⟨rfl, HST.out _ _ _ H5.out⟩
      · rw [if_neg hend] at HC2
        have HRR1 := Lib.hid (HOUT.out hend)
        obtain ⟨n, hn⟩ : ∃ n, ms.length = n := ⟨_, rfl⟩
        rw [hn] at KQ
        have HN := Lib.hid hn
        have hk2 : k = nb := by
          rcases hcase with ⟨_, h1⟩ | h1
          · exact absurd (.inl h1) hend
          · exact h1
        clear hend hcase hn
        subst hk2
        go_wp2_with fail
        refine HC2.out.mono ?_
        rintro e w5 ⟨rfl, hO5⟩
        have k5 := (KG.out _ hO5).1
        have f5 := (KG.out _ hO5).2
        have kq := KQ.out _ hO5
        have H5 := Lib.hid hO5
        have hne : gq ≠ w.heap.size := by have := HGQ.out; omega
        clear hO5 kp
        go_wp2_with fail
        refine bodyPost_ret (v := .tuple #[.agg #[.int .i64 na, .slice Aq n cq], .int .i64 0]) (by simp [results, Try.results40, go_sem, k5, kq]) rfl ?_
        rw [HRR1.out]
        exact ⟨Aq, cq, by rw [HN.out], HMM.out _ _ _ H5.out, HST.out _ _ _ H5.out⟩

end Go.Proofs.Ytljfblnpgeconaa
