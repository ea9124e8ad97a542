/-
  The walk of ring.DecodeBytes on any bytes.
  Conditions: the slice can be read.
-/
import Derived.Test.YtljfblnpgeconaaRiW2
import Derived.Test.YtljfblnpgeconaaWmBounded
import Derived.Test.YtljfblnpgeconaaWmBytes
import Derived.Test.YtljfblnpgeconaaWrE
namespace Go.Proofs.Ytljfblnpgeconaa
open Go.RowKit

/-- What both decoders of a queue of bytes answer: the size and the content. -/
def decQ (l : List UInt8) : Option (Nat × List UInt8) :=
  let a := rBnd 1 4096 l 0 false
  let b := rByt a.1 l a.2.1 a.2.2
  if b.2.2 = true ∨ b.2.1 ≠ l.length then none else some (a.1.toNat, b.1)

theorem rBnd_in {lo hi : Int} {l : List UInt8} {pos : Nat} {f : Bool} (h : (rBnd lo hi l pos f).2.2 = false) : lo ≤ (rBnd lo hi l pos f).1 ∧ (rBnd lo hi l pos f).1 ≤ hi := by
  unfold rBnd at h ⊢
  split at h
  · cases h
  · split at h
    · split at h
      · rename_i h1 _ _ _ _ h2; simp only [h1, h2]; simpa using h2
      · cases h
    · cases h
theorem rByt_in {most : Int} {l : List UInt8} {pos : Nat} {f : Bool} (h : (rByt most l pos f).2.2 = false) : f = false ∧ ((rByt most l pos f).1.length : Int) ≤ most := by
  unfold rByt at h ⊢
  split at h
  · cases h
  · rename_i h1
    refine ⟨by simpa using h1, ?_⟩
    rw [if_neg h1]
    split at h
    · rename_i hd
      unfold decB at hd
      split at hd
      · split at hd
        · rename_i h2
          injection hd with hd
          injection hd with hd _
          subst hd
          dsimp only
          rw [List.length_take]
          omega
        · cases hd
      · cases hd
    · cases h

def DecBPost (r : Option (Nat × List UInt8)) (w : World) (e : Ending) (w' : World) : Prop :=
  match r with
  | none => e = .returned (.tuple #[.pointer none, .int .i64 4]) ∧ Only Nil w w'
  | some (n, x) => ∃ p g, e = .returned (.tuple #[.pointer (some ⟨p, 0, none⟩), .int .i64 0]) ∧ w.heap.size ≤ p ∧ w.heap.size ≤ g ∧ RB w' p g n x ∧ Only Nil w w'

theorem rBnd_to {lo hi : Int} {l : List UInt8} {pos : Nat} (f : Bool) (hp : pos ≤ l.length) : (rBnd lo hi l pos f).2.1 ≤ l.length := by
  unfold rBnd
  split
  · exact hp
  · split
    · rename_i hd
      have := dec_len hd
      rw [List.length_drop] at this
      split
      · dsimp only; omega
      · exact hp
    · exact hp
theorem rByt_to {most : Int} {l : List UInt8} {pos : Nat} (f : Bool) (hp : pos ≤ l.length) : (rByt most l pos f).2.1 ≤ l.length := by
  unfold rByt
  split
  · exact hp
  · split
    · rename_i hd
      unfold decB at hd
      split at hd
      · rename_i hz
        have := dec_len hz
        rw [List.length_drop] at this
        split at hd
        · rename_i h2
          injection hd with hd
          injection hd with hd hd2
          rw [List.length_drop] at h2
          dsimp only
          omega
        · cases hd
      · cases hd
    · exact hp

/-- Put into a new queue, all of it. -/
theorem putNew (w4 : World) (n : Nat) (x : List UInt8) (Ax : Option Addr) (cx : Nat) (h0 : 1 ≤ n) (h1 : n ≤ 4096) (hx : x.length ≤ n) (hb : Bs w4 w4.heap.size Ax x) :
    Calls Try.prog 13 #[.pointer (some ⟨w4.heap.size + 1, 0, none⟩), .slice Ax x.length cx] ((w4.alloc (.cells (bcells (List.replicate n 0)).toArray 5)).alloc (.cells #[.slice (some ⟨w4.heap.size, 0, none⟩) n n, .int .i64 0, .int .i64 0] 84)) fun e w' => e = .returned (.int .i64 (min x.length (n - 0) : Nat)) ∧ RB w' (w4.heap.size + 1) w4.heap.size n x ∧ Only Nil w4 w' := by
  have hT : RBf ((w4.alloc (.cells (bcells (List.replicate n 0)).toArray 5)).alloc (.cells #[.slice (some ⟨w4.heap.size, 0, none⟩) n n, .int .i64 0, .int .i64 0] 84)) (w4.heap.size + 1) w4.heap.size n 0 (List.replicate n 0) [] := by
    refine ⟨?_, (Blk.new w4 _ _).alloc _, by simp, h0, h1, by omega, by simp, fun i hi => absurd hi (by simp)⟩
    have := Blk.new (w4.alloc (.cells (bcells (List.replicate n 0)).toArray 5)) 84 #[.slice (some ⟨w4.heap.size, 0, none⟩) n n, .int .i64 0, .int .i64 0]
    simpa using this
  have hO5 : Only Nil w4 ((w4.alloc (.cells (bcells (List.replicate n 0)).toArray 5)).alloc (.cells #[.slice (some ⟨w4.heap.size, 0, none⟩) n n, .int .i64 0, .int .i64 0] 84)) := ((Only.refl _ _).alloc _).alloc _
  obtain ⟨w5, hw5⟩ : ∃ w5, ((w4.alloc (.cells (bcells (List.replicate n 0)).toArray 5)).alloc (.cells #[.slice (some ⟨w4.heap.size, 0, none⟩) n n, .int .i64 0, .int .i64 0] 84)) = w5 := ⟨_, rfl⟩
  rw [hw5] at hT hO5 ⊢
  have hB5 : Bs w5 w5.heap.size Ax x := (hb.onlyNil hO5 (Nat.le_refl _)).up hO5.size
  refine (put_any (cap := cx) w5 ⟨_, _, hT⟩ hB5 (fun hx a ea => ?_) (by omega)).mono ?_
  · obtain ⟨g, off, e, hg, _⟩ := hb.2 hx
    rw [ea] at e
    injection e with e
    subst e
    unfold TwoB
    dsimp only
    omega
  · rintro e w6 ⟨he, hRB, hO6⟩
    rw [List.nil_append, List.length_nil, Nat.sub_zero, List.take_of_length_le hx] at hRB
    exact ⟨he, hRB, hO5.trans hO6 fun x hx => .inr (by unfold TwoB at hx; omega)⟩

set_option maxRecDepth 100000 in
set_option maxHeartbeats 1000000 in
theorem decBytes_any (A : Option Addr) (c : Nat) (l : List UInt8) (w : World) (h : Bs w w.heap.size A l) (hl : l.length ≤ 1099511627776) :
    Calls Try.prog 32 #[.slice A l.length c] w (DecBPost (decQ l) w) := by
  have hmk : ∀ (n : Nat) (w : World), n ≤ 4096 → (Instr.makeSlice 29 (.int .i64 (n : Int)) (.int .i64 (n : Int))).run Try.prog w = .ok (.slice (some ⟨w.heap.size, 0, none⟩) n n) (w.alloc (.cells (bcells (List.replicate n 0)).toArray 5)) := by
    intro n w hn
    obtain ⟨i0, hi, hz0, hz1, hz2⟩ := info_parts byte_info
    rw [run_make_rowN _ 5 i0 _ Try.underlying29 hi hz0 _ _ n n (Nat.le_refl _) (by rw [hz2]; omega) (by omega) w, hz1, Nat.mul_one, zeros_new]
  obtain ⟨r, hr⟩ : ∃ r, decQ l = r := ⟨_, rfl⟩
  obtain ⟨a, ha⟩ : ∃ a, rBnd 1 4096 l 0 false = a := ⟨_, rfl⟩
  obtain ⟨b, hb⟩ : ∃ b, rByt a.1 l a.2.1 a.2.2 = b := ⟨_, rfl⟩
  have ha1 : a.2.2 = false → 1 ≤ a.1 ∧ a.1 ≤ 4096 := fun h => by rw [← ha] at h ⊢; exact rBnd_in h
  have hap : a.2.1 ≤ l.length := by rw [← ha]; exact rBnd_to _ (Nat.zero_le _)
  have hb1 : b.2.2 = false → a.2.2 = false ∧ (b.1.length : Int) ≤ a.1 := fun h => by rw [← hb] at h ⊢; exact rByt_in h
  have hbp : b.2.1 ≤ l.length := by rw [← hb]; exact rByt_to _ hap
  have hr' : r = if b.2.2 = true ∨ b.2.1 ≠ l.length then none else some (a.1.toNat, b.1) := by rw [← hr, ← hb, ← ha]; rfl
  rw [hr, hr']
  obtain ⟨a0, a1, a2⟩ := a
  obtain ⟨b0, b1, b2⟩ := b
  dsimp only at ha1 hap hb1 hbp hb ⊢
  have HMK := Lib.hid hmk
  have H := Lib.hid h
  have HL := Lib.hid hl
  have HA := Lib.hid ha
  have HB := Lib.hid hb
  have HAP := Lib.hid hap
  have HBP := Lib.hid hbp
  clear hr hr' hmk h hl ha hb hap hbp r
  by_cases hend : b2 = true ∨ b1 ≠ l.length
  · rw [if_pos hend]
    have HEN := Lib.hid hend
    clear hend ha1 hb1
    go_enter Try.func32, Try.ntmps32
    go_wp2_with fail
    refine (rread_any A c l _ H.out HL.out).mono ?_
    rintro e w1 ⟨p, A1, c1, rfl, hp, hR1, hc1, hO1⟩
    have HO1 := Lib.hid hO1
    have HC1 := Lib.hid hc1
    have HP := Lib.hid hp
    have HR1 := Lib.hid hR1
    clear hO1 hc1 hR1 hp
    go_wp2_with fail
    refine (rBnd_any 1 4096 p A1 c1 l 0 false _ HR1.out (Nat.zero_le _) HL.out).mono ?_
    rw [HA.out]
    rintro e w2 ⟨rfl, hR2, hO2⟩
    have HO2 := Lib.hid (HO1.out.trans hO2 fun x hx => .inr (by unfold One at hx; rw [hx]; exact HP.out))
    have HR2 := Lib.hid hR2
    clear hO2 hR2
    go_wp2_with fail
    refine (rByt_any a0 p A1 c1 l a1 a2 _ HR2.out HAP.out HL.out HC1.out).mono ?_
    rw [HB.out]
    rintro e w3 ⟨Ax, cx, rfl, hcx, hown, hR3, hO3⟩
    have HO3 := Lib.hid (HO2.out.trans hO3 fun x hx => .inr (by unfold One at hx; rw [hx]; exact HP.out))
    have HR3 := Lib.hid hR3
    clear hO3 hR3 hown hcx
    go_wp2_with fail
    refine (rEnd_any p A1 c1 l b1 b2 _ HR3.out HBP.out).mono ?_
    rw [if_pos HEN.out]
    rintro e w4 ⟨rfl, hO4⟩
    have HO4 := Lib.hid (HO3.out.thenNil hO4)
    clear hO4
    go_wp2_with fail
    go_ret2
    exact ⟨rfl, HO4.out⟩
  · rw [if_neg hend]
    have hb2 : b2 = false := by
      cases b2
      · rfl
      · exact absurd (.inl rfl) hend
    obtain ⟨ha2, hbl⟩ := hb1 hb2
    obtain ⟨hm1, hm2⟩ := ha1 ha2
    subst hb2
    obtain ⟨n, hn⟩ : ∃ n : Nat, a0 = n := ⟨a0.toNat, by omega⟩
    subst hn
    have hn1 : 1 ≤ n := by omega
    have hn2 : n ≤ 4096 := by omega
    have hbn : b0.length ≤ n := by omega
    have HEN := Lib.hid hend
    have HBN := Lib.hid hbn
    have HN := Lib.hid (And.intro hn1 hn2)
    clear hend ha1 hb1 hm1 hm2 hbl hbn hn1 hn2
    have mk := fun w => HMK.out n w HN.out.2
    go_enter Try.func32, Try.ntmps32
    go_wp2_with fail
    refine (rread_any A c l _ H.out HL.out).mono ?_
    rintro e w1 ⟨p, A1, c1, rfl, hp, hR1, hc1, hO1⟩
    have HO1 := Lib.hid hO1
    have HC1 := Lib.hid hc1
    have HP := Lib.hid hp
    have HR1 := Lib.hid hR1
    clear hO1 hc1 hR1 hp
    go_wp2_with fail
    refine (rBnd_any 1 4096 p A1 c1 l 0 false _ HR1.out (Nat.zero_le _) HL.out).mono ?_
    rw [HA.out]
    rintro e w2 ⟨rfl, hR2, hO2⟩
    have HO2 := Lib.hid (HO1.out.trans hO2 fun x hx => .inr (by unfold One at hx; rw [hx]; exact HP.out))
    have HR2 := Lib.hid hR2
    clear hO2 hR2
    go_wp2_with fail
    refine (rByt_any n p A1 c1 l a1 a2 _ HR2.out HAP.out HL.out HC1.out).mono ?_
    rw [HB.out]
    rintro e w3 ⟨Ax, cx, rfl, hcx, hown, hR3, hO3⟩
    have HO3 := Lib.hid (HO2.out.trans hO3 fun x hx => .inr (by unfold One at hx; rw [hx]; exact HP.out))
    have HR3 := Lib.hid hR3
    have HBX := Lib.hid (Bs.of_own hown).1
    clear hO3 hR3 hown hcx
    dsimp only at HBX
    go_wp2_with fail
    refine (rEnd_any p A1 c1 l b1 false _ HR3.out HBP.out).mono ?_
    rw [if_neg HEN.out]
    rintro e w4 ⟨rfl, hO4⟩
    have HB4 := Lib.hid ((HBX.out.onlyNil hO4 (Nat.le_refl _)).up hO4.size)
    have HO4 := Lib.hid (HO3.out.thenNil hO4)
    clear hO4
    go_wp2_with fail
    refine (putNew w4 n b0 Ax cx HN.out.1 HN.out.2 HBN.out HB4.out).mono ?_
    rintro e w5 ⟨rfl, hRB, hO6⟩
    have hfin : DecBPost (some (n, b0)) w (.returned (.tuple #[.pointer (some ⟨w4.heap.size + 1, 0, none⟩), .int .i64 0])) w5 := by
      have h4 := HO4.out.size
      exact ⟨w4.heap.size + 1, w4.heap.size, rfl, by omega, by omega, hRB, HO4.out.thenNil hO6⟩
    have HF := Lib.hid hfin
    clear hRB hO6 hfin
    go_wp2_with fail
    go_ret2
    exact HF.out

end Go.Proofs.Ytljfblnpgeconaa
