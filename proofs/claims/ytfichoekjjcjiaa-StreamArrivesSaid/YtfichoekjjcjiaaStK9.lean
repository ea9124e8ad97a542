/-
  link.do once more: the act of the one side, and of the other one, with the state that it leaves told.
  Conditions: the link lies in memory as 'LK' says, and what is known of the two streams ('Inv2').
-/
import Derived.Test.YtfichoekjjcjiaaStK8
import Derived.Test.YtfichoekjjcjiaaStQ7
namespace Go.Proofs.Ytfichoekjjcjiaa
open Go.RowKit

theorem LS.act0 {w : World} {B0 g k B : Nat} {x y : Sd} {sx sy : SC} (h : LS w B0 g k B x sx y sy) (hk : k ≤ 100000) (hBb : B ≤ 900000) (hB : B0 ≤ w.heap.size)
    (kd sd : Int) (n kk : Nat) (hkd : 0 ≤ kd ∧ kd ≤ 255) (hkk : (kd % 6).toNat = kk) (hs : sd = 0) (hn8 : n ≤ 255) :
    Calls Try.prog 30 #[.pointer (some ⟨g, 0, none⟩), .agg #[.int .u8 kd, .int .u8 sd, .int .u8 (n : Int), .slice none 0 0]] w fun e w' =>
      (∃ v, e = .returned v) ∧ (∃ sx', LS w' B0 g (k + 1) B (stepS kk n [] 0 x y).1 sx' y sy) ∧ Only (fun b => B0 ≤ b) w w' := by
  have hrx := h.inv.yx.agree.1.length_le
  have hry := h.inv.xy.agree.1.length_le
  have hlx := h.inv.lx
  have hly := h.inv.ly
  have hkx := h.sx
  have hky := h.sy
  subst hkk
  obtain ⟨h1, h2⟩ := h.inv.step (by omega) (.inl rfl) (.inr rfl) (kd % 6).toNat n []
  refine (do_any 0 (.inl rfl) kd sd n none 0 [] n B0 g x y sx sy false w (by omega) hkd (by omega) rfl hn8 h.lk hB (Bs.nil _ _ _) (by simp) h.inv.vx (by omega) (by omega) (by omega) (by omega) (fun p hp => (h.inv.recv (by omega) (.inr rfl) (List.mem_of_getElem? hp)).1)).mono ?_
  rintro e w' ⟨hv, ⟨sx', hL⟩, hO⟩
  exact ⟨hv, ⟨sx', hL, h2, Nat.le_trans (stepS_sent _ _ _ _ _ _) (by omega), by omega⟩, hO⟩
theorem LS.act1 {w : World} {B0 g k B : Nat} {x y : Sd} {sx sy : SC} (h : LS w B0 g k B x sx y sy) (hk : k ≤ 100000) (hBb : B ≤ 900000) (hB : B0 ≤ w.heap.size)
    (kd sd : Int) (n kk : Nat) (hkd : 0 ≤ kd ∧ kd ≤ 255) (hkk : (kd % 6).toNat = kk) (hs : sd = 1) (hn8 : n ≤ 255) :
    Calls Try.prog 30 #[.pointer (some ⟨g, 0, none⟩), .agg #[.int .u8 kd, .int .u8 sd, .int .u8 (n : Int), .slice none 0 0]] w fun e w' =>
      (∃ v, e = .returned v) ∧ (∃ sy', LS w' B0 g (k + 1) B x sx (stepS kk n [] 1 y x).1 sy') ∧ Only (fun b => B0 ≤ b) w w' := by
  have hrx := h.inv.yx.agree.1.length_le
  have hry := h.inv.xy.agree.1.length_le
  have hlx := h.inv.lx
  have hly := h.inv.ly
  have hkx := h.sx
  have hky := h.sy
  subst hkk
  obtain ⟨h1, h2⟩ := h.inv.swap.step (by omega) (.inr rfl) (.inl rfl) (kd % 6).toNat n []
  refine (do_any 1 (.inr rfl) kd sd n none 0 [] n B0 g y x sy sx false w (by omega) hkd (by omega) rfl hn8 h.lk.swap0 hB (Bs.nil _ _ _) (by simp) h.inv.vy (by omega) (by omega) (by omega) (by omega) (fun p hp => (h.inv.swap.recv (by omega) (.inl rfl) (List.mem_of_getElem? hp)).1)).mono ?_
  rintro e w' ⟨hv, ⟨sy', hL⟩, hO⟩
  exact ⟨hv, ⟨sy', hL.swap1, h2.swap, by omega, Nat.le_trans (stepS_sent _ _ _ _ _ _) (by omega)⟩, hO⟩

theorem LS.tight {w : World} {B0 g k k' B : Nat} {x y : Sd} {sx sy : SC} (h : LS w B0 g k B x sx y sy) (hx : x.sent.length ≤ k') (hy : y.sent.length ≤ k') : LS w B0 g k' B x sx y sy := ⟨h.lk, h.inv, hx, hy⟩

theorem turnX_len (i : Int) (s : Sd) : (turnX i s).sent.length ≤ s.sent.length + 1 := by
  unfold turnX
  split
  · simp
  · exact Nat.le_succ _
theorem turnR_len (i : Int) (s r : Sd) : (turnR i s r).sent = r.sent := by unfold turnR; split <;> rfl
theorem turnY_len (i : Int) (s r : Sd) : (turnY i s r).sent = r.sent := by
  have := (read_same 199 (turnR i s r) r).2.2.2.2.2.2.2.1
  exact this.trans (turnR_len i s r)

/-- What is known inside round n, behind m turns of it. -/
def Mid (B n : Nat) (m : Nat) (x y : Sd) : Prop :=
  if m = 0 then Rnd B n x y else if m = 1 then ∃ x0 y0, Rnd B n x0 y0 ∧ x = turnX 0 x0 ∧ y = turnY 0 x0 y0 else Rnd B (n + 1) x y
theorem Mid.first {B n : Nat} {x y : Sd} (h : Mid B n 0 x y) : Mid B n 1 (turnX 0 x) (turnY 0 x y) := ⟨x, y, h, rfl, rfl⟩
theorem Mid.second {B n : Nat} {x y : Sd} (h : Mid B n 1 x y) (hB : B ≤ 1000000) : Mid B n 2 (turnY 1 y x) (turnX 1 y) := by
  obtain ⟨x0, y0, h, rfl, rfl⟩ := h
  exact h.next hB

end Go.Proofs.Ytfichoekjjcjiaa
