/-
  link.do for every act; the link at the beginning.
  Conditions: the link lies in memory as 'LK' says, and what is known of the two streams ('Inv2').
-/
import Derived.Test.YtfichoekjjcjiaaStK3
import Derived.Test.YtfichoekjjcjiaaStK4
import Derived.Test.YtfichoekjjcjiaaStK5
import Derived.Test.YtfichoekjjcjiaaStK6
namespace Go.Proofs.Ytfichoekjjcjiaa
open Go.RowKit

theorem stepS_sent (k n : Nat) (d : List UInt8) (i : Int) (x y : Sd) : (stepS k n d i x y).1.sent.length ≤ x.sent.length + 1 := by
  unfold stepS
  split
  · split <;> simp
  · split
    · split <;> simp
    · split
      · split <;> simp
      · split
        · simp
        · split
          · split <;> simp
          · simp

theorem do_any (i : Nat) (hi : i = 0 ∨ i = 1) (kd sd nn : Int) (D : Option Addr) (cd : Nat) (d : List UInt8) (n : Nat) (B0 g : Nat) (x y : Sd) (sx sy : SC) (wrong : Bool) (w : World) (hs : sd % 2 = i) (hkd : 0 ≤ kd ∧ kd ≤ 255) (hsd : 0 ≤ sd ∧ sd ≤ 255) (hn : nn = n) (hn8 : n ≤ 255)
    (h : LK w B0 g i x sx y sy wrong) (hB : B0 ≤ w.heap.size) (hd : Bs w w.heap.size D d) (hdl : d.length ≤ 200)
    (hv : VE x.e) (hwl : x.wr.length ≤ 1000000) (hrl : x.rd.length ≤ 1000000) (hxl : x.sent.length ≤ 1000000) (hyl : y.sent.length ≤ 1000000)
    (hok : ∀ p, y.sent[n % y.sent.length]? = some p → (recvE x.e p).2 = 0) :
    Calls Try.prog 30 #[.pointer (some ⟨g, 0, none⟩), .agg #[.int .u8 kd, .int .u8 sd, .int .u8 nn, .slice D d.length cd]] w (DoPost (kd % 6).toNat n d i B0 g x y sy wrong w) := by
  have hk6 : kd % 6 = 0 ∨ kd % 6 = 1 ∨ kd % 6 = 2 ∨ kd % 6 = 3 ∨ kd % 6 = 4 ∨ kd % 6 = 5 := by omega
  rcases hi with rfl | rfl <;> rcases hk6 with hk | hk | hk | hk | hk | hk
  · have := do_write0 kd sd nn D cd d n B0 g x y sx sy wrong w hk hs hkd hsd hn hn8 h hB hd hdl hwl
    rw [hk]; exact this
  · have := do_read0 kd sd nn D cd d n B0 g x y sx sy wrong w hk hs hkd hsd hn hn8 h hB hd hdl hrl
    rw [hk]; exact this
  · have := do_close0 kd sd nn D cd d n B0 g x y sx sy wrong w hk hs hkd hsd hn hn8 h hB hd hdl
    rw [hk]; exact this
  · have := do_send0 kd sd nn D cd d n B0 g x y sx sy wrong w hk hs hkd hsd hn hn8 h hB hd hdl hv hxl
    rw [hk]; exact this
  · have := do_receive0 kd sd nn D cd d n B0 g x y sx sy wrong w hk hs hkd hsd hn hn8 h hB hd hdl hok hyl
    rw [hk]; exact this
  · have := do_again0 kd sd nn D cd d n B0 g x y sx sy wrong w hk hs hkd hsd hn hn8 h hB hd hdl hv
    rw [hk]; exact this
  · have := do_write1 kd sd nn D cd d n B0 g x y sx sy wrong w hk hs hkd hsd hn hn8 h hB hd hdl hwl
    rw [hk]; exact this
  · have := do_read1 kd sd nn D cd d n B0 g x y sx sy wrong w hk hs hkd hsd hn hn8 h hB hd hdl hrl
    rw [hk]; exact this
  · have := do_close1 kd sd nn D cd d n B0 g x y sx sy wrong w hk hs hkd hsd hn hn8 h hB hd hdl
    rw [hk]; exact this
  · have := do_send1 kd sd nn D cd d n B0 g x y sx sy wrong w hk hs hkd hsd hn hn8 h hB hd hdl hv hxl
    rw [hk]; exact this
  · have := do_receive1 kd sd nn D cd d n B0 g x y sx sy wrong w hk hs hkd hsd hn hn8 h hB hd hdl hok hyl
    rw [hk]; exact this
  · have := do_again1 kd sd nn D cd d n B0 g x y sx sy wrong w hk hs hkd hsd hn hn8 h hB hd hdl hv
    rw [hk]; exact this

/-- What is known ahead of an act: the link in memory, the two streams. -/
structure LS (w : World) (B0 g k B : Nat) (x : Sd) (sx : SC) (y : Sd) (sy : SC) : Prop where
  lk : LK w B0 g 0 x sx y sy false
  inv : Inv2 B 0 1 x y
  sx : x.sent.length ≤ k
  sy : y.sent.length ≤ k
theorem LS.act {w : World} {B0 g k B : Nat} {x y : Sd} {sx sy : SC} (h : LS w B0 g k B x sx y sy) (hk : k ≤ 100000) (hBb : B ≤ 900000) (hB : B0 ≤ w.heap.size)
    (kd sd nn : Int) (D : Option Addr) (cd : Nat) (d : List UInt8) (n : Nat) (hkd : 0 ≤ kd ∧ kd ≤ 255) (hsd : 0 ≤ sd ∧ sd ≤ 255) (hn : nn = n) (hn8 : n ≤ 255) (hd : Bs w w.heap.size D d) (hdl : d.length ≤ 200) :
    Calls Try.prog 30 #[.pointer (some ⟨g, 0, none⟩), .agg #[.int .u8 kd, .int .u8 sd, .int .u8 nn, .slice D d.length cd]] w fun e w' =>
      (∃ v, e = .returned v) ∧ (∃ x' sx' y' sy', LS w' B0 g (k + 1) (B + d.length) x' sx' y' sy') ∧ Only (fun b => B0 ≤ b) w w' := by
  have hrx := h.inv.yx.agree.1.length_le
  have hry := h.inv.xy.agree.1.length_le
  have hlx := h.inv.lx
  have hly := h.inv.ly
  have hkx := h.sx
  have hky := h.sy
  have hs2 : sd % 2 = 0 ∨ sd % 2 = 1 := by omega
  rcases hs2 with hs | hs
  · obtain ⟨h1, h2⟩ := h.inv.step (by omega) (.inl rfl) (.inr rfl) (kd % 6).toNat n d
    refine (do_any 0 (.inl rfl) kd sd nn D cd d n B0 g x y sx sy false w hs hkd hsd hn hn8 h.lk hB hd hdl h.inv.vx (by omega) (by omega) (by omega) (by omega) (fun p hp => (h.inv.recv (by omega) (.inr rfl) (List.mem_of_getElem? hp)).1)).mono ?_
    rintro e w' ⟨hv, ⟨sx', hL⟩, hO⟩
    exact ⟨hv, ⟨_, sx', y, sy, hL, h2, Nat.le_trans (stepS_sent _ _ _ _ _ _) (by omega), by omega⟩, hO⟩
  · obtain ⟨h1, h2⟩ := h.inv.swap.step (by omega) (.inr rfl) (.inl rfl) (kd % 6).toNat n d
    refine (do_any 1 (.inr rfl) kd sd nn D cd d n B0 g y x sy sx false w hs hkd hsd hn hn8 h.lk.swap0 hB hd hdl h.inv.vy (by omega) (by omega) (by omega) (by omega) (fun p hp => (h.inv.swap.recv (by omega) (.inl rfl) (List.mem_of_getElem? hp)).1)).mono ?_
    rintro e w' ⟨hv, ⟨sy', hL⟩, hO⟩
    exact ⟨hv, ⟨x, sx, _, sy', hL.swap1, h2.swap, by omega, Nat.le_trans (stepS_sent _ _ _ _ _ _) (by omega)⟩, hO⟩

end Go.Proofs.Ytfichoekjjcjiaa
