/-
  A step of the checksum is one to one, in the number and in the byte, plain.
  No conditions.
-/
import Derived.Test.YtkcmdibpndkfbaaRcP
namespace Go.Proofs.Ytkcmdibpndkfbaa

theorem xor_inj_left {a b c : Nat} (h : a ^^^ c = b ^^^ c) : a = b := by
  have h1 : (a ^^^ c) ^^^ c = (b ^^^ c) ^^^ c := by rw [h]
  rwa [Nat.xor_assoc, Nat.xor_self, Nat.xor_zero, Nat.xor_assoc, Nat.xor_self, Nat.xor_zero] at h1
theorem xs_inj {x y : Nat} (h : x ^^^ x / 536870912 = y ^^^ y / 536870912) : x = y := by
  have hd : (x ^^^ y) / 536870912 = x / 536870912 ^^^ y / 536870912 := by
    have := Nat.shiftRight_xor_distrib (a := x) (b := y) (i := 29)
    simpa [Nat.shiftRight_eq_div_pow] using this
  have h1 : x ^^^ y = x / 536870912 ^^^ y / 536870912 := by
    have h2 : (x ^^^ x / 536870912) ^^^ (x / 536870912 ^^^ y) = (y ^^^ y / 536870912) ^^^ (x / 536870912 ^^^ y) := by rw [h]
    have h3 : (x ^^^ x / 536870912) ^^^ (x / 536870912 ^^^ y) = x ^^^ y := by
      rw [Nat.xor_assoc, ← Nat.xor_assoc (x / 536870912), Nat.xor_self, Nat.zero_xor]
    have h4 : (y ^^^ y / 536870912) ^^^ (x / 536870912 ^^^ y) = x / 536870912 ^^^ y / 536870912 := by
      rw [Nat.xor_comm y, Nat.xor_comm (x / 536870912) y, Nat.xor_assoc, ← Nat.xor_assoc y, Nat.xor_self, Nat.zero_xor, Nat.xor_comm]
    rw [← h3, h2, h4]
  rw [← hd] at h1
  have h5 : x ^^^ y = 0 := by omega
  exact xor_inj_left (c := y) (h5.trans (Nat.xor_self y).symm)
theorem mulF_inj {x y : Nat} (hx : x < 18446744073709551616) (hy : y < 18446744073709551616) (h : x * sF % 18446744073709551616 = y * sF % 18446744073709551616) : x = y := by
  have key : ∀ z, z < 18446744073709551616 → (z * sF % 18446744073709551616) * 436968802925209003 % 18446744073709551616 = z := fun z hz => by
    rw [Nat.mod_mul_mod, Nat.mul_assoc]
    have e : sF * 436968802925209003 % 18446744073709551616 = 1 := by decide
    rw [Nat.mul_mod, e, Nat.mul_one, Nat.mod_mod, Nat.mod_eq_of_lt hz]
  rw [← key x hx, ← key y hy, h]
theorem stepS_inj {h h' : Nat} {c c' : UInt8} (hh : h < 18446744073709551616) (hh' : h' < 18446744073709551616) (e : stepS h c = stepS h' c') : h ^^^ c.toNat = h' ^^^ c'.toNat := by
  unfold stepS at e
  have hx : h ^^^ c.toNat < 2 ^ 64 := Nat.xor_lt_two_pow (by omega) (by have := c.toNat_lt; omega)
  have hy : h' ^^^ c'.toNat < 2 ^ 64 := Nat.xor_lt_two_pow (by omega) (by have := c'.toNat_lt; omega)
  exact mulF_inj hx hy (xs_inj e)
theorem stepS_inj_h {h h' : Nat} {c : UInt8} (hh : h < 18446744073709551616) (hh' : h' < 18446744073709551616) (e : stepS h c = stepS h' c) : h = h' := xor_inj_left (stepS_inj hh hh' e)
theorem stepS_inj_c {h : Nat} {c c' : UInt8} (hh : h < 18446744073709551616) (e : stepS h c = stepS h c') : c = c' := by
  have h1 := stepS_inj hh hh e
  rw [Nat.xor_comm h, Nat.xor_comm h] at h1
  exact UInt8.toNat_inj.1 (xor_inj_left h1)
theorem fromS_inj {h h' : Nat} (hh : h < 18446744073709551616) (hh' : h' < 18446744073709551616) : ∀ {l : List UInt8}, fromS h l = fromS h' l → h = h' := by
  intro l
  induction l generalizing h h' with
  | nil => exact fun e => e
  | cons c l ih =>
    intro e
    have e1 : fromS (stepS h c) l = fromS (stepS h' c) l := e
    exact stepS_inj_h hh hh' (ih (stepS_lt h c) (stepS_lt h' c) e1)
/-- One byte changed: another sum. -/
theorem fromS_set {h : Nat} (hh : h < 18446744073709551616) {l : List UInt8} {k : Nat} {b c : UInt8} (hk : l[k]? = some b) (hb : b ≠ c) : fromS h (l.set k c) ≠ fromS h l := by
  induction l generalizing h k with
  | nil => simp at hk
  | cons x l ih =>
    cases k with
    | zero =>
      simp at hk
      subst hk
      intro e
      have e1 : fromS (stepS h c) l = fromS (stepS h x) l := e
      exact hb (stepS_inj_c hh (fromS_inj (stepS_lt h c) (stepS_lt h x) e1)).symm
    | succ k =>
      intro e
      exact ih (stepS_lt h x) (k := k) (by simpa using hk) e
theorem le8_inj {a b : Nat} (ha : a < 18446744073709551616) (hb : b < 18446744073709551616) (h : le8 a = le8 b) : a = b := by
  have key : ∀ i, i < 8 → a / 256 ^ i % 256 = b / 256 ^ i % 256 := fun i hi => by
    have h1 : (le8 a)[i]? = (le8 b)[i]? := by rw [h]
    unfold le8 at h1
    rw [List.getElem?_map, List.getElem?_map, List.getElem?_range hi] at h1
    simp only [Option.map_some, Option.some.injEq] at h1
    have h2 := congrArg UInt8.toNat h1
    rw [UInt8.toNat_ofNat_of_lt' (by simpa using Nat.mod_lt _ (by decide)), UInt8.toNat_ofNat_of_lt' (by simpa using Nat.mod_lt _ (by decide))] at h2
    exact h2
  have k0 := key 0 (by decide)
  have k1 := key 1 (by decide)
  have k2 := key 2 (by decide)
  have k3 := key 3 (by decide)
  have k4 := key 4 (by decide)
  have k5 := key 5 (by decide)
  have k6 := key 6 (by decide)
  have k7 := key 7 (by decide)
  simp only [Nat.reducePow] at k0 k1 k2 k3 k4 k5 k6 k7
  omega

end Go.Proofs.Ytkcmdibpndkfbaa
