/-
  The beginnings of the law RingBytes: a new queue or one from its encoding, on both sides, each as one contract.
  Conditions: the bytes can be read.
-/
import Derived.Test.YtljfblnpgeconaaRiG7
namespace Go.Proofs.Ytljfblnpgeconaa
open Go.RowKit

/-- A new queue's size and content. -/
def newR (size : Int) : Option (Nat × List UInt8) := if 1 ≤ size ∧ size ≤ 4096 then some (size.toNat, []) else none
/-- The repository's queue and error. -/
def QSt (r : Option (Nat × List UInt8)) (E : Int) (base : Nat) (q : Value) (er : Int) (w : World) : Prop :=
  match r with
  | none => q = .pointer none ∧ er = E
  | some (n, x) => ∃ p g, q = .pointer (some ⟨p, 0, none⟩) ∧ er = 0 ∧ base ≤ p ∧ base ≤ g ∧ RB w p g n x
/-- The reference's queue (its fields) and error. -/
def VSt (r : Option (Nat × List UInt8)) (E : Int) (base : Nat) (m : Int) (B : Option Addr) (k c : Nat) (er : Int) (w : World) : Prop :=
  match r with
  | none => er = E
  | some (n, x) => m = n ∧ k = x.length ∧ er = 0 ∧ k ≤ c ∧ w.ownsRow base 5 1 (.slice B k c) k (bcells x)

theorem QSt.onlyNil {r : Option (Nat × List UInt8)} {E : Int} {base : Nat} {q : Value} {er : Int} {w w' : World} (h : QSt r E base q er w) (hO : Only Nil w w') : QSt r E base q er w' := by
  unfold QSt at h ⊢
  split at h
  · exact h
  · obtain ⟨p, g, h1, h2, h3, h4, h5⟩ := h
    exact ⟨p, g, h1, h2, h3, h4, h5.onlyNil hO⟩
theorem VSt.onlyNil {r : Option (Nat × List UInt8)} {E : Int} {base : Nat} {m : Int} {B : Option Addr} {k c : Nat} {er : Int} {w w' : World} (h : VSt r E base m B k c er w) (hO : Only Nil w w') : VSt r E base m B k c er w' := by
  unfold VSt at h ⊢
  split at h
  · exact h
  · obtain ⟨h1, h2, h3, h4, h5⟩ := h
    exact ⟨h1, h2, h3, h4, own_onlyNil h5 hO⟩
theorem QSt.base {r : Option (Nat × List UInt8)} {E : Int} {base base' : Nat} {q : Value} {er : Int} {w : World} (h : QSt r E base q er w) (hb : base' ≤ base) : QSt r E base' q er w := by
  unfold QSt at h ⊢
  split at h
  · exact h
  · obtain ⟨p, g, h1, h2, h3, h4, h5⟩ := h
    exact ⟨p, g, h1, h2, Nat.le_trans hb h3, Nat.le_trans hb h4, h5⟩
theorem VSt.base {r : Option (Nat × List UInt8)} {E : Int} {base base' : Nat} {m : Int} {B : Option Addr} {k c : Nat} {er : Int} {w : World} (h : VSt r E base m B k c er w) (hb : base' ≤ base) : VSt r E base' m B k c er w := by
  unfold VSt at h ⊢
  split at h
  · exact h
  · obtain ⟨h1, h2, h3, h4, h5⟩ := h
    exact ⟨h1, h2, h3, h4, own_base h5 hb⟩

theorem newBytes_st (size : Int) (w : World) : Calls Try.prog 11 #[.int .i64 size] w fun e w' => ∃ q er, e = .returned (.tuple #[q, .int .i64 er]) ∧ QSt (newR size) 2 w.heap.size q er w' ∧ Only Nil w w' := by
  unfold newR
  by_cases h : 1 ≤ size ∧ size ≤ 4096
  · rw [if_pos h]
    obtain ⟨n, rfl⟩ := Int.eq_ofNat_of_zero_le (show 0 ≤ size by omega)
    refine (newBytes_any n w (by omega) (by omega)).mono ?_
    rintro e w' ⟨rfl, hT, hO⟩
    exact ⟨_, _, rfl, ⟨_, _, rfl, rfl, Nat.le_succ _, Nat.le_refl _, hT⟩, hO⟩
  · rw [if_neg h]
    refine (newBytes_no size w (by omega)).mono ?_
    rintro e w' ⟨rfl, rfl⟩
    exact ⟨_, _, rfl, ⟨rfl, rfl⟩, Only.refl _ _⟩
theorem Ref.newB_st (size : Int) (w : World) : Calls Try.prog 31 #[.int .i64 size] w fun e w' => ∃ m B k c er, e = .returned (.tuple #[.agg #[.int .i64 m, .slice B k c], .int .i64 er]) ∧ VSt (newR size) 2 w.heap.size m B k c er w' ∧ Only Nil w w' := by
  unfold newR
  by_cases h : 1 ≤ size ∧ size ≤ 4096
  · rw [if_pos h]
    obtain ⟨n, rfl⟩ := Int.eq_ofNat_of_zero_le (show 0 ≤ size by omega)
    refine (Ref.newB_any n w (by omega) (by omega)).mono ?_
    rintro e w' ⟨rfl, hO⟩
    exact ⟨_, _, _, _, _, rfl, ⟨rfl, rfl, rfl, Nat.le_refl _, World.ownsRow_nil _ _ _ _⟩, hO⟩
  · rw [if_neg h]
    refine (Ref.newB_no size w (by omega)).mono ?_
    rintro e w' ⟨rfl, hO⟩
    exact ⟨_, _, _, _, _, rfl, rfl, hO⟩
theorem decBytes_st (A : Option Addr) (c : Nat) (l : List UInt8) (w : World) (h : Bs w w.heap.size A l) (hl : l.length ≤ 1099511627776) :
    Calls Try.prog 32 #[.slice A l.length c] w fun e w' => ∃ q er, e = .returned (.tuple #[q, .int .i64 er]) ∧ QSt (decQ l) 4 w.heap.size q er w' ∧ Only Nil w w' := by
  refine (decBytes_any A c l w h hl).mono ?_
  intro e w' h
  generalize decQ l = r at h
  unfold QSt
  rcases r with _ | ⟨n, x⟩
  · exact ⟨_, _, h.1, ⟨rfl, rfl⟩, h.2⟩
  · obtain ⟨p, g, h1, h2, h3, h4, h5⟩ := h
    exact ⟨_, _, h1, ⟨p, g, rfl, rfl, h2, h3, h4⟩, h5⟩
theorem Ref.decBytes_st (A : Option Addr) (c : Nat) (l : List UInt8) (w : World) (h : Bs w w.heap.size A l) (hl : l.length ≤ 1099511627776) (hc : l.length ≤ c) (hcm : c ≤ maxLen) :
    Calls Try.prog 33 #[.slice A l.length c] w fun e w' => ∃ m B k cb er, e = .returned (.tuple #[.agg #[.int .i64 m, .slice B k cb], .int .i64 er]) ∧ VSt (decQ l) 4 w.heap.size m B k cb er w' ∧ Only Nil w w' := by
  refine (Ref.decBytes_any A c l w h hl hc hcm).mono ?_
  intro e w' h
  generalize decQ l = r at h
  unfold VSt
  rcases r with _ | ⟨n, x⟩
  · exact ⟨_, _, _, _, _, h.1, rfl, h.2⟩
  · obtain ⟨B, cb, h1, h2, h3, h4⟩ := h
    exact ⟨_, B, _, cb, _, h1, ⟨rfl, rfl, rfl, h2, h3⟩, h4⟩

end Go.Proofs.Ytljfblnpgeconaa
