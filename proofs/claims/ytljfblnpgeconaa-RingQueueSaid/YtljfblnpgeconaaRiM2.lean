/-
  The walk of ring.DecodeQueue on any bytes.
  Conditions: the slice can be read.
-/
import Derived.Test.YtljfblnpgeconaaRiM1
import Derived.Test.YtljfblnpgeconaaRiF
import Derived.Test.YtljfblnpgeconaaWmMsg
namespace Go.Proofs.Ytljfblnpgeconaa
open Go.RowKit

/-- n messages read one after the other, and where the reader stands then. -/
def rMs : Nat → List UInt8 → Nat → Bool → List M × Nat × Bool
  | 0, _, pos, f => ([], pos, f)
  | n + 1, l, pos, f => ((rMsg l pos f).1 :: (rMs n l (rMsg l pos f).2.1 (rMsg l pos f).2.2).1, (rMs n l (rMsg l pos f).2.1 (rMsg l pos f).2.2).2)
theorem rMs_snoc : ∀ (n : Nat) (l : List UInt8) (pos : Nat) (f : Bool), rMs (n + 1) l pos f = ((rMs n l pos f).1 ++ [(rMsg l (rMs n l pos f).2.1 (rMs n l pos f).2.2).1], (rMsg l (rMs n l pos f).2.1 (rMs n l pos f).2.2).2) := by
  intro n
  induction n with
  | zero => intro l pos f; rfl
  | succ n ih =>
    intro l pos f
    rw [rMs, ih]
    rfl
theorem rMs_length : ∀ (n : Nat) (l : List UInt8) (pos : Nat) (f : Bool), (rMs n l pos f).1.length = n := by
  intro n
  induction n with
  | zero => intro l pos f; rfl
  | succ n ih => intro l pos f; rw [rMs, List.length_cons, ih]
theorem rMs_pos : ∀ (n : Nat) (l : List UInt8) (pos : Nat) (f : Bool), pos ≤ l.length → (rMs n l pos f).2.1 ≤ l.length := by
  intro n
  induction n with
  | zero => intro l pos f h; exact h
  | succ n ih => intro l pos f h; exact ih _ _ _ (rMsg_pos f h)
theorem rMsg_fits (l : List UInt8) (pos : Nat) (f : Bool) : (rMsg l pos f).1.fits ∧ (rMsg l pos f).1.data.length ≤ 1536 := by
  have hz : zM.fits ∧ zM.data.length ≤ 1536 := ⟨⟨by decide, by decide, by decide, by decide, by decide, by decide, by decide, by decide⟩, by decide⟩
  unfold rMsg
  split
  · exact hz
  · split
    · rename_i hd
      have := decM_some hd
      exact ⟨this.2.2.1, this.2.2.2.1⟩
    · exact hz
theorem rMs_fits : ∀ (n : Nat) (l : List UInt8) (pos : Nat) (f : Bool), ∀ m ∈ (rMs n l pos f).1, m.fits ∧ m.data.length ≤ 1536 := by
  intro n
  induction n with
  | zero => intro l pos f m hm; cases hm
  | succ n ih =>
    intro l pos f m hm
    rw [rMs] at hm
    rcases List.mem_cons.1 hm with rfl | hm
    · exact rMsg_fits l pos f
    · exact ih _ _ _ m hm
theorem rMsg_ok {l : List UInt8} {pos : Nat} {f : Bool} (h : (rMsg l pos f).2.2 = false) : f = false ∧ decM (l.drop pos) = some ((rMsg l pos f).1, (rMsg l pos f).2.1 - pos) ∧ pos ≤ (rMsg l pos f).2.1 := by
  unfold rMsg at h ⊢
  split at h
  · cases h
  · rename_i h1
    refine ⟨by simpa using h1, ?_⟩
    rw [if_neg h1]
    split at h
    · rename_i hd
      dsimp only
      rw [hd]
      exact ⟨by rw [Nat.add_sub_cancel_left], Nat.le_add_right _ _⟩
    · cases h
theorem rMs_ok : ∀ (n : Nat) (l : List UInt8) (pos : Nat) (f : Bool), (rMs n l pos f).2.2 = false → f = false ∧ l.drop pos = (rMs n l pos f).1.flatMap encM ++ l.drop (rMs n l pos f).2.1 ∧ pos ≤ (rMs n l pos f).2.1 := by
  intro n
  induction n with
  | zero => intro l pos f h; exact ⟨h, by simp [rMs], Nat.le_refl _⟩
  | succ n ih =>
    intro l pos f h
    rw [rMs] at h ⊢
    dsimp only at h ⊢
    obtain ⟨h1, h2, h3⟩ := ih _ _ _ h
    obtain ⟨g1, g2, g3⟩ := rMsg_ok h1
    obtain ⟨d1, d2, _⟩ := decM_some g2
    refine ⟨g1, ?_, by omega⟩
    rw [List.flatMap_cons, List.append_assoc, ← h2]
    conv => lhs; rw [d2]
    rw [List.drop_drop, show pos + ((rMsg l pos f).2.1 - pos) = (rMsg l pos f).2.1 by omega]

/-- What both decoders of a queue of messages answer: the size and the messages. -/
def decQu (l : List UInt8) : Option (Nat × List M) :=
  let a := rBnd 1 200 l 0 false
  let b := rBnd 0 a.1 l a.2.1 a.2.2
  let c := rMs b.1.toNat l b.2.1 b.2.2
  if c.2.2 = true ∨ c.2.1 ≠ l.length then none else some (a.1.toNat, c.1)

theorem rBnd_ok {lo hi : Int} {l : List UInt8} {pos : Nat} {f : Bool} (h : (rBnd lo hi l pos f).2.2 = false) : f = false ∧ l.drop pos = encI (rBnd lo hi l pos f).1 ++ l.drop (rBnd lo hi l pos f).2.1 := by
  unfold rBnd at h ⊢
  split at h
  · cases h
  · rename_i h1
    refine ⟨by simpa using h1, ?_⟩
    rw [if_neg h1]
    split at h
    · rename_i hd
      have := dec_some hd
      split at h
      · rename_i h2
        simp only [hd, if_pos h2]
        rw [← List.drop_drop]
        exact this.2.1
      · cases h
    · cases h
/-- A queue that is decoded has the bytes as its encoding. -/
theorem decQu_enc {l : List UInt8} {n : Nat} {ms : List M} (h : decQu l = some (n, ms)) : encQ n ms = l ∧ 1 ≤ n ∧ n ≤ 200 ∧ ms.length ≤ n ∧ ∀ m ∈ ms, m.fits ∧ m.data.length ≤ 1536 := by
  unfold decQu at h
  dsimp only at h
  split at h
  · cases h
  · rename_i hc
    injection h with h
    injection h with e1 e2
    have hc1 : (rMs (rBnd 0 (rBnd 1 200 l 0 false).1 l (rBnd 1 200 l 0 false).2.1 (rBnd 1 200 l 0 false).2.2).1.toNat l (rBnd 0 (rBnd 1 200 l 0 false).1 l (rBnd 1 200 l 0 false).2.1 (rBnd 1 200 l 0 false).2.2).2.1 (rBnd 0 (rBnd 1 200 l 0 false).1 l (rBnd 1 200 l 0 false).2.1 (rBnd 1 200 l 0 false).2.2).2.2).2.2 = false := by
      cases hh : (rMs (rBnd 0 (rBnd 1 200 l 0 false).1 l (rBnd 1 200 l 0 false).2.1 (rBnd 1 200 l 0 false).2.2).1.toNat l (rBnd 0 (rBnd 1 200 l 0 false).1 l (rBnd 1 200 l 0 false).2.1 (rBnd 1 200 l 0 false).2.2).2.1 (rBnd 0 (rBnd 1 200 l 0 false).1 l (rBnd 1 200 l 0 false).2.1 (rBnd 1 200 l 0 false).2.2).2.2).2.2 with
      | false => rfl
      | true => exact absurd (.inl hh) hc
    have hlen := rMs_length (rBnd 0 (rBnd 1 200 l 0 false).1 l (rBnd 1 200 l 0 false).2.1 (rBnd 1 200 l 0 false).2.2).1.toNat l (rBnd 0 (rBnd 1 200 l 0 false).1 l (rBnd 1 200 l 0 false).2.1 (rBnd 1 200 l 0 false).2.2).2.1 (rBnd 0 (rBnd 1 200 l 0 false).1 l (rBnd 1 200 l 0 false).2.1 (rBnd 1 200 l 0 false).2.2).2.2
    have hfit := rMs_fits (rBnd 0 (rBnd 1 200 l 0 false).1 l (rBnd 1 200 l 0 false).2.1 (rBnd 1 200 l 0 false).2.2).1.toNat l (rBnd 0 (rBnd 1 200 l 0 false).1 l (rBnd 1 200 l 0 false).2.1 (rBnd 1 200 l 0 false).2.2).2.1 (rBnd 0 (rBnd 1 200 l 0 false).1 l (rBnd 1 200 l 0 false).2.1 (rBnd 1 200 l 0 false).2.2).2.2
    obtain ⟨f2, d2, _⟩ := rMs_ok _ _ _ _ hc1
    have hc2 := fun h => hc (.inr h)
    simp only [ne_eq, Decidable.not_not] at hc2
    rw [e2] at hlen hfit d2
    generalize (rMs (rBnd 0 (rBnd 1 200 l 0 false).1 l (rBnd 1 200 l 0 false).2.1 (rBnd 1 200 l 0 false).2.2).1.toNat l (rBnd 0 (rBnd 1 200 l 0 false).1 l (rBnd 1 200 l 0 false).2.1 (rBnd 1 200 l 0 false).2.2).2.1 (rBnd 0 (rBnd 1 200 l 0 false).1 l (rBnd 1 200 l 0 false).2.1 (rBnd 1 200 l 0 false).2.2).2.2).2.1 = q at hc2 d2
    obtain ⟨f1, d1⟩ := rBnd_ok f2
    have i1 := rBnd_in f2
    obtain ⟨_, d0⟩ := rBnd_ok f1
    have i0 := rBnd_in f1
    generalize rBnd 0 (rBnd 1 200 l 0 false).1 l (rBnd 1 200 l 0 false).2.1 (rBnd 1 200 l 0 false).2.2 = b at d2 d1 i1 hlen
    generalize rBnd 1 200 l 0 false = a at e1 d1 d0 i1 i0
    have hq : q = l.length := Decidable.byContradiction hc2
    rw [hq, List.drop_length, List.append_nil] at d2
    rw [List.drop_zero] at d0
    refine ⟨?_, by omega, by omega, by omega, hfit⟩
    unfold encQ
    rw [d0, d1, d2, List.append_assoc, hlen, ← e1, Int.toNat_of_nonneg (by omega), Int.toNat_of_nonneg (by omega)]

theorem MRow.box {w w' : World} {F : Nat → Prop} {A : Option Addr} {c g : Nat} {ms : List M} {t : TypeId} {cs : Array Value} (h : MRow w F A c ms) (hg : Blk w g t cs) (h1 : 48 ≠ t) (h2 : 5 ≠ t) (hO : Only (One g) w w') : MRow w' F A c ms := by
  obtain ⟨rs, r1, r2, r3, r4, r5⟩ := h
  exact ⟨rs, r1, r2, own_only r3 hO (fun q hq hx => own_blk_ne r3 hg h1 (by rw [hq, hx])), r4, fun r hr => by
    obtain ⟨g1, g2, g3, g4⟩ := r5 r hr
    exact ⟨g1, g2, own_only g3 hO (fun q hq hx => own_blk_ne g3 hg h2 (by rw [hq, hx])), g4⟩⟩
theorem MRow.bound {w : World} {F : Nat → Prop} {A : Option Addr} {c : Nat} {ms : List M} (h : MRow w F A c ms) : MRow w (fun x => F x ∧ x < w.heap.size) A c ms := by
  obtain ⟨rs, r1, r2, r3, r4, r5⟩ := h
  exact ⟨rs, r1, r2, r3, fun q hq => ⟨r4 q hq, own_lt r3 hq⟩, fun r hr => by
    obtain ⟨g1, g2, g3, g4⟩ := r5 r hr
    exact ⟨g1, g2, g3, fun q hq => ⟨g4 q hq, own_lt g3 hq⟩⟩⟩
theorem MRow.onlyNil {w w' : World} {F : Nat → Prop} {A : Option Addr} {c : Nat} {ms : List M} (h : MRow w F A c ms) (hO : Only Nil w w') : MRow w' F A c ms := h.only hO fun _ _ hx => hx
/-- A further message behind the row. -/
theorem mrow_push {w w5 : World} {B : Nat} {Aq A1 A5 : Option Addr} {cq c1 c5 n : Nat} {ms : List M} {m : M} {rs : List (Option Addr × Nat × M)} (hn : ms.length = n)
    (r2 : rs.map (fun r => r.2.2) = ms) (r3 : w.ownsRow 0 48 9 (.slice Aq n cq) n (rs.flatMap fun r => mcells r.1 r.2.1 r.2.2)) (r4 : ∀ q, (Value.slice Aq n cq).ownBlock = some q → B ≤ q)
    (r5 : ∀ r ∈ rs, r.2.2.data.length ≤ r.2.1 ∧ r.2.2.data.length ≤ 1536 ∧ w.ownsRow 0 5 1 (.slice r.1 r.2.2.data.length r.2.1) r.2.2.data.length (bcells r.2.2.data) ∧ ∀ q, (Value.slice r.1 r.2.2.data.length r.2.1).ownBlock = some q → B ≤ q)
    (hB : B ≤ w.heap.size) (hd : m.data.length ≤ 1536) (hc1 : m.data.length ≤ c1) (hown1 : w.ownsRow B 5 1 (.slice A1 m.data.length c1) m.data.length (bcells m.data))
    (hc5 : n + 1 ≤ c5) (hown5 : w5.ownsRow 0 48 9 (.slice A5 (n + 1) c5) (n + 1) ((rs.flatMap fun r => mcells r.1 r.2.1 r.2.2) ++ mcells A1 c1 m))
    (hgr : w.grownBy w5 (Value.slice Aq n cq).ownBlock) (hat : (Value.slice A5 (n + 1) c5).ownBlock = (Value.slice Aq n cq).ownBlock ∨ (Value.slice A5 (n + 1) c5).ownBlock = some w.heap.size) :
    MRow w5 (fun x => B ≤ x) A5 c5 (ms ++ [m]) := by
  have hlen : (ms ++ [m]).length = n + 1 := by simp [hn]
  have hg := Only.of_grown hgr
  refine ⟨rs ++ [(A1, c1, m)], by rw [hlen]; exact hc5, by simp [r2], ?_, ?_, ?_⟩
  · rw [hlen, List.flatMap_append]
    simp only [List.flatMap_cons, List.flatMap_nil, List.append_nil]
    exact hown5
  · rw [hlen]
    intro q hq
    rcases hat with h1 | h1
    · exact r4 q (h1 ▸ hq)
    · rw [h1] at hq
      injection hq with hq
      omega
  · intro r hr
    rcases List.mem_append.1 hr with h1 | h1
    · obtain ⟨g1, g2, g3, g4⟩ := r5 r h1
      exact ⟨g1, g2, own_only g3 hg (fun q hq hx => own_own_ne g3 r3 (by decide) hq hx), g4⟩
    · have : r = (A1, c1, m) := by simpa using h1
      subst this
      exact ⟨hc1, hd, own_base (own_only hown1 hg (fun q hq hx => own_own_ne hown1 r3 (by decide) hq hx)) (Nat.zero_le _), fun q hq => ownBlock_ge hown1 hq⟩

end Go.Proofs.Ytljfblnpgeconaa
