/-
  Lists of entries that a call has made: the row and every entry's Data are its own; what record.Read answers, plain.
  No conditions: definitions and general laws.
-/
import Derived.Test.YtkcmdibpndkfbaaRcR1
import Derived.Test.YtkcmdibpndkfbaaEnP
namespace Go.Proofs.Ytkcmdibpndkfbaa
open Go.RowKit

/-- A list of entries whose row and whose Data are the call's own. -/
structure EL (base : Nat) (w : World) (A : Option Addr) (c : Nat) (rs : List ER) : Prop where
  row : w.ownsRow base 39 8 (.slice A rs.length c) rs.length (rs.flatMap ER.cells)
  data : ∀ r ∈ rs, r.x.fits ∧ r.x.data.length ≤ r.c ∧ w.ownsRow base 5 1 (.slice r.A r.x.data.length r.c) r.x.data.length (bcells r.x.data)
theorem EL.onlyNil {base : Nat} {w w' : World} {A : Option Addr} {c : Nat} {rs : List ER} (h : EL base w A c rs) (hO : Only Nil w w') : EL base w' A c rs :=
  ⟨own_onlyNil h.row hO, fun r hr => ⟨(h.data r hr).1, (h.data r hr).2.1, own_onlyNil (h.data r hr).2.2 hO⟩⟩
theorem EL.es {base : Nat} {w : World} {A : Option Addr} {c : Nat} {rs : List ER} (h : EL base w A c rs) : Es w w.heap.size A rs :=
  ⟨Rd.of_own h.row, fun r hr => ⟨(h.data r hr).1, (h.data r hr).2.1, cap_of_own (h.data r hr).2.2, (Bs.of_own (h.data r hr).2.2).1⟩⟩
/-- One entry more. -/
theorem EL.more {base : Nat} {w w' : World} {A A' : Option Addr} {c c' : Nat} {rs : List ER} {r : ER} (h : EL base w A c rs) (hg : Only (fun x => (Value.slice A rs.length c).ownBlock = some x) w w')
    (hrow : w'.ownsRow base 39 8 (.slice A' (rs ++ [r]).length c') (rs ++ [r]).length ((rs ++ [r]).flatMap ER.cells))
    (hr : r.x.fits ∧ r.x.data.length ≤ r.c ∧ w.ownsRow base 5 1 (.slice r.A r.x.data.length r.c) r.x.data.length (bcells r.x.data)) : EL base w' A' c' (rs ++ [r]) := by
  have key : ∀ q : ER, w.ownsRow base 5 1 (.slice q.A q.x.data.length q.c) q.x.data.length (bcells q.x.data) → w'.ownsRow base 5 1 (.slice q.A q.x.data.length q.c) q.x.data.length (bcells q.x.data) := fun q hq =>
    own_only hq hg (fun y hy hx => own_own_ne hq h.row (by decide) hy hx)
  refine ⟨hrow, fun q hq => ?_⟩
  rcases List.mem_append.1 hq with hq | hq
  · exact ⟨(h.data q hq).1, (h.data q hq).2.1, key q (h.data q hq).2.2⟩
  · rw [List.mem_singleton] at hq
    subst hq
    exact ⟨hr.1, hr.2.1, key q hr.2.2⟩

/-- The entries that are read behind a number, the bytes that they take, the error. -/
def readB : Nat → List UInt8 → Nat → List En × Nat × Int
  | 0, _, _ => ([], 0, 0)
  | f + 1, l, h => if l.length = 0 then ([], 0, 0) else
    if (frameR l h).2.2.2 ≠ 0 then ([], 0, (frameR l h).2.2.2) else
    ((frameR l h).1 :: (readB f (l.drop (frameR l h).2.2.1) (frameR l h).2.1).1, (frameR l h).2.2.1 + (readB f (l.drop (frameR l h).2.2.1) (frameR l h).2.1).2.1, (readB f (l.drop (frameR l h).2.2.1) (frameR l h).2.1).2.2)
theorem readE_fits {l : List UInt8} (h : (readE l).2 = 0) : (readE l).1.fits := by
  unfold readE at h ⊢
  obtain ⟨d, he⟩ : ∃ d, decE l = d := ⟨_, rfl⟩
  rw [he] at h ⊢
  cases d with
  | none => simp at h
  | some q =>
    obtain ⟨x, n⟩ := q
    have h1 := decE_some he
    dsimp only at h ⊢
    by_cases h2 : n = l.length
    · rw [if_pos h2]
      exact h1.2.2.1
    · rw [if_neg h2] at h
      simp at h
/-- A frame's size. -/
theorem frameR_bound (l : List UInt8) (h : Nat) : (frameR l h).2.2.2 = 0 → 16 ≤ (frameR l h).2.2.1 ∧ (frameR l h).2.2.1 ≤ l.length ∧ (h < 18446744073709551616 → (frameR l h).2.1 < 18446744073709551616) ∧ (frameR l h).1.fits := by
  unfold frameR
  split
  · intro h; simp at h
  · split
    · intro h; simp at h
    · split
      · intro h; simp at h
      · split
        · intro h; simp at h
        · intro _
          rename_i h1 h2 h3 h4
          refine ⟨by dsimp only; omega, by dsimp only; omega, fun hh => fromS_lt hh _, ?_⟩
          exact readE_fits (by omega)
/-- What Read answers. -/
def readR (l : List UInt8) : List En × Nat × Int :=
  if l.take 5 = magic then ((readB l.length (l.drop 5) (ofS magic)).1, 5 + (readB l.length (l.drop 5) (ofS magic)).2.1, (readB l.length (l.drop 5) (ofS magic)).2.2) else ([], 0, 4)

end Go.Proofs.Ytkcmdibpndkfbaa
