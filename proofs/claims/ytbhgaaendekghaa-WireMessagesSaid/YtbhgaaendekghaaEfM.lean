/-
  What is read from an encoding: the value, if it is not too long for the reader. No program here.
-/
import Derived.Test.YtbhgaaendekghaaEfK
import Derived.Test.YtbhgaaendekghaaRdEnt
namespace Go.Proofs.Ytbhgaaendekghaa

theorem encE_cut {x y : En} {r s : List UInt8} (hx : x.fits) (hy : y.fits) (hdx : x.data.length ≤ 1099511627776) (hdy : y.data.length ≤ 1099511627776) (h : encE x ++ r = encE y ++ s) : x = y ∧ r = s := by
  rw [encE_eq, encE_eq] at h
  simp only [List.append_assoc] at h
  obtain ⟨h1, h⟩ := encL_cut (zs := x.nums) (ws := y.nums) rfl hx.nums hy.nums h
  obtain ⟨h2, h⟩ := encB_cut hdx hdy h
  refine ⟨?_, h⟩
  rw [← eOf_nums x, ← eOf_nums y, h1, h2]
theorem readMs_enc {m : M} (hm : m.fits) (hd : m.data.length ≤ 1099511627776) : readMs (encM m) = if m.data.length ≤ 1536 then (m, 0) else (zM, 4) := by
  unfold readMs
  by_cases h : m.data.length ≤ 1536
  · have e := decM_enc hm h []
    rw [List.append_nil] at e
    rw [e, if_pos h]
    dsimp only
    rw [if_pos rfl]
  · rw [if_neg h]
    cases hr : decM (encM m) with
    | none => rfl
    | some q =>
      obtain ⟨y, n⟩ := q
      exfalso
      obtain ⟨h1, h2, h3, h4, h5⟩ := decM_some hr
      obtain ⟨h6, _⟩ := encM_cut hm h3 hd (by omega) ((List.append_nil (encM m)).trans h2)
      rw [h6] at h
      exact h h4
theorem readE_enc1 {m : En} (hm : m.fits) (hd : m.data.length ≤ 1099511627776) : readE (encE m) = if m.data.length ≤ 1536 then (m, 0) else (zE, 4) := by
  unfold readE
  by_cases h : m.data.length ≤ 1536
  · have e := decE_enc hm h []
    rw [List.append_nil] at e
    rw [e, if_pos h]
    dsimp only
    rw [if_pos rfl]
  · rw [if_neg h]
    cases hr : decE (encE m) with
    | none => rfl
    | some q =>
      obtain ⟨y, n⟩ := q
      exfalso
      obtain ⟨h1, h2, h3, h4, h5⟩ := decE_some hr
      obtain ⟨h6, _⟩ := encE_cut hm h3 hd (by omega) ((List.append_nil (encE m)).trans h2)
      rw [h6] at h
      exact h h4
/-- An effect's Data are not too long for the reader. -/
def shF (x : Ef) : Bool := decide (x.data.length ≤ 1536) && decide (x.msg.data.length ≤ 1536)
/-- A list of effects is not too long for the reader. -/
def shFs (l : List Ef) : Bool := decide (l.length ≤ 160) && l.all shF
theorem shFs_iff {l : List Ef} : shFs l = true ↔ l.length ≤ 160 ∧ ∀ x ∈ l, x.data.length ≤ 1536 ∧ x.msg.data.length ≤ 1536 := by
  unfold shFs shF
  simp only [Bool.and_eq_true, decide_eq_true_eq, List.all_eq_true]
theorem readFs_enc {l : List Ef} (hl : l.length ≤ 1099511627776) (hm : ∀ x ∈ l, x.okay) : readFs (encFs l) = if shFs l = true then (l, 0) else ([], 4) := by
  unfold readFs
  by_cases h : shFs l = true
  · obtain ⟨h1, h2⟩ := shFs_iff.1 h
    have e := decFs_enc h1 (fun x hx => ⟨(hm x hx).fits, (h2 x hx).2, (h2 x hx).1⟩) []
    rw [List.append_nil] at e
    rw [e, if_pos h]
    dsimp only
    rw [if_pos rfl]
  · rw [if_neg h]
    cases hr : decFs (encFs l) with
    | none => rfl
    | some q =>
      obtain ⟨y, n⟩ := q
      exfalso
      obtain ⟨h1, h2, h3, h4, h5⟩ := decFs_some hr
      obtain ⟨h6, _⟩ := encFs_cut hl (by omega) hm (fun y hy => ⟨(h5 y hy).1, by have := (h5 y hy).2.1; omega, by have := (h5 y hy).2.2; omega⟩) ((List.append_nil (encFs l)).trans h2)
      apply h
      rw [h6]
      exact shFs_iff.2 ⟨h3, fun x hx => ⟨(h5 x hx).2.2, (h5 x hx).2.1⟩⟩

end Go.Proofs.Ytbhgaaendekghaa
