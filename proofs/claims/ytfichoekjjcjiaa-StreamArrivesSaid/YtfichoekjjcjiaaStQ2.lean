/-
  Layer 43, plain: what the functions return is valid.
  No conditions: plain lemmas.
-/
import Derived.Test.YtfichoekjjcjiaaStQ1
import Derived.Test.YtfichoekjjcjiaaStW8
import Derived.Test.YtfichoekjjcjiaaStW9
namespace Go.Proofs.Ytfichoekjjcjiaa

theorem write_valid {e a : E} {d : List UInt8} (h : writeE e d = (a, 0)) : VE a := by
  unfold writeE at h
  split at h
  · injection h with _ h; cases h
  · rename_i hv
    have hv : VE e := Decidable.byContradiction hv
    split at h
    · injection h with _ h; cases h
    · rename_i hc
      split at h
      · injection h with _ h; cases h
      · rename_i hl
        injection h with h _
        subst h
        obtain ⟨h1, h2, h3, h4, h5, h6⟩ := hv
        refine ⟨?_, h2, h3, h4, ?_, h6⟩
        · show (e.out ++ d).length ≤ 128
          rw [List.length_append]; omega
        · intro hd
          exact absurd (h5 hd).1 hc
theorem read_valid {e a : E} {n : Int} {d : List UInt8} (h : readE e n = (a, d, 0)) : VE a := by
  unfold readE at h
  split at h
  · injection h with _ h; injection h with _ h; cases h
  · rename_i hv
    have hv : VE e := Decidable.byContradiction fun hn => hv (.inl hn)
    split at h
    · injection h with _ h; injection h with _ h; cases h
    · split at h
      · injection h with _ h; injection h with _ h; cases h
      · injection h with h _
        subst h
        obtain ⟨h1, h2, h3, h4, h5, h6⟩ := hv
        refine ⟨h1, ?_, h3, h4, h5, ?_⟩
        · show (e.inn.drop _).length ≤ 128
          rw [List.length_drop]; omega
        · intro hc
          have := h6 hc
          show (e.inn.drop _).length = 0
          rw [List.length_drop]; omega
theorem close_valid {e a : E} (h : closeE e = (a, 0)) : VE a := by
  unfold closeE at h
  split at h
  · injection h with _ h; cases h
  · rename_i hv
    have hv : VE e := Decidable.byContradiction hv
    split at h
    · injection h with _ h; cases h
    · injection h with h _
      subst h
      obtain ⟨h1, h2, h3, h4, h5, h6⟩ := hv
      exact ⟨h1, by show ([] : List UInt8).length ≤ 128; simp, h3, h4, fun hd => ⟨rfl, (h5 hd).2⟩, fun _ => rfl⟩
theorem send_valid {e a : E} {pair side : Int} {p : Pk} (h : sendE e pair side = (a, p, 0)) : VE a := by
  unfold sendE at h
  split at h
  · injection h with _ h; injection h with _ h; cases h
  · rename_i hv
    have hv : VE e ∧ _ := Decidable.byContradiction hv
    injection h with h _
    subst h
    exact hv.1
theorem again_valid {e : E} (h : VE e) : VE (againE e) := h

end Go.Proofs.Ytfichoekjjcjiaa
