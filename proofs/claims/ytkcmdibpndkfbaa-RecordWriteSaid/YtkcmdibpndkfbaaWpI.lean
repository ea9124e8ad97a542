/-
  Encodings of entries are different for different entries; none is the beginning of another. No program here.
-/
import Derived.Test.YtkcmdibpndkfbaaWpE
import Derived.Test.YtkcmdibpndkfbaaSmE
namespace Go.Proofs.Ytkcmdibpndkfbaa

theorem encI_cancel {n m : Int} {r s : List UInt8} (hn : I64 n) (hm : I64 m) (h : encI n ++ r = encI m ++ s) : n = m ∧ r = s := by
  have h1 := dec_enc n r hn
  have h2 := dec_enc m s hm
  rw [h, h2] at h1
  injection h1 with h1
  injection h1 with h1 _
  subst h1
  exact ⟨rfl, List.append_cancel_left h⟩
theorem encE_flat (x : En) (r : List UInt8) : encE x ++ r = encI x.kind ++ (encI x.task ++ (encI x.call ++ (encI x.a0 ++ (encI x.a1 ++ (encI x.a2 ++ (encI x.result ++ (encI x.data.length ++ (x.data ++ r)))))))) := by
  unfold encE encL
  simp only [List.flatMap_cons, List.flatMap_nil, List.append_nil, List.append_assoc]
/-- Encodings that begin the same bytes are of one entry. -/
theorem encE_cancel {x y : En} {r s : List UInt8} (hx : x.fits) (hy : y.fits) (hdx : x.data.length ≤ 1099511627776) (hdy : y.data.length ≤ 1099511627776) (h : encE x ++ r = encE y ++ s) : x = y ∧ r = s := by
  rw [encE_flat, encE_flat] at h
  obtain ⟨h1, h⟩ := encI_cancel hx.kind hy.kind h
  obtain ⟨h2, h⟩ := encI_cancel hx.task hy.task h
  obtain ⟨h3, h⟩ := encI_cancel hx.call hy.call h
  obtain ⟨h4, h⟩ := encI_cancel hx.a0 hy.a0 h
  obtain ⟨h5, h⟩ := encI_cancel hx.a1 hy.a1 h
  obtain ⟨h6, h⟩ := encI_cancel hx.a2 hy.a2 h
  obtain ⟨h7, h⟩ := encI_cancel hx.result hy.result h
  obtain ⟨h8, h⟩ := encI_cancel (by unfold I64; omega) (by unfold I64; omega) h
  have h8 : x.data.length = y.data.length := by omega
  obtain ⟨h9, h⟩ := List.append_inj h h8
  refine ⟨?_, h⟩
  obtain ⟨k, t, c, a0, a1, a2, re, d⟩ := x
  obtain ⟨k', t', c', b0, b1, b2, re', d'⟩ := y
  dsimp only at h1 h2 h3 h4 h5 h6 h7 h9
  subst h1 h2 h3 h4 h5 h6 h7 h9
  rfl
theorem encE_inj {x y : En} (hx : x.fits) (hy : y.fits) (hdx : x.data.length ≤ 1099511627776) (hdy : y.data.length ≤ 1099511627776) : (encE x == encE y) = sameE x y := by
  rw [Bool.eq_iff_iff, sameE_iff, beq_iff_eq]
  refine ⟨fun h => ?_, fun h => by rw [h]⟩
  exact (encE_cancel (r := []) (s := []) hx hy hdx hdy (by rw [List.append_nil, List.append_nil, h])).1
theorem encE_len {x : En} (hx : x.fits) (hd : x.data.length ≤ 1099511627776) : (encE x).length ≤ x.data.length + 80 := by
  have h := encE_flat x []
  rw [List.append_nil] at h
  rw [h]
  have l := fun (n : Int) (hn : I64 n) => encI_len n (zig_lt hn)
  have h1 := l _ hx.kind
  have h2 := l _ hx.task
  have h3 := l _ hx.call
  have h4 := l _ hx.a0
  have h5 := l _ hx.a1
  have h6 := l _ hx.a2
  have h7 := l _ hx.result
  have h8 := l (x.data.length : Int) (by unfold I64; omega)
  simp only [List.length_append, List.length_nil]
  omega

end Go.Proofs.Ytkcmdibpndkfbaa
