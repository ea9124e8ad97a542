/-
  The example that every statement of layer 6 checks first: it holds.
  No conditions.
-/
import Derived.Test.YtljfblnpgeconaaRiW2
import Derived.Test.YtljfblnpgeconaaRiW3
import Derived.Test.YtljfblnpgeconaaRow
namespace Go.Proofs.Ytljfblnpgeconaa
open Go.RowKit

theorem awake_plain : ([] : List UInt8) ++ ([97, 98, 99, 100, 101, 102] : List UInt8).take (4 - ([] : List UInt8).length) = [97, 98, 99, 100] ∧ ([97, 98, 99, 100] : List UInt8).take (3 : Int).toNat = [97, 98, 99] ∧ ([97, 98, 99, 100] : List UInt8).drop (3 : Int).toNat = [100] ∧
    ([100] : List UInt8) ++ ([120, 121] : List UInt8).take (4 - ([100] : List UInt8).length) = [100, 120, 121] ∧ ([100, 120, 121] : List UInt8).take (9 : Int).toNat = [100, 120, 121] := ⟨rfl, rfl, rfl, rfl, rfl⟩

set_option maxRecDepth 100000 in
set_option maxHeartbeats 1000000 in
theorem awake_any (w : World) : Calls Try.prog 10 #[] w (LawPost w) := by
  obtain ⟨e1, e2, e3, e4, e5⟩ := awake_plain
  have E1 := Lib.hid e1
  have E2 := Lib.hid e2
  have E3 := Lib.hid e3
  have E4 := Lib.hid e4
  have E5 := Lib.hid e5
  clear e1 e2 e3 e4 e5
  have kc := fun (w : World) (C : Array Value) (n c : Nat) => Lib.run_convert_bytes_const (P := Try.prog) w 29 5 C n c Try.underlying29 Try.underlying5
  go_enter Try.func10, Try.ntmps10
  go_wp2_with fail
  refine (newBytes_any 4 _ (by omega) (by omega)).mono ?_
  rintro e w1 ⟨rfl, hT, hO1⟩
  go_wp2_with fail
  have hB1 := Bs.marked w1 [97, 98, 99, 100, 101, 102] 5 (6, 7) _ rfl
  refine (put_any (b := [97, 98, 99, 100, 101, 102]) _ (hT.onlyNil ((Only.refl _ _).alloc _)) hB1 ?_ (by decide)).mono ?_
  · intro _ a ha hx; injection ha with ha; subst ha; have h := hT.lt; rcases hx with hx | hx
    · have hx : w1.heap.size = _ := hx; omega
    · have hx : w1.heap.size = _ := hx; omega
  rintro e w2 ⟨rfl, hT2, hO2⟩
  rw [E1.out] at hT2
  go_wp2_with fail
  refine (take_any _ _ hT2).mono ?_
  rintro e w3 ⟨⟨A3, c3, rfl, hc3, hown3, hO3⟩, hT3⟩
  rw [E2.out] at hown3
  rw [E3.out] at hT3
  go_wp2_with fail
  have hB3 := Bs.marked w3 [120, 121] 5 (2, 3) _ rfl
  refine (put_any (b := [120, 121]) _ (hT3.onlyNil ((Only.refl _ _).alloc _)) hB3 ?_ (by decide)).mono ?_
  · intro _ a ha hx; injection ha with ha; subst ha; have h := hT3.lt; rcases hx with hx | hx
    · have hx : w3.heap.size = _ := hx; omega
    · have hx : w3.heap.size = _ := hx; omega
  rintro e w4 ⟨rfl, hT4, hO4⟩
  rw [E4.out] at hT4
  go_wp2_with fail
  refine (newQueue_any 1 _ (by omega) (by omega)).mono ?_
  rintro e w5 ⟨rfl, hQ5, hO5⟩
  have hTw : ∀ x, TwoB (w.heap.size + 1) w.heap.size x → Nil x ∨ w.heap.size ≤ x := fun x hx => .inr (by rcases hx with hx | hx <;> omega)
  have hpl := hT.lt
  have hsz2 := hO2.size
  rw [World.size_alloc] at hsz2
  have hO5' : Only (TwoB (w.heap.size + 1) w.heap.size) w3 w5 := (((Only.refl _ w3).alloc _).then_ hO4).then_ hO5.any
  have hown5 := own_only hown3 hO5' (fun q hq hx => by have := ownBlock_ge hown3 hq; rcases hx with hx | hx <;> omega)
  have hB5 := (Bs.of_own hown5).1
  have hstr : (convert 29 9 (.slice A3 3 c3)).run Try.prog w5 = .ok (.string ⟨#[97, 98, 99]⟩) w5 := run_str (P := Try.prog) w5 29 9 5 Try.underlying29 Try.underlying5 Try.underlying9 (c := c3) hB5 rfl
  have hT5 := hT4.onlyNil hO5
  have hOa : Only Nil w w5 := (((hO1.trans (((Only.refl _ _).alloc _).then_ hO2) hTw).trans (hO3.more (S' := TwoB (w.heap.size + 1) w.heap.size) (fun x hx => .inl hx)) hTw)).trans hO5' hTw
  have HOa := Lib.hid hOa
  have HQ := Lib.hid hQ5
  have hs4 : w.heap.size ≤ w4.heap.size := by
    have h1 := hO3.size
    have h2 := hO4.size
    rw [World.size_alloc] at h2
    omega
  have HS4 := Lib.hid hs4
  clear hs4
  clear hpl hsz2 hO5' hown5 hB5 hOa hO1 hO2 hO3 hO4 hO5 hT hT2 hT3 hT4 hB1 hB3 hown3 hQ5
  go_wp2_with fail
  refine (peek_any _ _ hT5).mono ?_
  rintro e w6 ⟨A6, c6, rfl, hc6, hown6, hO6⟩
  rw [E5.out] at hown6
  have hstr6 : (convert 29 9 (.slice A6 3 c6)).run Try.prog w6 = .ok (.string ⟨#[100, 120, 121]⟩) w6 := run_str (P := Try.prog) w6 29 9 5 Try.underlying29 Try.underlying5 Try.underlying9 (c := c6) (Bs.of_own hown6).1 rfl
  rw [E5.out]
  go_wp2_with fail
  refine (qput_any ⟨1, 0, 0, 0, 0, 0, 0, 0, []⟩ none 0 _ (HQ.out.onlyNil hO6) (Bs.nil _ _ _)).mono ?_
  rintro e w7 ⟨rfl, hQ7, hO7⟩
  go_wp2_with fail
  refine (qput_any ⟨0, 0, 0, 0, 0, 0, 0, 0, []⟩ none 0 _ hQ7 (Bs.nil _ _ _)).mono ?_
  rintro e w8 ⟨rfl, hQ8, hO8⟩
  go_wp2_with fail
  go_ret
  have hz := HOa.out.size
  have hz4 := HS4.out
  have hz6 := hO6.size
  exact ⟨rfl, ((HOa.out.thenNil hO6).trans hO7 (fun x hx => .inr (by unfold One at hx; omega))).trans hO8 (fun x hx => .inr (by rcases hx with hx | hx; unfold One at hx; omega; omega))⟩

end Go.Proofs.Ytljfblnpgeconaa
