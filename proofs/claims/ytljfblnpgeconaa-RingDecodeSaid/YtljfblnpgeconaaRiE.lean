/-
  (*ring.Bytes).Encode: the size, the number of bytes, the bytes.
  Conditions: the queue is whole.
-/
import Derived.Test.YtljfblnpgeconaaRiW2
import Derived.Test.YtljfblnpgeconaaWire
import Derived.Deep.RegionHeld3
namespace Go.Proofs.Ytljfblnpgeconaa
open Go.RowKit

set_option maxRecDepth 100000 in
set_option maxHeartbeats 1000000 in
theorem encode_any {p g size : Nat} {c : List UInt8} (w : World) (h : RB w p g size c) :
    Calls Try.prog 19 #[.pointer (some ⟨p, 0, none⟩)] w (BytesPost Nil (encI size ++ encI c.length ++ c) w) := by
  have hks : ∀ w', Only Nil w w' → w'.cell? ⟨p, 0, none⟩ = some (.slice (some ⟨g, 0, none⟩) size size) ∧ w'.cell? ⟨p, 2, none⟩ = some (.int .i64 c.length) := fun w' hO => by
    obtain ⟨_, _, hf⟩ := h.onlyNil hO
    obtain ⟨c0, _, c2⟩ := hf.cells
    exact ⟨c0, c2⟩
  obtain ⟨hr1, hr2, hr3⟩ := h.room
  obtain ⟨r, hr⟩ : ∃ r, r = encI size ++ encI c.length ++ c := ⟨_, rfl⟩
  rw [← hr]
  have hi : ∀ w', Only Nil w w' → Calls Try.prog 48 #[.slice none 0 0, .int .i64 size] w' fun x w'' => ∃ A c', x = .returned (.slice A (encI size).length c') ∧ w''.ownsRow w.heap.size 5 1 (.slice A (encI size).length c') (encI size).length (bcells (encI size)) ∧ Only Nil w w'' := fun w' hO => by
    refine (int_any none 0 w.heap.size [] size w' hO.size (World.ownsRow_nil _ _ _ _) (by simp) (by omega)).mono ?_
    rintro x w'' ⟨A, c', rfl, _, hown, _, hO2⟩
    exact ⟨A, c', rfl, hown, hO.thenNil (hO2.more (fun x hx => by cases hx))⟩
  have hp : ∀ w', Only Nil w w' → Calls Try.prog 17 #[.pointer (some ⟨p, 0, none⟩), .int .i64 c.length] w' fun x w'' => ∃ A c', x = .returned (.slice A c.length c') ∧ w''.ownsRow w'.heap.size 5 1 (.slice A c.length c') c.length (bcells c) ∧ Only Nil w' w'' := fun w' hO => by
    refine (peek_any c.length w' (h.onlyNil hO)).mono ?_
    rintro x w'' ⟨A, c', rfl, _, hown, hO2⟩
    have e : c.take (c.length : Int).toNat = c := by rw [Int.toNat_natCast, List.take_length]
    rw [e] at hown ⊢
    exact ⟨A, c', rfl, hown, hO2⟩
  have hb : ∀ w1 w2 A1 c1 A2 c2, Only Nil w w1 → w1.ownsRow w.heap.size 5 1 (.slice A1 (encI size).length c1) (encI size).length (bcells (encI size)) → Only Nil w1 w2 → w2.ownsRow w1.heap.size 5 1 (.slice A2 c.length c2) c.length (bcells c) →
      Calls Try.prog 47 #[.slice A1 (encI size).length c1, .slice A2 c.length c2] w2 fun x w'' => ∃ A c', x = .returned (.slice A r.length c') ∧ r.length ≤ c' ∧
        w''.ownsRow w.heap.size 5 1 (.slice A r.length c') r.length (bcells r) ∧ Only Nil w w'' := fun w1 w2 A1 c1 A2 c2 hO1 h1 hO2 h2 => by
    have h12 := own_onlyNil h1 hO2
    have hel := encI_len (size : Int) (zig_lt (by omega))
    refine (bytes_any A1 c1 w.heap.size (encI size) A2 c2 c w2 (Nat.le_trans hO1.size hO2.size) h12 (fun w' hO => ?_) (by omega) (by omega)).mono ?_
    · refine (Bs.of_own h2).1.sep hO (Nat.le_refl _) (fun hn a ha hx => ?_)
      rcases h2.2 with ⟨h0, _⟩ | ⟨g2, cap, cur, h0, hge, _⟩
      · injection h0 with h0; rw [ha] at h0; cases h0
      · injection h0 with h0
        rw [ha] at h0
        injection h0 with h0
        subst h0
        have := own_lt h1 hx
        dsimp only at this
        omega
    · rw [← hr]
      rintro x w'' ⟨A, c', rfl, hc', hown, _, hO3⟩
      exact ⟨A, c', rfl, hc', hown, (hO1.thenNil hO2).trans hO3 (fun x hx => .inr (ownBlock_ge h12 hx))⟩
  have HKS := Lib.hid hks
  have HI := Lib.hid hi
  have HP := Lib.hid hp
  have HB := Lib.hid hb
  have k00 := hks w.drew (Only.refl _ _).drew
  obtain ⟨kc0, kc2⟩ := k00
  have kd0 : w.cell? ⟨p, 0, none⟩ = some (.slice (some ⟨g, 0, none⟩) size size) := (hks w (Only.refl _ _)).1
  have kd2 : w.cell? ⟨p, 2, none⟩ = some (.int .i64 c.length) := (hks w (Only.refl _ _)).2
  clear hks hi hp hb h hr
  go_enter Try.func19, Try.ntmps19
  go_wp2_with fail
  go_region_held3 (fun w' => w'.cell? ⟨p, 0, none⟩ = some (.slice (some ⟨g, 0, none⟩) size size) ∧ w'.cell? ⟨p, 2, none⟩ = some (.int .i64 c.length)) (first | with_reducible assumption | go_keep)
    (first
      | (go_simp; go_at_call 48; refine (HI.out _ ((Only.refl _ _).drew)).mono ?_; rintro x w1 ⟨A1, c1, rfl, hown1, hO1⟩; have hs1 := HKS.out _ hO1)
      | (go_simp; go_at_call 17; refine (HP.out _ hO1).mono ?_; rintro x w2 ⟨A2, c2, rfl, hown2, hO2⟩; have hs2 := HKS.out _ (hO1.thenNil hO2))
      | (go_simp; go_at_call 47; refine (HB.out _ _ A1 c1 A2 c2 hO1 hown1 hO2 hown2).mono ?_; rintro x w3 ⟨A3, c3, rfl, hc3, hown3, hO3⟩; have hs3 := HKS.out _ hO3))
  all_goals
    go_wp2_with fail
    go_ret
    exact ⟨A3, c3, rfl, hc3, hown3, hO3⟩

end Go.Proofs.Ytljfblnpgeconaa
