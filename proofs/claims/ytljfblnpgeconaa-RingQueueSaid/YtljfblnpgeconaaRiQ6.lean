/-
  The beginnings of the law RingQueue: a new queue or one from its encoding, on both sides; what is known at the head of its loop.
  Conditions: the bytes can be read.
-/
import Derived.Test.YtljfblnpgeconaaRiQ2
import Derived.Test.YtljfblnpgeconaaRiQ5
import Derived.Test.YtljfblnpgeconaaRiD2
namespace Go.Proofs.Ytljfblnpgeconaa
open Go.RowKit

def newU (size : Int) : Option (Nat × List M) := if 1 ≤ size ∧ size ≤ 200 then some (size.toNat, []) else none

theorem Ref.newQ_no (n : Int) (w : World) (h : n < 1 ∨ 200 < n) :
    Calls Try.prog 41 #[.int .i64 n] w fun e w' => e = .returned (.tuple #[.agg #[.int .i64 0, .slice none 0 0], .int .i64 2]) ∧ Only Nil w w' := by
  rcases h with h | h
  · go_enter Try.func41, Try.ntmps41
    go_wp2_with fail
    refine bodyPost_ret (v := .tuple #[.agg #[.int .i64 0, .slice none 0 0], .int .i64 2]) (by simp [results, Try.results41, go_sem]) rfl ?_
    exact ⟨rfl, by (repeat' (first | with_reducible exact Only.refl _ _ | with_reducible refine Only.setCell ?_ (Or.inl ?_) _ | with_reducible refine Only.drewN ?_ _ | with_reducible refine Only.drew ?_ | with_reducible refine Only.alloc ?_ _ | (fail)))⟩
  · have h' : ¬ n < 1 := by omega
    go_enter Try.func41, Try.ntmps41
    go_wp2_with fail
    refine bodyPost_ret (v := .tuple #[.agg #[.int .i64 0, .slice none 0 0], .int .i64 2]) (by simp [results, Try.results41, go_sem]) rfl ?_
    exact ⟨rfl, by (repeat' (first | with_reducible exact Only.refl _ _ | with_reducible refine Only.setCell ?_ (Or.inl ?_) _ | with_reducible refine Only.drewN ?_ _ | with_reducible refine Only.drew ?_ | with_reducible refine Only.alloc ?_ _ | (fail)))⟩
theorem Ref.newQ_any (n : Nat) (w : World) (h0 : 1 ≤ n) (h1 : n ≤ 200) :
    Calls Try.prog 41 #[.int .i64 n] w fun e w' => e = .returned (.tuple #[.agg #[.int .i64 n, .slice none 0 0], .int .i64 0]) ∧ Only Nil w w' := by
  have g0 : ¬ (n : Int) < 1 := by omega
  have g1 : ¬ (200 : Int) < n := by omega
  go_enter Try.func41, Try.ntmps41
  go_wp2_with fail
  refine bodyPost_ret (v := .tuple #[.agg #[.int .i64 n, .slice none 0 0], .int .i64 0]) (by simp [results, Try.results41, go_sem]) rfl ?_
  exact ⟨rfl, by (repeat' (first | with_reducible exact Only.refl _ _ | with_reducible refine Only.setCell ?_ (Or.inl ?_) _ | with_reducible refine Only.drewN ?_ _ | with_reducible refine Only.drew ?_ | with_reducible refine Only.alloc ?_ _ | (fail)))⟩

/-- The repository's queue and error. -/
def QSu (r : Option (Nat × List M)) (E : Int) (base : Nat) (q : Value) (er : Int) (w : World) : Prop :=
  match r with
  | none => q = .pointer none ∧ er = E
  | some (n, ms) => ∃ p F, q = .pointer (some ⟨p, 0, none⟩) ∧ er = 0 ∧ QU w F p n ms ∧ (∀ x, F x → base ≤ x) ∧ ∀ m ∈ ms, m.fits ∧ m.data.length ≤ 1536
/-- The reference's queue (its fields) and error. -/
def VSu (r : Option (Nat × List M)) (E : Int) (base : Nat) (m : Int) (B : Option Addr) (k c : Nat) (er : Int) (w : World) : Prop :=
  match r with
  | none => er = E
  | some (n, ms) => m = n ∧ k = ms.length ∧ er = 0 ∧ MRow w (fun x => base ≤ x) B c ms
theorem QSu.onlyNil {r : Option (Nat × List M)} {E : Int} {base : Nat} {q : Value} {er : Int} {w w' : World} (h : QSu r E base q er w) (hO : Only Nil w w') : QSu r E base q er w' := by
  unfold QSu at h ⊢
  split at h
  · exact h
  · obtain ⟨p, F, h1, h2, h3, h4, h5⟩ := h
    exact ⟨p, F, h1, h2, h3.onlyNil hO, h4, h5⟩
theorem QSu.base {r : Option (Nat × List M)} {E : Int} {base base' : Nat} {q : Value} {er : Int} {w : World} (h : QSu r E base q er w) (hb : base' ≤ base) : QSu r E base' q er w := by
  unfold QSu at h ⊢
  split at h
  · exact h
  · obtain ⟨p, F, h1, h2, h3, h4, h5⟩ := h
    exact ⟨p, F, h1, h2, h3, fun x hx => Nat.le_trans hb (h4 x hx), h5⟩

theorem newQueue_st (size : Int) (w : World) : Calls Try.prog 20 #[.int .i64 size] w fun e w' => ∃ q er, e = .returned (.tuple #[q, .int .i64 er]) ∧ QSu (newU size) 2 w.heap.size q er w' ∧ Only Nil w w' := by
  unfold newU
  by_cases h : 1 ≤ size ∧ size ≤ 200
  · rw [if_pos h]
    obtain ⟨n, rfl⟩ := Int.eq_ofNat_of_zero_le (show 0 ≤ size by omega)
    refine (newQueue_any n w (by omega) (by omega)).mono ?_
    rintro e w' ⟨rfl, hT, hO⟩
    exact ⟨_, _, rfl, ⟨_, _, rfl, rfl, hT, fun x hx => Nat.le_of_eq (by unfold One at hx; exact hx.symm), fun m hm => by cases hm⟩, hO⟩
  · rw [if_neg h]
    refine (newQueue_no size w (by omega)).mono ?_
    rintro e w' ⟨rfl, rfl⟩
    exact ⟨_, _, rfl, ⟨rfl, rfl⟩, Only.refl _ _⟩
theorem Ref.newQ_st (size : Int) (w : World) : Calls Try.prog 41 #[.int .i64 size] w fun e w' => ∃ m B k c er, e = .returned (.tuple #[.agg #[.int .i64 m, .slice B k c], .int .i64 er]) ∧ VSu (newU size) 2 w.heap.size m B k c er w' ∧ Only Nil w w' := by
  unfold newU
  by_cases h : 1 ≤ size ∧ size ≤ 200
  · rw [if_pos h]
    obtain ⟨n, rfl⟩ := Int.eq_ofNat_of_zero_le (show 0 ≤ size by omega)
    refine (Ref.newQ_any n w (by omega) (by omega)).mono ?_
    rintro e w' ⟨rfl, hO⟩
    exact ⟨_, _, _, _, _, rfl, ⟨rfl, rfl, rfl, ⟨[], Nat.le_refl _, rfl, World.ownsRow_nil _ _ _ _, (fun q hq => by cases hq), (fun r hr => by cases hr)⟩⟩, hO⟩
  · rw [if_neg h]
    refine (Ref.newQ_no size w (by omega)).mono ?_
    rintro e w' ⟨rfl, hO⟩
    exact ⟨_, _, _, _, _, rfl, rfl, hO⟩
theorem decQueue_st (A : Option Addr) (c : Nat) (l : List UInt8) (w : World) (h : Bs w w.heap.size A l) (hl : l.length ≤ 1099511627776) :
    Calls Try.prog 39 #[.slice A l.length c] w fun e w' => ∃ q er, e = .returned (.tuple #[q, .int .i64 er]) ∧ QSu (decQu l) 4 w.heap.size q er w' ∧ Only Nil w w' := by
  refine (decQueue_any A c l w h hl).mono ?_
  intro e w' h
  have hd := fun n ms h => decQu_enc (l := l) (n := n) (ms := ms) h
  generalize decQu l = r at h hd
  unfold QSu
  rcases r with _ | ⟨n, x⟩
  · exact ⟨_, _, h.1, ⟨rfl, rfl⟩, h.2⟩
  · obtain ⟨p, h1, h2, h3⟩ := h
    exact ⟨_, _, h1, ⟨p, _, rfl, rfl, h2, fun x hx => hx.1, (hd n x rfl).2.2.2.2⟩, h3⟩
theorem Ref.decQueue_st (A : Option Addr) (c : Nat) (l : List UInt8) (w : World) (h : Bs w w.heap.size A l) (hl : l.length ≤ 1099511627776) (hc : l.length ≤ c) (hcm : c ≤ maxLen) :
    Calls Try.prog 40 #[.slice A l.length c] w fun e w' => ∃ m B k cb er, e = .returned (.tuple #[.agg #[.int .i64 m, .slice B k cb], .int .i64 er]) ∧ VSu (decQu l) 4 w.heap.size m B k cb er w' ∧ Only Nil w w' := by
  refine (Ref.decQueue_any A c l w h hl hc hcm).mono ?_
  intro e w' h
  generalize decQu l = r at h
  unfold VSu
  rcases r with _ | ⟨n, x⟩
  · exact ⟨_, _, _, _, _, h.1, rfl, h.2⟩
  · obtain ⟨B, cb, h1, h2, h3⟩ := h
    exact ⟨_, B, _, cb, _, h1, ⟨rfl, rfl, rfl, h2⟩, h3⟩

theorem ML.of_mrow {w : World} {F P : Nat → Prop} {A : Option Addr} {c : Nat} {ms : List M} (h : MRow w P A c ms) (hF : ∀ x, F x → ¬ P x) (hf : ∀ m ∈ ms, m.fits) : ∃ rs, rs.map (fun r => r.2.2) = ms ∧ rs.length = ms.length ∧ ML w F A c rs := by
  obtain ⟨rs, r1, r2, r3, r4, r5⟩ := h
  have hl : rs.length = ms.length := by rw [← r2, List.length_map]
  have hown : w.ownsRow 0 48 9 (.slice A rs.length c) rs.length (rs.flatMap rcl) := by rw [hl]; exact r3
  refine ⟨rs, r2, hl, by omega, cap_of_own9 hown, Rd.of_own hown, fun hn a ha hx => ?_, fun r hr => ?_⟩
  · exact hF _ hx (r4 a.block (by rw [ha]; rfl))
  · obtain ⟨g1, g2, g3, g4⟩ := r5 r hr
    exact ⟨g1, cap_of_own g3, hf _ (by rw [← r2]; exact List.mem_map_of_mem hr), (Bs.of_own g3).1, fun hn a ha hx => hF _ hx (g4 a.block (by rw [ha]; rfl))⟩

/-- The queue's blocks and one more. -/
def Gp (F : Nat → Prop) (gp : Nat) : Nat → Prop := fun x => F x ∨ x = gp
/-- What is known at the head of the loop: both queues with the messages of rs. -/
structure RU (w wr : World) (p gp n : Nat) (F : Nat → Prop) (rs : List (Option Addr × Nat × M)) (A : Option Addr) (c : Nat) : Prop where
  q : QU wr F p n (rs.map fun r => r.2.2)
  v : Blk wr gp 73 #[.int .i64 n, .slice A rs.length c]
  ml : ML wr (Gp F gp) A c rs
  short : ∀ r ∈ rs, r.2.2.data.length ≤ 1536
  gpF : ¬ F gp
  far : ∀ x, F x → w.heap.size ≤ x
  gpw : w.heap.size ≤ gp
  only : Only Nil w wr
theorem RU.onlyNil {w wr w' : World} {p gp n : Nat} {F : Nat → Prop} {rs : List (Option Addr × Nat × M)} {A : Option Addr} {c : Nat} (h : RU w wr p gp n F rs A c) (hO : Only Nil wr w') : RU w w' p gp n F rs A c :=
  ⟨h.q.onlyNil hO, h.v.onlyNil hO, h.ml.onlyNil hO, h.short, h.gpF, h.far, h.gpw, h.only.thenNil hO⟩
theorem RU.len {w wr : World} {p gp n : Nat} {F : Nat → Prop} {rs : List (Option Addr × Nat × M)} {A : Option Addr} {c : Nat} (h : RU w wr p gp n F rs A c) : rs.length ≤ n ∧ n ≤ 200 ∧ 1 ≤ n := by
  have h1 := h.q.room
  rw [List.length_map] at h1
  exact ⟨h1, h.q.most, h.q.pos⟩

def BSu (r : Option (Nat × List M)) (E : Int) (w : World) (gp : Nat) (q : Value) (er er' m : Int) (B : Option Addr) (k c : Nat) (wc : World) : Prop :=
  match r with
  | none => q = .pointer none ∧ er = E ∧ er' = E ∧ Only Nil w wc
  | some (n, ms) => er = 0 ∧ er' = 0 ∧ m = n ∧ k = ms.length ∧ ∃ p F rs, q = .pointer (some ⟨p, 0, none⟩) ∧ rs.map (fun r => r.2.2) = ms ∧ RU w wc p gp n F rs B c

theorem bsu_of {r : Option (Nat × List M)} {E : Int} {w u u' u'' : World} {gp : Nat} {q : Value} {er er' m : Int} {B : Option Addr} {k c b0 : Nat}
    (hq : QSu r E b0 q er u) (hb0 : w.heap.size ≤ b0) (hv : VSu r E u.heap.size m B k c er' u') (h0 : Only Nil w u) (h1 : Only Nil u u') (hgp : w.heap.size ≤ gp)
    (h2 : (Only Nil u' u'' ∧ u'.heap.size ≤ gp) ∨ (gp < b0 ∧ b0 ≤ u.heap.size ∧ ∃ cs, Blk u' gp 73 cs ∧ Only (One gp) u' u'')) (hb : Blk u'' gp 73 #[.int .i64 m, .slice B k c]) : BSu r E w gp q er er' m B k c u'' := by
  have hO : Only Nil w u'' := by
    rcases h2 with h | ⟨_, _, cs, _, h⟩
    · exact (h0.thenNil h1).thenNil h.1
    · exact (h0.thenNil h1).trans h fun x hx => .inr (by unfold One at hx; omega)
  unfold QSu at hq
  unfold VSu at hv
  unfold BSu
  split at hq
  · exact ⟨hq.1, hq.2, hv, hO⟩
  · rename_i n ms
    obtain ⟨p, F, rfl, rfl, hQ, hF, hms⟩ := hq
    obtain ⟨rfl, rfl, rfl, hM⟩ := hv
    have hQ1 := hQ.onlyNil h1
    have hgF : ¬ F gp := fun hx => by
      have a1 := hQ.bound _ hx
      have a2 := hF _ hx
      have a3 := h1.size
      rcases h2 with h | ⟨h, _⟩
      · omega
      · omega
    have hM2 : MRow u'' (fun x => u.heap.size ≤ x ∧ x < u'.heap.size) B c ms := by
      rcases h2 with h | ⟨_, _, cs, hcs, h⟩
      · exact hM.bound.onlyNil h.1
      · exact hM.bound.box hcs (by decide) (by decide) h
    have hQ2 : QU u'' F p n ms := by
      rcases h2 with h | ⟨_, _, cs, hcs, h⟩
      · exact hQ1.onlyNil h.1
      · exact hQ1.only h (fun x hx hx2 => by unfold One at hx2; rw [hx2] at hx; exact hgF hx)
    obtain ⟨rs, e1, e2, hml⟩ := ML.of_mrow (F := Gp F gp) hM2 (fun x hx hp => by
      rcases hx with hx | hx
      · have := hQ.bound x hx; omega
      · rcases h2 with h | ⟨h, h', _⟩ <;> omega) (fun m hm => (hms m hm).1)
    refine ⟨rfl, rfl, rfl, rfl, p, F, rs, rfl, e1, ?_, ?_, hml, fun r hr => ?_, hgF, fun x hx => Nat.le_trans hb0 (hF x hx), hgp, hO⟩
    · rw [e1]; exact hQ2
    · rw [e2]; exact hb
    · exact (hms _ (by rw [← e1]; exact List.mem_map_of_mem hr)).2

end Go.Proofs.Ytljfblnpgeconaa
