/-
  The reference's queue of messages: what is known of it in memory; First.
  Conditions: the queue's messages can be read.
-/
import Derived.Test.YtljfblnpgeconaaRiM4
import Derived.Test.YtljfblnpgeconaaRqE
namespace Go.Proofs.Ytljfblnpgeconaa
open Go.RowKit

/-- An address outside F. -/
def Av (F : Nat → Prop) (A : Option Addr) : Prop := ∀ a, A = some a → ¬ F a.block
def rcl (r : Option Addr × Nat × M) : List Value := mcells r.1 r.2.1 r.2.2
theorem rcl_len (r : Option Addr × Nat × M) : (rcl r).length = 9 := rfl
/-- A list of messages that can be read, outside F. -/
structure ML (w : World) (F : Nat → Prop) (A : Option Addr) (c : Nat) (rs : List (Option Addr × Nat × M)) : Prop where
  cap : rs.length ≤ c
  most : c ≤ maxLen
  rd : Rd w w.heap.size 9 A rs.length (rs.flatMap rcl)
  av : 0 < rs.length → Av F A
  data : ∀ r ∈ rs, r.2.2.data.length ≤ r.2.1 ∧ r.2.1 ≤ maxLen ∧ r.2.2.fits ∧ Bs w w.heap.size r.1 r.2.2.data ∧ (0 < r.2.2.data.length → Av F r.1)

theorem rd_avoid {w w' : World} {B size n : Nat} {A : Option Addr} {xs : List Value} {S : Nat → Prop} (h : Rd w B size A n xs) (hO : Only S w w') (hB : B ≤ w.heap.size) (ha : 0 < n → Av S A) : Rd w' B size A n xs :=
  ⟨h.1, fun hn => by
    obtain ⟨b, off, e, hb, hc⟩ := h.2 hn
    exact ⟨b, off, e, hb, fun j u hu => (hO.cell (p := ⟨b, off + j, none⟩) (Nat.lt_of_lt_of_le hb hB) (show ¬ S b from ha hn _ e)).trans (hc j u hu)⟩⟩
theorem ML.only {w w' : World} {F : Nat → Prop} {A : Option Addr} {c : Nat} {rs : List (Option Addr × Nat × M)} (h : ML w F A c rs) (hO : Only F w w') : ML w' F A c rs :=
  ⟨h.cap, h.most, (rd_avoid h.rd hO (Nat.le_refl _) h.av).more hO.size, h.av, fun r hr => by
    obtain ⟨h1, h2, h3, h4, h5⟩ := h.data r hr
    exact ⟨h1, h2, h3, Rd.more (rd_avoid h4 hO (Nat.le_refl _) h5) hO.size, h5⟩⟩
theorem ML.onlyNil {w w' : World} {F : Nat → Prop} {A : Option Addr} {c : Nat} {rs : List (Option Addr × Nat × M)} (h : ML w F A c rs) (hO : Only Nil w w') : ML w' F A c rs := h.only hO.any
/-- F may grow by new blocks. -/
theorem ML.grow {w : World} {F F' : Nat → Prop} {A : Option Addr} {c : Nat} {rs : List (Option Addr × Nat × M)} (h : ML w F A c rs) (hF : ∀ x, x < w.heap.size → F' x → F x) : ML w F' A c rs := by
  have key : ∀ (n size : Nat) (A : Option Addr) (xs : List Value), Rd w w.heap.size size A n xs → (0 < n → Av F A) → (0 < n → Av F' A) := fun n size A xs hr ha hn a e hx => by
    obtain ⟨b, off, e', hb, _⟩ := hr.2 hn
    refine ha hn a e (hF _ ?_ hx)
    rw [e] at e'
    injection e' with e'
    rw [e']
    exact hb
  exact ⟨h.cap, h.most, h.rd, key _ _ _ _ h.rd h.av, fun r hr => by
    obtain ⟨h1, h2, h3, h4, h5⟩ := h.data r hr
    exact ⟨h1, h2, h3, h4, key _ _ _ _ h4 h5⟩⟩
theorem ML.at_ {w : World} {F : Nat → Prop} {A : Option Addr} {c : Nat} {rs : List (Option Addr × Nat × M)} (h : ML w F A c rs) {k : Nat} {r : Option Addr × Nat × M} (hk : rs[k]? = some r) :
    ∃ b off, A = some ⟨b, off, none⟩ ∧ b < w.heap.size ∧ ∀ j u, (rcl r)[j]? = some u → w.cell? ⟨b, off + (k * 9 + j), none⟩ = some u := h.rd.row rcl_len hk (by omega)

def RFirstPost (F : Nat → Prop) (rs : List (Option Addr × Nat × M)) (w : World) (e : Ending) (w' : World) : Prop :=
  Only Nil w w' ∧ ((rs = [] ∧ e = .returned (.tuple #[.agg (mcells none 0 zM).toArray, .bool false])) ∨ ∃ r rs', rs = r :: rs' ∧ e = .returned (.tuple #[.agg (rcl r).toArray, .bool true]))

set_option maxRecDepth 100000 in
set_option maxHeartbeats 1000000 in
theorem Ref.qfirst_any (n : Nat) (F : Nat → Prop) (A : Option Addr) (c : Nat) (rs : List (Option Addr × Nat × M)) (w : World) (h : ML w F A c rs) :
    Calls Try.prog 42 #[.agg #[.int .i64 n, .slice A rs.length c]] w (RFirstPost F rs w) := by
  obtain ⟨w2, hw2⟩ : ∃ w2, w2 = (w.alloc (.cells #[.int .i64 n, .slice A rs.length c] 73)).alloc (.cells (mcells none 0 zM).toArray 48) := ⟨_, rfl⟩
  have hO2 : Only Nil w w2 := by rw [hw2]; exact ((Only.refl _ _).alloc _).alloc _
  have hb1 : Blk w2 w.heap.size 73 #[.int .i64 n, .slice A rs.length c] := by rw [hw2]; exact (Blk.new _ _ _).alloc _
  have hb2 : Blk w2 (w.heap.size + 1) 48 (mcells none 0 zM).toArray := by
    rw [hw2]
    have := Blk.new (w.alloc (.cells #[.int .i64 n, .slice A rs.length c] 73)) 48 (mcells none 0 zM).toArray
    rw [World.size_alloc] at this
    exact this
  have HM := Lib.hid (h.onlyNil hO2)
  have HW2 := Lib.hid hw2
  have HO2 := Lib.hid hO2
  have k1 : ∀ i, w2.cell? ⟨w.heap.size, i, none⟩ = #[Value.int .i64 n, .slice A rs.length c][i]? := fun i => hb1.cell i
  have k2 : ∀ i, w2.cell? ⟨w.heap.size + 1, i, none⟩ = #[Value.int .i64 0, .int .i64 0, .int .i64 0, .int .i64 0, .int .i64 0, .int .i64 0, .int .i64 0, .int .i64 0, .slice none 0 0][i]? := fun i => hb2.cell i
  have f2 : ∀ i, w2.frozen? ⟨w.heap.size + 1, i, none⟩ = false := fun i => hb2.frozen i
  have hsz : w2.heap.size = w.heap.size + 1 + 1 := by rw [hw2, World.size_alloc, World.size_alloc]
  have HSZ := Lib.hid hsz
  have hst : ∀ A c m, Only Nil w (setM w2 (w.heap.size + 1) A c m) := fun A c m => hO2.trans (setM_only w2 (w.heap.size + 1) A c m) (fun x hx => .inr (by unfold One at hx; omega))
  have HST := Lib.hid hst
  clear h hO2 hb1 hb2 hw2 hsz hst
  rcases rs with _ | ⟨⟨Am, cm, m⟩, rs⟩
  · rw [show ([] : List (Option Addr × Nat × M)).length = 0 from rfl] at k1 HW2 ⊢
    go_enter Try.func42, Try.ntmps42
    go_upto_region 1 with fail
    rw [show (w.alloc (.cells #[Value.int .i64 n, .slice A 0 c] 73)).alloc (.cells #[Value.int .i64 0, .int .i64 0, .int .i64 0, .int .i64 0, .int .i64 0, .int .i64 0, .int .i64 0, .int .i64 0, .slice none 0 0] 48) = w2 from HW2.out.symm]
    go_wp2_with fail
    refine bodyPost_ret (v := .tuple #[.agg (mcells none 0 zM).toArray, .bool false]) (by simp [results, Try.results42, go_sem, k2, mcells, zM]) rfl ?_
    exact ⟨HST.out none 0 zM, .inl ⟨rfl, rfl⟩⟩
  · obtain ⟨b, off, rfl, hbw, hc⟩ := HM.out.at_ (k := 0) rfl
    have hbl : b < w.heap.size + 1 + 1 := by rw [← HSZ.out]; exact hbw
    obtain ⟨L, hL⟩ : ∃ L, ((Am, cm, m) :: rs).length = L := ⟨_, rfl⟩
    have hl0 : ((L : Int) == 0) = false := beq_false_of_ne (by rw [← hL, List.length_cons]; omega)
    have hl1 : (0 : Int) < (L : Int) := by rw [← hL, List.length_cons]; omega
    have hst := HST.out Am cm m
    obtain ⟨src, dst, kind, seq, a0, a1, a2, a3, x⟩ := m
    unfold rcl mcells at hc
    dsimp only at hc
    unfold setM at hst
    dsimp only at hst
    obtain ⟨X, hX⟩ : ∃ X, x.length = X := ⟨_, rfl⟩
    rw [hX] at hc hst
    rw [Nat.zero_mul] at hc
    have e0 : w2.cell? ⟨b, off, none⟩ = some (.int .i64 src) := hc 0 _ rfl
    have e1 : w2.cell? ⟨b, off + 1, none⟩ = some (.int .i64 dst) := hc 1 _ rfl
    have e2 : w2.cell? ⟨b, off + 2, none⟩ = some (.int .i64 kind) := hc 2 _ rfl
    have e3 : w2.cell? ⟨b, off + 3, none⟩ = some (.int .i64 seq) := hc 3 _ rfl
    have e4 : w2.cell? ⟨b, off + 4, none⟩ = some (.int .i64 a0) := hc 4 _ rfl
    have e5 : w2.cell? ⟨b, off + 5, none⟩ = some (.int .i64 a1) := hc 5 _ rfl
    have e6 : w2.cell? ⟨b, off + 6, none⟩ = some (.int .i64 a2) := hc 6 _ rfl
    have e7 : w2.cell? ⟨b, off + 7, none⟩ = some (.int .i64 a3) := hc 7 _ rfl
    have e8 : w2.cell? ⟨b, off + 8, none⟩ = some (.slice Am X cm) := hc 8 _ rfl
    have HF := Lib.hid hst
    have HX := Lib.hid hX
    rw [hL] at k1 HW2 ⊢
    have HLL := Lib.hid hL
    clear hc hst hX hL
    go_enter Try.func42, Try.ntmps42
    go_upto_region 1 with fail
    rw [show (w.alloc (.cells #[Value.int .i64 n, .slice (some ⟨b, off, none⟩) L c] 73)).alloc (.cells #[Value.int .i64 0, .int .i64 0, .int .i64 0, .int .i64 0, .int .i64 0, .int .i64 0, .int .i64 0, .int .i64 0, .slice none 0 0] 48) = w2 from HW2.out.symm]
    go_wp2_with fail
    refine bodyPost_ret (v := .tuple #[.agg #[.int .i64 src, .int .i64 dst, .int .i64 kind, .int .i64 seq, .int .i64 a0, .int .i64 a1, .int .i64 a2, .int .i64 a3, .slice Am X cm], .bool true]) (by simp [results, Try.results42, go_sem, k2]) rfl ?_
    refine ⟨HF.out, .inr ⟨_, rs, rfl, ?_⟩⟩
    unfold rcl mcells
    dsimp only
    rw [HX.out]

end Go.Proofs.Ytljfblnpgeconaa
