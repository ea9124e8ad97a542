/-
  Walks of wire: numbers; try with any closure.
  Conditions: the reader stands within its bytes; they are at most 2 to the power 40.
-/
import Derived.Test.YtbhgaaendekghaaWrB
import Derived.LoopTactic
namespace Go.Proofs.Ytbhgaaendekghaa
open Go.RowKit

/-- n integers, one after the other, and how many bytes they take. -/
def decN : Nat → List UInt8 → Option (List Int × Nat)
  | 0, _ => some ([], 0)
  | n + 1, l => match dec l with
    | some (z, k) => (decN n (l.drop k)).map fun r => (z :: r.1, k + r.2)
    | none => none
theorem decN_len : ∀ (n : Nat) (l : List UInt8) (zs : List Int) (k : Nat), decN n l = some (zs, k) → zs.length = n ∧ k ≤ l.length := by
  intro n
  induction n with
  | zero => intro l zs k h; simp only [decN, Option.some.injEq, Prod.mk.injEq] at h; obtain ⟨rfl, rfl⟩ := h; simp
  | succ n ih =>
    intro l zs k h
    unfold decN at h
    cases hd : dec l with
    | none => rw [hd] at h; cases h
    | some r =>
      obtain ⟨z, j⟩ := r
      rw [hd] at h
      dsimp only at h
      cases hr : decN n (l.drop j) with
      | none => rw [hr] at h; cases h
      | some r =>
        obtain ⟨ys, m⟩ := r
        rw [hr] at h
        simp only [Option.map_some, Option.some.injEq, Prod.mk.injEq] at h
        obtain ⟨rfl, rfl⟩ := h
        obtain ⟨h1, h2⟩ := ih _ _ _ hr
        rw [List.length_drop] at h2
        have := dec_len hd
        exact ⟨by rw [List.length_cons, h1], by omega⟩
/-- Behind the integers zs, that took k bytes. -/
def RestN (N : Nat) (l : List UInt8) (zs : List Int) (k : Nat) : Prop := zs.length ≤ N ∧ k ≤ l.length ∧ decN N l = (decN (N - zs.length) (l.drop k)).map fun r => (zs ++ r.1, k + r.2)
theorem RestN.zero (N : Nat) (l : List UInt8) : RestN N l [] 0 := by
  refine ⟨Nat.zero_le _, Nat.zero_le _, ?_⟩
  rw [List.length_nil, Nat.sub_zero, List.drop_zero]
  cases decN N l <;> simp
theorem RestN.none_ {N : Nat} {l : List UInt8} {zs : List Int} {k : Nat} (h : RestN N l zs k) (hl : zs.length < N) (hd : dec (l.drop k) = none) : decN N l = none := by
  rw [h.2.2, show N - zs.length = (N - zs.length - 1) + 1 by omega]
  unfold decN
  rw [hd]
  rfl
theorem RestN.more {N : Nat} {l : List UInt8} {zs : List Int} {k : Nat} {z : Int} {n : Nat} (h : RestN N l zs k) (hl : zs.length < N) (hd : dec (l.drop k) = some (z, n)) : RestN N l (zs ++ [z]) (k + n) := by
  have hk := dec_len hd
  have h2 := h.2.1
  rw [List.length_drop] at hk
  refine ⟨by rw [List.length_append, List.length_singleton]; omega, by omega, ?_⟩
  rw [h.2.2, show N - zs.length = (N - (zs ++ [z]).length) + 1 by rw [List.length_append, List.length_singleton]; omega]
  rw [decN, hd]
  dsimp only
  rw [List.drop_drop]
  cases decN (N - (zs ++ [z]).length) (l.drop (k + n)) with
  | none => rfl
  | some r => simp only [Option.map_some, List.append_assoc, List.cons_append, List.nil_append, Nat.add_assoc]
theorem RestN.done {N : Nat} {l : List UInt8} {zs : List Int} {k : Nat} (h : RestN N l zs k) (hl : N ≤ zs.length) : decN N l = some (zs, k) := by
  rw [h.2.2, show N - zs.length = 0 by omega]
  simp [decN]

def ints (zs : List Int) : Array Value := (zs.map (Value.int .i64)).toArray
theorem ints_no (zs : List Int) : NoU8 (ints zs) := by
  intro i z h
  unfold ints at h
  rw [List.getElem?_toArray, List.getElem?_map] at h
  cases e : zs[i]? with
  | none => rw [e] at h; simp at h
  | some y => rw [e] at h; simp at h
theorem ints_get {zs : List Int} {i : Nat} {z : Int} (h : zs[i]? = some z) : (ints zs)[i]? = some (.int .i64 z) := by
  unfold ints
  rw [List.getElem?_toArray, List.getElem?_map, h]
  rfl
theorem ints_set (zs : List Int) (y z : Int) (rs : List Int) : (ints (zs ++ y :: rs)).setIfInBounds zs.length (.int .i64 z) = ints (zs ++ [z] ++ rs) := by
  unfold ints
  rw [List.setIfInBounds_toArray]
  simp

theorem RR.far {w w' : World} {p g : Nat} {A : Option Addr} {c : Nat} {l : List UInt8} {pos : Nat} {f : Bool} {t : TypeId} {cs : Array Value} (h : RR w p A c l pos f) (hg : Blk w g t cs) (hcs : NoU8 cs) (hne : p ≠ g) (hO : Only (One g) w w') : RR w' p A c l pos f :=
  ⟨h.box.only hO hne, (h.bytes.box hg hcs hO (Nat.le_refl _)).up hO.size, h.cap⟩

def NumPost (n : Nat) (g : Nat) (t : TypeId) (p : Nat) (A : Option Addr) (c : Nat) (l : List UInt8) (pos : Nat) (f : Bool) (w : World) (e : Ending) (w' : World) : Prop :=
  ∃ (pos' : Nat) (zs : List Int), RR w' p A c l pos' f ∧ pos' ≤ l.length ∧ zs.length = n ∧ Blk w' g t (ints zs) ∧ Only (Two p g) w w' ∧
    ((∃ k, decN n (l.drop pos) = some (zs, k) ∧ pos' = pos + k ∧ e = .returned (.bool true)) ∨ (decN n (l.drop pos) = none ∧ e = .returned (.bool false)))

set_option maxRecDepth 100000 in
set_option maxHeartbeats 2000000 in
theorem numbers_any (n g C : Nat) (t : TypeId) (zs0 : List Int) (p : Nat) (A : Option Addr) (c : Nat) (l : List UInt8) (pos : Nat) (f : Bool) (w : World) (h : RR w p A c l pos f) (hp : pos ≤ l.length) (hl : l.length ≤ 1099511627776)
    (hg : Blk w g t (ints zs0)) (hz : zs0.length = n) (hne : p ≠ g) (hn : n ≤ 1099511627776) :
    Calls Try.prog 65 #[.pointer (some ⟨p, 0, none⟩), .slice (some ⟨g, 0, none⟩) n C] w (NumPost n g t p A c l pos f w) := by
  have H := Lib.hid h
  have HG := Lib.hid hg
  have HZ := Lib.hid hz
  have HL := Lib.hid hl
  have HPL := Lib.hid hp
  clear h hg hz hl hp
  go_enter Try.func65, Try.ntmps65
  go_wp2_with fail
  go_loopw [10] (fun i wr => ∃ (zs rs : List Int) (k : Nat), i = .int .i64 zs.length ∧ (zs ++ rs).length = n ∧ RestN n (l.drop pos) zs k ∧ RR wr p A c l (pos + k) f ∧ Blk wr g t (ints (zs ++ rs)) ∧ Only (Two p g) w wr) (fun i _ => n - (intOf i).toNat)
  case atStart => exact ⟨[], zs0, 0, rfl, HZ.out, RestN.zero _ _, H.out, HG.out, Only.refl _ _⟩
  case round =>
    obtain ⟨zs, rs, k, rfl, hlen, hV, hR, hB, hO⟩ := hrel
    obtain ⟨i, hi⟩ : ∃ i, zs.length = i := ⟨_, rfl⟩
    rw [hi]
    have hin : i ≤ n := by rw [List.length_append] at hlen; omega
    have hkl : pos + k ≤ l.length := by have h1 := hV.2.1; have := HPL.out; rw [List.length_drop] at h1; omega
    have HI := Lib.hid hi
    have HLEN := Lib.hid hlen
    have HV := Lib.hid hV
    have HR := Lib.hid hR
    have HB := Lib.hid hB
    have HO := Lib.hid hO
    have HKL := Lib.hid hkl
    have HC := Lib.hid (rdint_any p A c l (pos + k) f wr hR hkl HL.out)
    clear hi hlen hV hR hB hO hkl
    by_cases hlt : i < n
    · have hlti : (i : Int) < n := by omega
      go_wp2_with fail
      refine HC.out.mono ?_
      rintro e w1 ⟨pos', hR1, hp1, hO1, ⟨z, m, hd, rfl, rfl⟩ | ⟨hd, rfl⟩⟩
      rotate_left
      · have hb1 := HB.out.only hO1 (fun hx => hne hx.symm)
        have HR1 := Lib.hid hR1
        have HP1 := Lib.hid hp1
        have HB1 := Lib.hid hb1
        have HO1 := Lib.hid (HO.out.then_ (hO1.more (fun x hx => .inl hx)))
        have HD := Lib.hid hd
        clear hR1 hp1 hO1 hd hb1
        go_wp2_with fail
        go_ret
        exact ⟨pos', zs ++ rs, HR1.out, HP1.out, HLEN.out, HB1.out, HO1.out, .inr ⟨HV.out.none_ (by rw [HI.out]; exact hlt) (by rw [List.drop_drop]; exact HD.out), rfl⟩⟩
      · obtain ⟨y, rs', rfl⟩ : ∃ y rs', rs = y :: rs' := by
          cases rs with
          | nil => have := HLEN.out; rw [List.length_append, HI.out, List.length_nil] at this; omega
          | cons y rs' => exact ⟨y, rs', rfl⟩
        have hb1 := HB.out.only hO1 (fun hx => hne hx.symm)
        have hcg : w1.cell? ⟨g, i, none⟩ = some (.int .i64 y) := by
          rw [hb1.cell]
          exact ints_get (by rw [← HI.out, List.getElem?_append_right (Nat.le_refl _), Nat.sub_self]; rfl)
        have hfg : w1.frozen? ⟨g, i, none⟩ = false := hb1.frozen i
        have HR1 := Lib.hid hR1
        have HP1 := Lib.hid hp1
        have HB1 := Lib.hid hb1
        have HO1 := Lib.hid (HO.out.then_ (hO1.more (fun x hx => .inl hx)))
        have HD := Lib.hid hd
        have hw1 : IntKind.i64.wrap ((i : Int) + 1) = ((i + 1 : Nat) : Int) := by rw [IntWalk.i64_in _ (by omega)]; omega
        clear hR1 hp1 hO1 hd hb1
        go_wp2_with fail
        go_roundw
        case rel =>
          have hO2 : Only (One g) w1 (w1.setCell ⟨g, i, none⟩ (.int .i64 z)) := by (repeat' (first | with_reducible exact Only.refl _ _ | with_reducible refine Only.setCell ?_ (Or.inl ?_) _ | with_reducible refine Only.drewN ?_ _ | with_reducible refine Only.drew ?_ | with_reducible refine Only.alloc ?_ _ | (exact rfl)))
          have hb2 := HB1.out.set_ i (.int .i64 z)
          rw [show (ints (zs ++ y :: rs')).setIfInBounds i (.int .i64 z) = ints (zs ++ [z] ++ rs') by rw [← HI.out]; exact ints_set _ _ _ _] at hb2
          refine ⟨zs ++ [z], rs', k + m, ?_, ?_, HV.out.more (by rw [HI.out]; exact hlt) (by rw [List.drop_drop]; exact HD.out), ?_, hb2, HO1.out.then_ (hO2.more (fun x hx => .inr hx))⟩
          · rw [List.length_append, HI.out]; rfl
          · have := HLEN.out; simp only [List.length_append, List.length_cons, List.length_nil] at this ⊢; omega
          · rw [← Nat.add_assoc]
            exact HR1.out.far HB1.out (ints_no _) hne hO2
        case measure => simp [intOf]; omega
    · have hlti : ¬ (i : Int) < n := by omega
      go_wp2_with fail
      go_ret
      have hrs : rs = [] := by
        cases rs with
        | nil => rfl
        | cons y rs' => have := HLEN.out; rw [List.length_append, HI.out, List.length_cons] at this; omega
      have hb := HB.out
      rw [hrs, List.append_nil] at hb
      exact ⟨pos + k, zs, HR.out, HKL.out, by rw [HI.out]; omega, hb, HO.out, .inl ⟨k, HV.out.done (by rw [HI.out]; omega), rfl, rfl⟩⟩

/-- try, where the reader has failed: nothing happens. -/
theorem try_failed (F : Value) (p : Nat) (A : Option Addr) (c : Nat) (l : List UInt8) (pos : Nat) (w : World) (h : RR w p A c l pos true) :
    Calls Try.prog 60 #[.pointer (some ⟨p, 0, none⟩), F] w fun e w' => (∃ v, e = .returned v) ∧ w' = w := by
  have kb : ∀ i, w.cell? ⟨p, i, none⟩ = #[Value.slice A l.length c, .int .i64 pos, .bool true][i]? := fun i => h.box.cell i
  clear h
  go_enter Try.func60, Try.ntmps60
  go_wp2_with fail
  refine bodyPost_ret (v := .tuple #[]) (by simp [results, Try.results60, go_sem]) rfl ?_
  exact ⟨⟨_, rfl⟩, rfl⟩

/-- What try answers. -/
def TryPost (Q : Bool → World → Prop) (p : Nat) (A : Option Addr) (c : Nat) (l : List UInt8) (pos : Nat) (e : Ending) (w' : World) : Prop :=
  (∃ v, e = .returned v) ∧ (Q true w' ∨ ∃ u, Q false u ∧ RR w' p A c l pos true ∧ Only (One p) u w')

/-- What Int reads, and where the reader stands then. -/
def rInt (l : List UInt8) (pos : Nat) (f : Bool) : Int × Nat × Bool :=
  if f = true then (0, pos, true) else match dec (l.drop pos) with | some (z, n) => (z, pos + n, false) | none => (0, pos, true)

/-- What Bounded reads, and where the reader stands then. -/
def rBnd (lo hi : Int) (l : List UInt8) (pos : Nat) (f : Bool) : Int × Nat × Bool :=
  if f = true then (0, pos, true) else match dec (l.drop pos) with | some (z, n) => if lo ≤ z ∧ z ≤ hi then (z, pos + n, false) else (0, pos, true) | none => (0, pos, true)

/-- What Bytes reads, and where the reader stands then. -/
def rByt (most : Int) (l : List UInt8) (pos : Nat) (f : Bool) : List UInt8 × Nat × Bool :=
  if f = true then ([], pos, true) else match decB most (l.drop pos) with | some (x, n) => (x, pos + n, false) | none => ([], pos, true)

end Go.Proofs.Ytbhgaaendekghaa
