/-
  Lists of strings: the encoding, what is read; the walks of wire.String and wire.Strings.
  Conditions: the strings can be read; they are not too long.
-/
import Derived.Test.YtbhgaaendekghaaEfP
import Derived.Test.YtbhgaaendekghaaWrE
import Derived.Lib.AppendStr
namespace Go.Proofs.Ytbhgaaendekghaa
open Go.RowKit

/-- A string as a value. -/
def sval (s : List UInt8) : Value := .string ⟨s.toArray⟩
theorem sval_one (ss : List (List UInt8)) : ∀ u ∈ ss.map sval, u.oneCell' = true := by
  intro u hu
  obtain ⟨s, _, rfl⟩ := List.mem_map.1 hu
  rfl
theorem strCells_eq (s : List UInt8) : Lib.strCells ⟨s.toArray⟩ = bcells s := by
  unfold Lib.strCells bcells
  rfl
theorem str_size (s : List UInt8) : ByteArray.size ⟨s.toArray⟩ = s.length := rfl
def encS (s : List UInt8) : List UInt8 := encI s.length ++ s
def encSn (ss : List (List UInt8)) : List UInt8 := ss.flatMap encS
/-- The encoding of a list of strings. -/
def encSs (ss : List (List UInt8)) : List UInt8 := encI ss.length ++ encSn ss
theorem encSn_cons (s : List UInt8) (ss : List (List UInt8)) : encSn (s :: ss) = encS s ++ encSn ss := by unfold encSn; rw [List.flatMap_cons]
theorem encSn_snoc (ss : List (List UInt8)) (s : List UInt8) : encSn (ss ++ [s]) = encSn ss ++ encS s := by unfold encSn; simp
/-- n strings of at most L bytes each, and how many bytes they take. -/
def decSn (L : Int) : Nat → List UInt8 → Option (List (List UInt8) × Nat)
  | 0, _ => some ([], 0)
  | n + 1, l => match decB L l with
    | some (x, k) => (decSn L n (l.drop k)).map fun r => (x :: r.1, k + r.2)
    | none => none
theorem decSn_some {L : Int} : ∀ (n : Nat) (l : List UInt8) (xs : List (List UInt8)) (k : Nat), decSn L n l = some (xs, k) → xs.length = n ∧ (encSn xs).length = k ∧ l = encSn xs ++ l.drop k ∧ k ≤ l.length ∧ ∀ x ∈ xs, (x.length : Int) ≤ L := by
  intro n
  induction n with
  | zero =>
    intro l xs k h
    simp only [decSn, Option.some.injEq, Prod.mk.injEq] at h
    obtain ⟨rfl, rfl⟩ := h
    simp [encSn]
  | succ n ih =>
    intro l xs k h
    unfold decSn at h
    cases hd : decB L l with
    | none => rw [hd] at h; cases h
    | some r =>
      obtain ⟨x, j⟩ := r
      rw [hd] at h
      dsimp only at h
      cases hr : decSn L n (l.drop j) with
      | none => rw [hr] at h; cases h
      | some r =>
        obtain ⟨ys, m⟩ := r
        rw [hr] at h
        simp only [Option.map_some, Option.some.injEq, Prod.mk.injEq] at h
        obtain ⟨rfl, rfl⟩ := h
        obtain ⟨h1, h2, h3, h4, h5⟩ := ih _ _ _ hr
        obtain ⟨g1, g2, g3, g4⟩ := decB_some hd
        rw [List.length_drop] at h4
        refine ⟨by rw [List.length_cons, h1], by rw [encSn_cons, List.length_append, encS, g1, h2], ?_, by omega, fun y hy => ?_⟩
        · rw [encSn_cons, encS, List.append_assoc, ← List.drop_drop, ← h3]
          rw [← g2]
        · rcases List.mem_cons.1 hy with rfl | hy
          · exact g3
          · exact h5 y hy
/-- The list of at most so many strings with which the bytes begin, and how many bytes it takes. -/
def decSs (most L : Int) (l : List UInt8) : Option (List (List UInt8) × Nat) :=
  match dec l with
  | some (z, k) => if 0 ≤ z ∧ z ≤ most ∧ z ≤ (l.drop k).length then (decSn L z.toNat (l.drop k)).map fun r => (r.1, k + r.2) else none
  | none => none
theorem decSs_some {most L : Int} {l : List UInt8} {xs : List (List UInt8)} {n : Nat} (h : decSs most L l = some (xs, n)) : (encSs xs).length = n ∧ l = encSs xs ++ l.drop n ∧ (xs.length : Int) ≤ most ∧ n ≤ l.length ∧ ∀ x ∈ xs, (x.length : Int) ≤ L := by
  unfold decSs at h
  split at h
  · rename_i z k hd
    split at h
    · rename_i hz
      cases hr : decSn L z.toNat (l.drop k) with
      | none => rw [hr] at h; cases h
      | some r =>
        obtain ⟨ys, m⟩ := r
        rw [hr] at h
        simp only [Option.map_some, Option.some.injEq, Prod.mk.injEq] at h
        obtain ⟨rfl, rfl⟩ := h
        obtain ⟨h1, h2, h3, h4, h5⟩ := decSn_some _ _ _ _ hr
        obtain ⟨g1, g2, g3, g4⟩ := dec_some hd
        rw [List.length_drop] at h4
        have e : (ys.length : Int) = z := by omega
        refine ⟨by unfold encSs; rw [e, List.length_append, g1, h2], ?_, by omega, by have := (dec_len hd).1; omega, h5⟩
        unfold encSs
        rw [e, List.append_assoc, ← List.drop_drop, ← h3, ← g2]
    · cases h
  · cases h
/-- What Strings reads, and where the reader stands then. -/
def rStrs (most : Int) (l : List UInt8) (pos : Nat) (f : Bool) : List (List UInt8) × Nat × Bool :=
  if f = true then ([], pos, true) else match decSs most l.length (l.drop pos) with | some (xs, n) => (xs, pos + n, false) | none => ([], pos, true)
theorem rStrs_pos {most : Int} {l : List UInt8} {pos : Nat} (f : Bool) (hp : pos ≤ l.length) : (rStrs most l pos f).2.1 ≤ l.length := by
  unfold rStrs
  split
  · exact hp
  · split
    · rename_i hd
      have := (decSs_some hd).2.2.2.1
      rw [List.length_drop] at this
      dsimp only
      omega
    · exact hp
/-- Behind the strings xs, that took k bytes. -/
def RestS (L : Int) (N : Nat) (l : List UInt8) (xs : List (List UInt8)) (k : Nat) : Prop := xs.length ≤ N ∧ k ≤ l.length ∧ decSn L N l = (decSn L (N - xs.length) (l.drop k)).map fun r => (xs ++ r.1, k + r.2)
theorem RestS.zero (L : Int) (N : Nat) (l : List UInt8) : RestS L N l [] 0 := by
  refine ⟨Nat.zero_le _, Nat.zero_le _, ?_⟩
  rw [List.length_nil, Nat.sub_zero, List.drop_zero]
  cases decSn L N l <;> simp
theorem RestS.none_ {L : Int} {N : Nat} {l : List UInt8} {xs : List (List UInt8)} {k : Nat} (h : RestS L N l xs k) (hl : xs.length < N) (hd : decB L (l.drop k) = none) : decSn L N l = none := by
  rw [h.2.2, show N - xs.length = (N - xs.length - 1) + 1 by omega]
  unfold decSn
  rw [hd]
  rfl
theorem RestS.more {L : Int} {N : Nat} {l : List UInt8} {xs : List (List UInt8)} {k : Nat} {x : List UInt8} {n : Nat} (h : RestS L N l xs k) (hl : xs.length < N) (hd : decB L (l.drop k) = some (x, n)) : RestS L N l (xs ++ [x]) (k + n) := by
  have hk := (decB_some hd).2.2.2
  have h2 := h.2.1
  rw [List.length_drop] at hk
  refine ⟨by rw [List.length_append, List.length_singleton]; omega, by omega, ?_⟩
  rw [h.2.2, show N - xs.length = (N - (xs ++ [x]).length) + 1 by rw [List.length_append, List.length_singleton]; omega]
  rw [decSn, hd]
  dsimp only
  rw [List.drop_drop]
  cases decSn L (N - (xs ++ [x]).length) (l.drop (k + n)) with
  | none => rfl
  | some r =>
    obtain ⟨a, b⟩ := r
    simp [Nat.add_assoc]
theorem RestS.done {L : Int} {N : Nat} {l : List UInt8} {xs : List (List UInt8)} {k : Nat} (h : RestS L N l xs k) (hl : N ≤ xs.length) : decSn L N l = some (xs, k) := by
  rw [h.2.2, show N - xs.length = 0 by omega]
  simp [decSn]

/-- Bytes of the call's own; nothing older than base turned. -/
def OutPost (base : Nat) (r : List UInt8) (w : World) (e : Ending) (w' : World) : Prop :=
  ∃ A c, e = .returned (.slice A r.length c) ∧ r.length ≤ c ∧ w'.ownsRow base 5 1 (.slice A r.length c) r.length (bcells r) ∧ Only (fun z => base ≤ z) w w'
theorem AppPost.out {base : Nat} {v : Value} {r : List UInt8} {w w' : World} {e : Ending} {n : Nat} {xs : List Value} (hv : w.ownsRow base 5 1 v n xs) (h : AppPost base v r w e w') : OutPost base r w e w' := by
  obtain ⟨A, c, h1, h2, h3, _, h5⟩ := h
  exact ⟨A, c, h1, h2, h3, h5.more (fun x hx => ownBlock_ge hv hx)⟩

set_option maxRecDepth 100000 in
theorem wString_any (A : Option Addr) (c base : Nat) (l s : List UInt8) (w : World) (hb : base ≤ w.heap.size) (hw : w.ownsRow base 5 1 (.slice A l.length c) l.length (bcells l)) (hl : l.length ≤ 1099511627776) (hs : s.length ≤ 1099511627776) :
    Calls Try.prog 32 #[.slice A l.length c, sval s] w (OutPost base (l ++ encS s) w) := by
  obtain ⟨i0, hi0, hz0, hz1, hz2⟩ := info_parts byte_info
  have hi : Calls Try.prog 21 #[.slice A l.length c, .int .i64 s.length] w (OutPost base (l ++ encI s.length) w) := (int_any A c base l s.length w hb hw hl (by omega)).mono fun _ _ h => h.out hw
  have hel := encI_len (s.length : Int) (zig_lt (by omega))
  obtain ⟨r, hr⟩ : ∃ r, r = l ++ encI s.length := ⟨_, rfl⟩
  rw [← hr] at hi
  have hrl : r.length ≤ 1099511627786 := by rw [hr, List.length_append]; omega
  have hrs : l ++ encS s = r ++ s := by rw [hr, encS, List.append_assoc]
  rw [hrs]
  have HI := Lib.hid hi
  have HRL := Lib.hid hrl
  have HB := Lib.hid hb
  have HS := Lib.hid hs
  have HZ : Hid (ByteArray.size ⟨s.toArray⟩ = s.length) := Lib.hid rfl
  obtain ⟨N, hN⟩ : ∃ N, l.length = N := ⟨_, rfl⟩
  obtain ⟨S, hS⟩ : ∃ S, s.length = S := ⟨_, rfl⟩
  rw [hN] at HI ⊢
  rw [hS] at HI HS HZ
  have HSL := Lib.hid hS
  have hlen : (⟨s.toArray⟩ : ByteArray).size = S := HZ.out
  unfold sval
  clear hi hel hr hrl hrs hb hs hw hl hN hS
  go_enter Try.func32, Try.ntmps32
  go_wp2_with fail
  with_reducible refine HI.out.mono ?_
  rintro e w1 ⟨A1, c1, rfl, hc1, hown, hO⟩
  have HOW := Lib.hid hown
  have HO := Lib.hid hO
  clear hown hO hc1
  go_wp2_with (at_builtin; go_must (refine Lib.wpList_append_own_string _ rfl (.tmp 8) (.tmp 9) _ _ rfl base 5 i0 Try.underlying22 Try.underlying9 hi0 hz0 hz1 hz2 (.slice A1 r.length c1) r.length (bcells r) rfl ?qown ⟨s.toArray⟩ rfl ?q63 ?qby ?qbase ?_))
  case qown => exact HOW.out
  case q63 => rw [HZ.out]; have := HRL.out; have := HS.out; unfold maxLen; omega
  case qby => rw [HZ.out]; have := HRL.out; have := HS.out; omega
  case qbase => exact Nat.le_trans HB.out HO.out.size
  intro v4 w4 hown4 hgr4 hat4
  obtain ⟨A4, c4, rfl, hc4⟩ := own_form hown4
  have hO4 : Only (fun z => base ≤ z) w w4 := HO.out.then_ ((Only.of_grown hgr4).more (fun x hx => ownBlock_ge HOW.out hx))
  rw [strCells_eq, ← bcells_append] at hown4
  try rw [HZ.out] at hown4
  try rw [HZ.out] at hc4
  have hl2 : (r ++ s).length = r.length + S := by rw [List.length_append, HSL.out]
  have HF : Hid (OutPost base (r ++ s) w (.returned (.slice A4 (r.length + S) c4)) w4) := Lib.hid ⟨A4, c4, by rw [hl2], by rw [hl2]; exact hc4, by rw [hl2]; exact hown4, hO4⟩
  try rw [HZ.out]
  clear hO4 hown4 hgr4 hat4 hc4 hl2
  go_wp2_with fail
  go_ret
  exact HF.out

end Go.Proofs.Ytbhgaaendekghaa
