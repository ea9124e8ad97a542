/-
  What WireInverse writes and reads again. No program here.
-/
import Derived.Test.YtbhgaaendekghaaEfV
namespace Go.Proofs.Ytbhgaaendekghaa

/-- Each integer and whether it is negative. -/
def encP (zs : List Int) : List UInt8 := zs.flatMap fun z => encI z ++ encBo (decide (z < 0))
/-- Each string twice. -/
def encQ (ss : List (List UInt8)) : List UInt8 := ss.flatMap fun s => encS s ++ encS s
theorem encP_snoc (zs : List Int) (z : Int) : encP (zs ++ [z]) = encP zs ++ encI z ++ encBo (decide (z < 0)) := by unfold encP; simp
theorem encQ_snoc (ss : List (List UInt8)) (s : List UInt8) : encQ (ss ++ [s]) = encQ ss ++ encS s ++ encS s := by unfold encQ; simp
theorem encP_split {zs : List Int} {k : Nat} {z : Int} (h : zs[k]? = some z) : encP zs = encP (zs.take k) ++ (encI z ++ (encBo (decide (z < 0)) ++ encP (zs.drop (k + 1)))) := by
  obtain ⟨h1, h2⟩ := List.getElem?_eq_some_iff.1 h
  have e : zs = zs.take k ++ z :: zs.drop (k + 1) := by rw [← h2, ← List.drop_eq_getElem_cons h1, List.take_append_drop]
  rw [show encP zs = encP (zs.take k ++ z :: zs.drop (k + 1)) from congrArg encP e]
  unfold encP
  simp
theorem encQ_split {ss : List (List UInt8)} {k : Nat} {s : List UInt8} (h : ss[k]? = some s) : encQ ss = encQ (ss.take k) ++ (encS s ++ (encS s ++ encQ (ss.drop (k + 1)))) := by
  obtain ⟨h1, h2⟩ := List.getElem?_eq_some_iff.1 h
  have e : ss = ss.take k ++ s :: ss.drop (k + 1) := by rw [← h2, ← List.drop_eq_getElem_cons h1, List.take_append_drop]
  rw [show encQ ss = encQ (ss.take k ++ s :: ss.drop (k + 1)) from congrArg encQ e]
  unfold encQ
  simp
theorem take_next {α : Type} {l : List α} {k : Nat} {x : α} (h : l[k]? = some x) : l.take (k + 1) = l.take k ++ [x] := by
  obtain ⟨h1, h2⟩ := List.getElem?_eq_some_iff.1 h
  rw [List.take_succ_eq_append_getElem h1, h2]
theorem rBnd_at {T pre suf : List UInt8} {z : Int} (hT : T = pre ++ (encI z ++ suf)) (hz : J64 z) : rBnd z z T pre.length false = (z, pre.length + (encI z).length, false) := by
  unfold rBnd
  rw [if_neg (by simp), hT, List.drop_left, dec_enc z suf hz]
  dsimp only
  rw [if_pos ⟨Int.le_refl _, Int.le_refl _⟩]
theorem rByt_at {T pre suf s : List UInt8} (hT : T = pre ++ (encS s ++ suf)) (hs : s.length ≤ 1099511627776) : rByt s.length T pre.length false = (s, pre.length + (encS s).length, false) := by
  unfold rByt
  rw [if_neg (by simp), hT, List.drop_left, encS, List.append_assoc, decB_enc (s.length : Int) s suf (Int.le_refl _) hs]
theorem bool_at {T pre suf : List UInt8} {v : Bool} (hT : T = pre ++ (encBo v ++ suf)) : T[pre.length]? = some (if v then 1 else 0) := by
  rw [hT, List.getElem?_append_right (Nat.le_refl _), Nat.sub_self]
  rfl
theorem encI_len_pos (z : Int) : 1 ≤ (encI z).length := by
  unfold encI
  rw [encU]
  split <;> simp
theorem encL_ge : ∀ zs : List Int, zs.length ≤ (encL zs).length
  | [] => by simp
  | z :: zs => by
    have h1 := encL_ge zs
    have h2 := encI_len_pos z
    have e : encL (z :: zs) = encI z ++ encL zs := by unfold encL; rw [List.flatMap_cons]
    rw [e, List.length_append, List.length_cons]
    omega
theorem encSn_ge : ∀ ss : List (List UInt8), ss.length ≤ (encSn ss).length
  | [] => by simp
  | s :: ss => by
    have h1 := encSn_ge ss
    have h2 := encI_len_pos (s.length : Int)
    rw [encSn_cons, encS, List.length_append, List.length_append, List.length_cons]
    omega
theorem decSn_enc {L : Int} : ∀ (ss : List (List UInt8)) (rest : List UInt8), (∀ s ∈ ss, (s.length : Int) ≤ L ∧ s.length ≤ 1099511627776) → decSn L ss.length (encSn ss ++ rest) = some (ss, (encSn ss).length) := by
  intro ss
  induction ss with
  | nil => intro rest _; rfl
  | cons s ss ih =>
    intro rest h
    have hs := h s (by simp)
    rw [encSn_cons, encS, List.append_assoc, List.append_assoc, List.length_cons, decSn, decB_enc L s _ hs.1 hs.2]
    dsimp only
    rw [← List.append_assoc, List.drop_left, ih rest (fun y hy => h y (List.mem_cons_of_mem _ hy))]
    simp [Nat.add_assoc]
theorem rStrs_at {T pre suf : List UInt8} {ss : List (List UInt8)} (hT : T = pre ++ (encSs ss ++ suf)) (hn : ss.length ≤ 1099511627776) (hs : ∀ s ∈ ss, s.length ≤ T.length ∧ s.length ≤ 1099511627776) : rStrs ss.length T pre.length false = (ss, pre.length + (encSs ss).length, false) := by
  unfold rStrs
  rw [if_neg (by simp)]
  have e : T.drop pre.length = encI ss.length ++ (encSn ss ++ suf) := by rw [hT, List.drop_left, encSs, List.append_assoc]
  have hd : decSs ss.length T.length (T.drop pre.length) = some (ss, (encSs ss).length) := by
    unfold decSs
    rw [e, dec_enc _ _ (by omega)]
    dsimp only
    have hge := encSn_ge ss
    rw [if_pos ⟨by omega, Int.le_refl _, by rw [List.drop_left, List.length_append]; omega⟩, List.drop_left, Int.toNat_natCast, decSn_enc ss suf (fun s h => ⟨by have := (hs s h).1; omega, (hs s h).2⟩)]
    unfold encSs
    simp
  rw [hd]
theorem encP_len {zs : List Int} (h : ∀ z ∈ zs, J64 z) : (encP zs).length ≤ 11 * zs.length := by
  induction zs with
  | nil => simp [encP]
  | cons z zs ih =>
    have h1 := ih (fun y hy => h y (List.mem_cons_of_mem _ hy))
    have h2 := encI_len z (zig_lt (h z (by simp)))
    have e : encP (z :: zs) = encI z ++ encBo (decide (z < 0)) ++ encP zs := by unfold encP; rw [List.flatMap_cons]
    rw [e, List.length_append, List.length_append, List.length_cons]
    unfold encBo
    simp only [List.length_cons, List.length_nil]
    omega
theorem encS_len {s : List UInt8} (h : s.length ≤ 200) : (encS s).length ≤ 210 := by
  unfold encS
  have := encI_len (s.length : Int) (zig_lt (by omega))
  rw [List.length_append]
  omega
theorem encQ_len {ss : List (List UInt8)} (h : ∀ s ∈ ss, s.length ≤ 200) : (encQ ss).length ≤ 420 * ss.length := by
  induction ss with
  | nil => simp [encQ]
  | cons s ss ih =>
    have h1 := ih (fun y hy => h y (List.mem_cons_of_mem _ hy))
    have h2 := encS_len (h s (by simp))
    have e : encQ (s :: ss) = encS s ++ encS s ++ encQ ss := by unfold encQ; rw [List.flatMap_cons]
    rw [e, List.length_append, List.length_append, List.length_cons]
    omega
theorem encSn_len {ss : List (List UInt8)} (h : ∀ s ∈ ss, s.length ≤ 200) : (encSn ss).length ≤ 210 * ss.length := by
  induction ss with
  | nil => simp [encSn]
  | cons s ss ih =>
    have h1 := ih (fun y hy => h y (List.mem_cons_of_mem _ hy))
    have h2 := encS_len (h s (by simp))
    rw [encSn_cons, List.length_append, List.length_cons]
    omega

end Go.Proofs.Ytbhgaaendekghaa
