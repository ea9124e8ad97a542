/-
  A region that draws its order, with operations that have a guard: as wpAny_inv2, the operations' goals wrapped (else the elaborator reckons each goal out to its guard, which takes minutes).
  No conditions: general laws.
-/
import Derived.Test.YtbhgaaendekghaaInv
namespace Go.Proofs.Ytbhgaaendekghaa
open Go Go.RowKit

/-- One operation's goal, wrapped. -/
structure WOp (P : Program) (ops : Array Oper) (Q : Exit → Act → World → Prop) (i : Nat) (K : Act → World → Prop) (a : Act) (w : World) : Prop where
  out : wpOp P ops Q i K a w

section
variable {P : Program} {ops : Array Oper} {Q : Exit → Act → World → Prop}

theorem wpAny_inv3 {l : List Oper} {a0 : Act} {w : World} {listed : Array Bool} {fuel : Nat} (X : List Ent) (n g m : Nat) (l0 : List Bool) (T : Nat → Prop) (Ps : List VPred) (I : (Nat → Bool) → (Nat → Value) → World → Prop)
    (hl : listed = l0.toArray) (hf : fuel = n + g) (hX : okD X = true) (hc : chk .any l.toArray X (List.replicate m true ++ List.replicate g false) n [l0] = true)
    (hq : Region.seqB .any l.toArray g m (List.replicate m true ++ List.replicate g false).toArray = true) (hn : m + g = l.length)
    (h0 : ∀ j, l0.getD j false = true → ∀ v u, At Ps j v u)
    (hst : ∀ p ∈ Ps, Stays T p) (hI : ∀ vs, I (fun j => l0.getD j false) vs w)
    (hstep : ∀ x ∈ X, ∀ (L : Nat → Bool) (vs : Nat → Value) (w : World), I L vs w → (∀ j, L j = true → At Ps j (vs j) w) → L x.1 = false → (∀ j ∈ x.2.2, L j = true) →
      WOp P l.toArray Q x.1 (fun a' w' => ∃ v, a' = (putAll a0 X vs).put x.2.1 v ∧ Only T w w' ∧ I (upd L x.1 true) (upd vs x.1 v) w' ∧ At Ps x.1 v w') (putAll a0 X vs) w)
    (hfin : ∀ (L : Nat → Bool) vs w, I L vs w → (∀ j, j < m → L j = true) → (∀ j, j < m → At Ps j (vs j) w) → wpList P l.toArray Q (l.drop m) (putAll a0 X vs) w) : wpAny P .any l.toArray Q fuel listed a0 w :=
  wpAny_inv2 X n g m l0 T Ps I hl hf hX hc hq hn h0 hst hI (fun x hx L vs u h1 h2 h3 h4 => (hstep x hx L vs u h1 h2 h3 h4).out) hfin

/-- One operation, whenever it comes up. -/
theorem inv_step3 {i : Nat} {a : Act} {w : World} {d : Option Tmp} {J : Value → World → Prop} (o : Oper) (ho : ops[i]? = some o) (hd : o.dst = d)
    (h : ∀ K : Act → World → Prop, (∀ v w', J v w' → K (a.put d v) w') → if Region.wanted o (yielded ops a.tmps) = true then Oper.wp P o a w K Q else K (a.put o.dst undef) w) :
    WOp P ops Q i (fun a' w' => ∃ v, a' = a.put d v ∧ J v w') a w := ⟨inv_step o ho hd h⟩
end

end Go.Proofs.Ytbhgaaendekghaa
