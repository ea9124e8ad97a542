/-
  Layer 43, plain: ends of streams and packets as values; what the functions compute.
  No conditions: definitions and plain lemmas.
-/
import Derived.Test.YtfichoekjjcjiaaByt
namespace Go.Proofs.Ytfichoekjjcjiaa
open Go.RowKit

structure E where
  out : List UInt8
  base : Int
  closed : Bool
  done : Bool
  inn : List UInt8
  next : Int
  ended : Bool
  due : Bool
def zE : E := ⟨[], 0, false, false, [], 0, false, false⟩
/-- Where the two slices of an end lie. -/
structure Loc where
  Ao : Option Addr
  co : Nat
  Ai : Option Addr
  ci : Nat
def ecells (l : Loc) (e : E) : List Value :=
  [.slice l.Ao e.out.length l.co, .int .i64 e.base, .bool e.closed, .bool e.done, .slice l.Ai e.inn.length l.ci, .int .i64 e.next, .bool e.ended, .bool e.due]
theorem ecells_length (l : Loc) (e : E) : (ecells l e).length = 8 := rfl
def nowhere : Loc := ⟨none, 0, none, 0⟩
/-- The slices of an end can be read; all lies below B. -/
structure EB (w : World) (B : Nat) (l : Loc) (e : E) : Prop where
  out : Bs w B l.Ao e.out
  inn : Bs w B l.Ai e.inn
  co : e.out.length ≤ l.co
  ci : e.inn.length ≤ l.ci
theorem EB.onlyNil {w w' : World} {B : Nat} {l : Loc} {e : E} (h : EB w B l e) (hO : Only Nil w w') (hB : B ≤ w.heap.size) : EB w' B l e :=
  ⟨h.out.onlyNil hO hB, h.inn.onlyNil hO hB, h.co, h.ci⟩
theorem EB.up {w : World} {B B' : Nat} {l : Loc} {e : E} (h : EB w B l e) (hB : B ≤ B') : EB w B' l e := ⟨h.out.up hB, h.inn.up hB, h.co, h.ci⟩
theorem EB.next {w w' : World} {l : Loc} {e : E} (h : EB w w.heap.size l e) (hO : Only Nil w w') : EB w' w'.heap.size l e := (h.onlyNil hO (Nat.le_refl _)).up hO.size
theorem EB.zero (w : World) (B : Nat) : EB w B nowhere zE := ⟨Bs.nil _ _ _, Bs.nil _ _ _, Nat.le_refl _, Nat.le_refl _⟩

/-- maxPlace -/
def MP : Int := 1099511626776
/-- The end is valid. -/
def VE (e : E) : Prop := e.out.length ≤ 128 ∧ e.inn.length ≤ 128 ∧ (0 ≤ e.base ∧ e.base ≤ 1099511626776) ∧ (0 ≤ e.next ∧ e.next ≤ 1099511626776) ∧ (e.done = true → e.closed = true ∧ e.out.length = 0) ∧ (e.closed = true → e.inn.length = 0)
instance (e : E) : Decidable (VE e) := by unfold VE; infer_instance
def pend (e : E) : Bool := decide (0 < e.out.length) || (e.closed && !e.done)
def quiet (e : E) : Bool := e.closed && e.done && e.ended && !e.due

structure Pk where
  pair : Int
  side : Int
  seq : Int
  ack : Int
  fin : Bool
  data : List UInt8
def zP : Pk := ⟨0, 0, 0, 0, false, []⟩
def pcells (A : Option Addr) (c : Nat) (p : Pk) : List Value :=
  [.int .i64 p.pair, .int .i64 p.side, .int .i64 p.seq, .int .i64 p.ack, .bool p.fin, .slice A p.data.length c]
structure PB (w : World) (B : Nat) (A : Option Addr) (c : Nat) (p : Pk) : Prop where
  data : Bs w B A p.data
  c : p.data.length ≤ c
theorem PB.onlyNil {w w' : World} {B c : Nat} {A : Option Addr} {p : Pk} (h : PB w B A c p) (hO : Only Nil w w') (hB : B ≤ w.heap.size) : PB w' B A c p := ⟨h.data.onlyNil hO hB, h.c⟩
theorem PB.next {w w' : World} {c : Nat} {A : Option Addr} {p : Pk} (h : PB w w.heap.size A c p) (hO : Only Nil w w') : PB w' w'.heap.size A c p := ⟨(h.data.onlyNil hO (Nat.le_refl _)).up hO.size, h.c⟩
def VP (p : Pk) : Prop := (1 ≤ p.pair ∧ p.pair ≤ 1099511627776) ∧ (p.side = 0 ∨ p.side = 1) ∧ (0 ≤ p.seq ∧ p.seq ≤ 1099511627776) ∧ (0 ≤ p.ack ∧ p.ack ≤ 1099511627776) ∧ p.data.length ≤ 64
instance (p : Pk) : Decidable (VP p) := by unfold VP; infer_instance

end Go.Proofs.Ytfichoekjjcjiaa
