/-
  Messages (api.Msg) as values: nine cells, the last a slice of bytes.
  No conditions: definitions and plain lemmas.
-/
import Derived.Test.YtbhgaaendekghaaByt
namespace Go.Proofs.Ytbhgaaendekghaa
open Go.RowKit

structure M where
  src : Int
  dst : Int
  kind : Int
  seq : Int
  a0 : Int
  a1 : Int
  a2 : Int
  a3 : Int
  data : List UInt8

def zM : M := ⟨0, 0, 0, 0, 0, 0, 0, 0, []⟩
/-- The cells of a message whose Data lies at A. -/
def mcells (A : Option Addr) (c : Nat) (m : M) : List Value :=
  [.int .i64 m.src, .int .i64 m.dst, .int .i64 m.kind, .int .i64 m.seq, .int .i64 m.a0, .int .i64 m.a1, .int .i64 m.a2, .int .i64 m.a3, .slice A m.data.length c]
theorem mcells_length (A : Option Addr) (c : Nat) (m : M) : (mcells A c m).length = 9 := rfl
theorem mcells_one (A : Option Addr) (c : Nat) (m : M) : ∀ u ∈ mcells A c m, u.oneCell' = true := by
  intro u hu
  simp only [mcells, List.mem_cons, List.not_mem_nil, or_false] at hu
  rcases hu with rfl | rfl | rfl | rfl | rfl | rfl | rfl | rfl | rfl <;> rfl

end Go.Proofs.Ytbhgaaendekghaa
