/-
  What a function answers that returns bytes of its own.
  No conditions: definitions.
-/
import Derived.Test.YtbhgaaendekghaaRows
import Derived.Test.YtbhgaaendekghaaByt
import Derived.Lib.Hide
import Derived.Deep.DeepMust
namespace Go.Proofs.Ytbhgaaendekghaa
open Go.RowKit

theorem byte_info : (Try.prog.info? 5).map (fun i => (i.zero, i.size, i.bytes)) = some (some (.int .u8 0), 1, 1) := by kernel_rfl

/-- A slice of the call's own with the bytes l is returned; no old memory but S has turned. -/
def BytesPost (S : Nat → Prop) (l : List UInt8) (w : World) (e : Ending) (w' : World) : Prop :=
  ∃ A c, e = .returned (.slice A l.length c) ∧ l.length ≤ c ∧ w'.ownsRow w.heap.size 5 1 (.slice A l.length c) l.length (bcells l) ∧ Only S w w'

end Go.Proofs.Ytbhgaaendekghaa
