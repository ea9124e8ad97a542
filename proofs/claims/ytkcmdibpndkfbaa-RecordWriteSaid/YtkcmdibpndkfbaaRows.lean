/-
  No cell of these rows narrows 'for every input' (looked for: loops, veiled, ifaces, maps, wideKeys, modest, calm, conditions, laid).
  DERIVED. THE GIVEN ROWS OF THIS SEAT. 4 by the template 'for every input the law returns true; each argument reads behind the call as it read before'; 0 by the template 'total and deterministic' (their statements: YtkcmdibpndkfbaaTotals.lean).
  GIVEN WITH THE SEED: the statements are not yours to turn. If you find one false, say at which input.
  Laid BY PROGRAM, IN A SANDBOX (cutbox-rows.mjs): the forced cells as the released guide's own fill.sh prints them over the translation 7d3497fc1a4968de… (all of the seat's roots in one cut). By AI agents, Wed Nov 11 2026. No macro, syntax, notation, axiom, sorry.
-/
import Derived.Test.YtkcmdibpndkfbaaChecked
import GoSem.Claim
import GoSem.ClaimJoined
import GoSem.ClaimMapViews
import Derived.JoinedTies
import Derived.KernelRfl
namespace Go.Proofs.Ytkcmdibpndkfbaa
/- THE CELL 'sum', in the pinned program and in every row, IS THE sha256 OF THE DUMP (.gsa) THAT YtkcmdibpndkfbaaProg.lean LOADS. Nothing in Lean hashes anything: it is a label: what it is worth is what the hold of that sum in a sandbox is worth. -/
noncomputable def Try.pinned : Pinned := { name := "ytkcmdibpndkfbaa", sum := "7d3497fc1a4968de9eeca22e3787a03551548611047925049915868529e04d0c", checked := Try.checked }
namespace Rows
def none {H : Type} : Left H := { results := [], args := [] }

/-- 'ratoonlaw53.RecordBeginning': WHATEVER THE INPUT: true; the input reads as it did. -/
def recordBeginningSpec : ChangeSpec := { name := "recordBeginning", fn := fun _ => fun
  | [d1, d2] => { results := [.lit (.bool true)], args := [d1, d2] }
  | _ => none }
def recordBeginningRow : OpenClaim := { program := "ytkcmdibpndkfbaa", sum := "7d3497fc1a4968de9eeca22e3787a03551548611047925049915868529e04d0c", func := "ratoon/ratoonlaw53.RecordBeginning", spec := "recordBeginning", unfollowed := true, recurses := true, apart := false }
def RecordBeginningSaid : Prop := recordBeginningRow.holds Try.pinned (OpenSpec.ofChange recordBeginningSpec)

/-- ITS FALSE NEIGHBOUR: 'it returns false'. Refute it at one input. -/
def recordBeginningWrong : ChangeSpec := { name := "recordBeginning", fn := fun _ => fun
  | [d1, d2] => { results := [.lit (.bool false)], args := [d1, d2] }
  | _ => none }
def RecordBeginningWrongFalsely : Prop := recordBeginningRow.holds Try.pinned (OpenSpec.ofChange recordBeginningWrong)

/-- 'ratoonlaw53.RecordDamage': WHATEVER THE INPUT: true; the input reads as it did. -/
def recordDamageSpec : ChangeSpec := { name := "recordDamage", fn := fun _ => fun
  | [d1, d2, d3] => { results := [.lit (.bool true)], args := [d1, d2, d3] }
  | _ => none }
def recordDamageRow : OpenClaim := { program := "ytkcmdibpndkfbaa", sum := "7d3497fc1a4968de9eeca22e3787a03551548611047925049915868529e04d0c", func := "ratoon/ratoonlaw53.RecordDamage", spec := "recordDamage", unfollowed := true, recurses := true, apart := false }
def RecordDamageSaid : Prop := recordDamageRow.holds Try.pinned (OpenSpec.ofChange recordDamageSpec)

/-- ITS FALSE NEIGHBOUR: 'it returns false'. Refute it at one input. -/
def recordDamageWrong : ChangeSpec := { name := "recordDamage", fn := fun _ => fun
  | [d1, d2, d3] => { results := [.lit (.bool false)], args := [d1, d2, d3] }
  | _ => none }
def RecordDamageWrongFalsely : Prop := recordDamageRow.holds Try.pinned (OpenSpec.ofChange recordDamageWrong)

/-- 'ratoonlaw53.RecordWrite': WHATEVER THE INPUT: true; the input reads as it did. -/
def recordWriteSpec : ChangeSpec := { name := "recordWrite", fn := fun _ => fun
  | [d1, d2, d3] => { results := [.lit (.bool true)], args := [d1, d2, d3] }
  | _ => none }
def recordWriteRow : OpenClaim := { program := "ytkcmdibpndkfbaa", sum := "7d3497fc1a4968de9eeca22e3787a03551548611047925049915868529e04d0c", func := "ratoon/ratoonlaw53.RecordWrite", spec := "recordWrite", unfollowed := true, recurses := true, apart := false }
def RecordWriteSaid : Prop := recordWriteRow.holds Try.pinned (OpenSpec.ofChange recordWriteSpec)

/-- ITS FALSE NEIGHBOUR: 'it returns false'. Refute it at one input. -/
def recordWriteWrong : ChangeSpec := { name := "recordWrite", fn := fun _ => fun
  | [d1, d2, d3] => { results := [.lit (.bool false)], args := [d1, d2, d3] }
  | _ => none }
def RecordWriteWrongFalsely : Prop := recordWriteRow.holds Try.pinned (OpenSpec.ofChange recordWriteWrong)

/-- 'ratoonlaw53.RecordAppends': WHATEVER THE INPUT: true; the input reads as it did. -/
def recordAppendsSpec : ChangeSpec := { name := "recordAppends", fn := fun _ => fun
  | [d] => { results := [.lit (.bool true)], args := [d] }
  | _ => none }
def recordAppendsRow : OpenClaim := { program := "ytkcmdibpndkfbaa", sum := "7d3497fc1a4968de9eeca22e3787a03551548611047925049915868529e04d0c", func := "ratoon/ratoonlaw53.RecordAppends", spec := "recordAppends", unfollowed := true, recurses := true, apart := false }
def RecordAppendsSaid : Prop := recordAppendsRow.holds Try.pinned (OpenSpec.ofChange recordAppendsSpec)

/-- ITS FALSE NEIGHBOUR: 'it returns false'. Refute it at one input. -/
def recordAppendsWrong : ChangeSpec := { name := "recordAppends", fn := fun _ => fun
  | [d] => { results := [.lit (.bool false)], args := [d] }
  | _ => none }
def RecordAppendsWrongFalsely : Prop := recordAppendsRow.holds Try.pinned (OpenSpec.ofChange recordAppendsWrong)

/- THE SECOND FORM. 'bulk': how many values and letters a reading holds, each counted each time it is reached (what is shared counts as often as it is met; a slice's spare places count too). A statement '..UptoSaid' is the law's where the arguments, and the package variables that the reading takes, are together of bulk at most 1048576: NARROWER than '..Said'. Prove '..Said' where nothing that the law and all that it calls make is longer than what came in: it says more and counts as full. Else prove '..UptoSaid'. A law counts once. -/
mutual
def uptoBulk {H : Type} : DataW H → Nat
  | .lit (.string bytes) => bytes.length + 1
  | .lit _ => 1
  | .nil => 1
  | .ptr d => uptoBulk d + 1
  | .slice elems spare => uptoBulkAll elems + uptoBulkAll spare + 1
  | .agg parts => uptoBulkAll parts + 1
  | .iface _ d => uptoBulk d + 1
  | .map entries => uptoBulkEntries entries + 1
  | .held _ => 1
def uptoBulkAll {H : Type} : List (DataW H) → Nat
  | [] => 0
  | d :: r => uptoBulk d + uptoBulkAll r
def uptoBulkEntries {H : Type} : List (Lit × DataW H) → Nat
  | [] => 0
  | x :: r => uptoBulkEntry x + uptoBulkEntries r
def uptoBulkEntry {H : Type} : Lit × DataW H → Nat
  | (.string bytes, d) => bytes.length + uptoBulk d + 1
  | (_, d) => uptoBulk d + 1
 end
def uptoSmall : (H : Type) → List (DataW H) → Bool := fun _ ds => decide (uptoBulkAll ds ≤ 1048576)
def OpenSpec.upto (s : _root_.Go.ChangeSpec) : _root_.Go.OpenSpec := { _root_.Go.OpenSpec.ofChange s with cond := some uptoSmall }

/-- 'ratoonlaw53.RecordBeginning', WHERE WHAT IT READS IS OF BULK AT MOST 1048576: true; the input reads as it did. -/
def recordBeginningUptoRow : OpenClaim := { program := "ytkcmdibpndkfbaa", sum := "7d3497fc1a4968de9eeca22e3787a03551548611047925049915868529e04d0c", func := "ratoon/ratoonlaw53.RecordBeginning", spec := "recordBeginning", unfollowed := true, recurses := true, apart := false, narrowed := true }
def RecordBeginningUptoSaid : Prop := recordBeginningUptoRow.holds Try.pinned (OpenSpec.upto recordBeginningSpec)

/-- 'ratoonlaw53.RecordDamage', WHERE WHAT IT READS IS OF BULK AT MOST 1048576: true; the input reads as it did. -/
def recordDamageUptoRow : OpenClaim := { program := "ytkcmdibpndkfbaa", sum := "7d3497fc1a4968de9eeca22e3787a03551548611047925049915868529e04d0c", func := "ratoon/ratoonlaw53.RecordDamage", spec := "recordDamage", unfollowed := true, recurses := true, apart := false, narrowed := true }
def RecordDamageUptoSaid : Prop := recordDamageUptoRow.holds Try.pinned (OpenSpec.upto recordDamageSpec)

/-- 'ratoonlaw53.RecordWrite', WHERE WHAT IT READS IS OF BULK AT MOST 1048576: true; the input reads as it did. -/
def recordWriteUptoRow : OpenClaim := { program := "ytkcmdibpndkfbaa", sum := "7d3497fc1a4968de9eeca22e3787a03551548611047925049915868529e04d0c", func := "ratoon/ratoonlaw53.RecordWrite", spec := "recordWrite", unfollowed := true, recurses := true, apart := false, narrowed := true }
def RecordWriteUptoSaid : Prop := recordWriteUptoRow.holds Try.pinned (OpenSpec.upto recordWriteSpec)

/-- 'ratoonlaw53.RecordAppends', WHERE WHAT IT READS IS OF BULK AT MOST 1048576: true; the input reads as it did. -/
def recordAppendsUptoRow : OpenClaim := { program := "ytkcmdibpndkfbaa", sum := "7d3497fc1a4968de9eeca22e3787a03551548611047925049915868529e04d0c", func := "ratoon/ratoonlaw53.RecordAppends", spec := "recordAppends", unfollowed := true, recurses := true, apart := false, narrowed := true }
def RecordAppendsUptoSaid : Prop := recordAppendsUptoRow.holds Try.pinned (OpenSpec.upto recordAppendsSpec)

end Rows
end Go.Proofs.Ytkcmdibpndkfbaa
