/-
  No cell of these rows narrows 'for every input' (looked for: loops, veiled, ifaces, maps, wideKeys, modest, calm, conditions, laid).
  DERIVED. THE GIVEN ROWS OF THIS SEAT. 6 by the template 'for every input the law returns true; each argument reads behind the call as it read before'; 0 by the template 'total and deterministic' (their statements: YtbhgaaendekghaaTotals.lean).
  GIVEN WITH THE SEED: the statements are not yours to turn. If you find one false, say at which input.
  Laid BY PROGRAM, IN A SANDBOX (cutbox-rows.mjs): the forced cells as the released guide's own fill.sh prints them over the translation ce58e4b86dc658f7… (all of the seat's roots in one cut). By AI agents, Wed Nov 11 2026. No macro, syntax, notation, axiom, sorry.
-/
import Derived.Test.YtbhgaaendekghaaChecked
import GoSem.Claim
import GoSem.ClaimJoined
import GoSem.ClaimMapViews
import Derived.JoinedTies
import Derived.KernelRfl
namespace Go.Proofs.Ytbhgaaendekghaa
/- THE CELL 'sum', in the pinned program and in every row, IS THE sha256 OF THE DUMP (.gsa) THAT YtbhgaaendekghaaProg.lean LOADS. Nothing in Lean hashes anything: it is a label: what it is worth is what the hold of that sum in a sandbox is worth. -/
noncomputable def Try.pinned : Pinned := { name := "ytbhgaaendekghaa", sum := "ce58e4b86dc658f7c6858186047ab30c5ac42bf1b3a34fdd4b3a9ede1d4d24b6", checked := Try.checked }
namespace Rows
def none {H : Type} : Left H := { results := [], args := [] }

/-- 'ratoonlaw01.WireDecodes': WHATEVER THE INPUT: true; the input reads as it did. -/
def wireDecodesSpec : ChangeSpec := { name := "wireDecodes", fn := fun _ => fun
  | [d] => { results := [.lit (.bool true)], args := [d] }
  | _ => none }
def wireDecodesRow : OpenClaim := { program := "ytbhgaaendekghaa", sum := "ce58e4b86dc658f7c6858186047ab30c5ac42bf1b3a34fdd4b3a9ede1d4d24b6", func := "ratoon/ratoonlaw01.WireDecodes", spec := "wireDecodes", unfollowed := true, recurses := true, apart := false }
def WireDecodesSaid : Prop := wireDecodesRow.holds Try.pinned (OpenSpec.ofChange wireDecodesSpec)

/-- ITS FALSE NEIGHBOUR: 'it returns false'. Refute it at one input. -/
def wireDecodesWrong : ChangeSpec := { name := "wireDecodes", fn := fun _ => fun
  | [d] => { results := [.lit (.bool false)], args := [d] }
  | _ => none }
def WireDecodesWrongFalsely : Prop := wireDecodesRow.holds Try.pinned (OpenSpec.ofChange wireDecodesWrong)

/-- 'ratoonlaw01.WirePrefix': WHATEVER THE INPUT: true; the input reads as it did. -/
def wirePrefixSpec : ChangeSpec := { name := "wirePrefix", fn := fun _ => fun
  | [d1, d2, d3] => { results := [.lit (.bool true)], args := [d1, d2, d3] }
  | _ => none }
def wirePrefixRow : OpenClaim := { program := "ytbhgaaendekghaa", sum := "ce58e4b86dc658f7c6858186047ab30c5ac42bf1b3a34fdd4b3a9ede1d4d24b6", func := "ratoon/ratoonlaw01.WirePrefix", spec := "wirePrefix", unfollowed := true, recurses := true, apart := false }
def WirePrefixSaid : Prop := wirePrefixRow.holds Try.pinned (OpenSpec.ofChange wirePrefixSpec)

/-- ITS FALSE NEIGHBOUR: 'it returns false'. Refute it at one input. -/
def wirePrefixWrong : ChangeSpec := { name := "wirePrefix", fn := fun _ => fun
  | [d1, d2, d3] => { results := [.lit (.bool false)], args := [d1, d2, d3] }
  | _ => none }
def WirePrefixWrongFalsely : Prop := wirePrefixRow.holds Try.pinned (OpenSpec.ofChange wirePrefixWrong)

/-- 'ratoonlaw01.WireInverse': WHATEVER THE INPUT: true; the input reads as it did. -/
def wireInverseSpec : ChangeSpec := { name := "wireInverse", fn := fun _ => fun
  | [d1, d2, d3] => { results := [.lit (.bool true)], args := [d1, d2, d3] }
  | _ => none }
def wireInverseRow : OpenClaim := { program := "ytbhgaaendekghaa", sum := "ce58e4b86dc658f7c6858186047ab30c5ac42bf1b3a34fdd4b3a9ede1d4d24b6", func := "ratoon/ratoonlaw01.WireInverse", spec := "wireInverse", unfollowed := true, recurses := true, apart := false }
def WireInverseSaid : Prop := wireInverseRow.holds Try.pinned (OpenSpec.ofChange wireInverseSpec)

/-- ITS FALSE NEIGHBOUR: 'it returns false'. Refute it at one input. -/
def wireInverseWrong : ChangeSpec := { name := "wireInverse", fn := fun _ => fun
  | [d1, d2, d3] => { results := [.lit (.bool false)], args := [d1, d2, d3] }
  | _ => none }
def WireInverseWrongFalsely : Prop := wireInverseRow.holds Try.pinned (OpenSpec.ofChange wireInverseWrong)

/-- 'ratoonlaw01.WireMessages': WHATEVER THE INPUT: true; the input reads as it did. -/
def wireMessagesSpec : ChangeSpec := { name := "wireMessages", fn := fun _ => fun
  | [d1, d2, d3] => { results := [.lit (.bool true)], args := [d1, d2, d3] }
  | _ => none }
def wireMessagesRow : OpenClaim := { program := "ytbhgaaendekghaa", sum := "ce58e4b86dc658f7c6858186047ab30c5ac42bf1b3a34fdd4b3a9ede1d4d24b6", func := "ratoon/ratoonlaw01.WireMessages", spec := "wireMessages", unfollowed := true, recurses := true, apart := false }
def WireMessagesSaid : Prop := wireMessagesRow.holds Try.pinned (OpenSpec.ofChange wireMessagesSpec)

/-- ITS FALSE NEIGHBOUR: 'it returns false'. Refute it at one input. -/
def wireMessagesWrong : ChangeSpec := { name := "wireMessages", fn := fun _ => fun
  | [d1, d2, d3] => { results := [.lit (.bool false)], args := [d1, d2, d3] }
  | _ => none }
def WireMessagesWrongFalsely : Prop := wireMessagesRow.holds Try.pinned (OpenSpec.ofChange wireMessagesWrong)

/-- 'ratoonlaw01.WireCanonical': WHATEVER THE INPUT: true; the input reads as it did. -/
def wireCanonicalSpec : ChangeSpec := { name := "wireCanonical", fn := fun _ => fun
  | [d] => { results := [.lit (.bool true)], args := [d] }
  | _ => none }
def wireCanonicalRow : OpenClaim := { program := "ytbhgaaendekghaa", sum := "ce58e4b86dc658f7c6858186047ab30c5ac42bf1b3a34fdd4b3a9ede1d4d24b6", func := "ratoon/ratoonlaw01.WireCanonical", spec := "wireCanonical", unfollowed := true, recurses := true, apart := false }
def WireCanonicalSaid : Prop := wireCanonicalRow.holds Try.pinned (OpenSpec.ofChange wireCanonicalSpec)

/-- ITS FALSE NEIGHBOUR: 'it returns false'. Refute it at one input. -/
def wireCanonicalWrong : ChangeSpec := { name := "wireCanonical", fn := fun _ => fun
  | [d] => { results := [.lit (.bool false)], args := [d] }
  | _ => none }
def WireCanonicalWrongFalsely : Prop := wireCanonicalRow.holds Try.pinned (OpenSpec.ofChange wireCanonicalWrong)

/-- 'ratoonlaw01.WireNil': WHATEVER THE INPUT: true; the input reads as it did. -/
def wireNilSpec : ChangeSpec := { name := "wireNil", fn := fun _ => fun
  | [d] => { results := [.lit (.bool true)], args := [d] }
  | _ => none }
def wireNilRow : OpenClaim := { program := "ytbhgaaendekghaa", sum := "ce58e4b86dc658f7c6858186047ab30c5ac42bf1b3a34fdd4b3a9ede1d4d24b6", func := "ratoon/ratoonlaw01.WireNil", spec := "wireNil", unfollowed := true, recurses := true, apart := false }
def WireNilSaid : Prop := wireNilRow.holds Try.pinned (OpenSpec.ofChange wireNilSpec)

/-- ITS FALSE NEIGHBOUR: 'it returns false'. Refute it at one input. -/
def wireNilWrong : ChangeSpec := { name := "wireNil", fn := fun _ => fun
  | [d] => { results := [.lit (.bool false)], args := [d] }
  | _ => none }
def WireNilWrongFalsely : Prop := wireNilRow.holds Try.pinned (OpenSpec.ofChange wireNilWrong)

/- THE SECOND FORM. 'bulk': how many values and letters a reading holds, each counted each time it is reached (what is shared counts as often as it is met; a slice's spare places count too). A statement '..UptoSaid' is the law's where the arguments, and the package variables that the reading takes, are together of bulk at most 1048576: NARROWER than '..Said'. Prove '..Said' where nothing that the law and all that it calls make is longer than what came in: it says more and counts as full. Else prove '..UptoSaid'. A law counts once. -/
mutual
def uptoBulk {H : Type} : DataW H → Nat
  | .lit (.string bytes) => bytes.length + 1
  | .lit _ => 1
  | .nil => 1
  | .ptr d => uptoBulk d + 1
  | .slice elems spare => uptoBulkAll elems + uptoBulkAll spare + 1
  | .agg parts => uptoBulkAll parts + 1
  | .iface _ d => uptoBulk d + 1
  | .map entries => uptoBulkEntries entries + 1
  | .held _ => 1
def uptoBulkAll {H : Type} : List (DataW H) → Nat
  | [] => 0
  | d :: r => uptoBulk d + uptoBulkAll r
def uptoBulkEntries {H : Type} : List (Lit × DataW H) → Nat
  | [] => 0
  | x :: r => uptoBulkEntry x + uptoBulkEntries r
def uptoBulkEntry {H : Type} : Lit × DataW H → Nat
  | (.string bytes, d) => bytes.length + uptoBulk d + 1
  | (_, d) => uptoBulk d + 1
 end
def uptoSmall : (H : Type) → List (DataW H) → Bool := fun _ ds => decide (uptoBulkAll ds ≤ 1048576)
def OpenSpec.upto (s : _root_.Go.ChangeSpec) : _root_.Go.OpenSpec := { _root_.Go.OpenSpec.ofChange s with cond := some uptoSmall }

/-- 'ratoonlaw01.WireDecodes', WHERE WHAT IT READS IS OF BULK AT MOST 1048576: true; the input reads as it did. -/
def wireDecodesUptoRow : OpenClaim := { program := "ytbhgaaendekghaa", sum := "ce58e4b86dc658f7c6858186047ab30c5ac42bf1b3a34fdd4b3a9ede1d4d24b6", func := "ratoon/ratoonlaw01.WireDecodes", spec := "wireDecodes", unfollowed := true, recurses := true, apart := false, narrowed := true }
def WireDecodesUptoSaid : Prop := wireDecodesUptoRow.holds Try.pinned (OpenSpec.upto wireDecodesSpec)

/-- 'ratoonlaw01.WirePrefix', WHERE WHAT IT READS IS OF BULK AT MOST 1048576: true; the input reads as it did. -/
def wirePrefixUptoRow : OpenClaim := { program := "ytbhgaaendekghaa", sum := "ce58e4b86dc658f7c6858186047ab30c5ac42bf1b3a34fdd4b3a9ede1d4d24b6", func := "ratoon/ratoonlaw01.WirePrefix", spec := "wirePrefix", unfollowed := true, recurses := true, apart := false, narrowed := true }
def WirePrefixUptoSaid : Prop := wirePrefixUptoRow.holds Try.pinned (OpenSpec.upto wirePrefixSpec)

/-- 'ratoonlaw01.WireInverse', WHERE WHAT IT READS IS OF BULK AT MOST 1048576: true; the input reads as it did. -/
def wireInverseUptoRow : OpenClaim := { program := "ytbhgaaendekghaa", sum := "ce58e4b86dc658f7c6858186047ab30c5ac42bf1b3a34fdd4b3a9ede1d4d24b6", func := "ratoon/ratoonlaw01.WireInverse", spec := "wireInverse", unfollowed := true, recurses := true, apart := false, narrowed := true }
def WireInverseUptoSaid : Prop := wireInverseUptoRow.holds Try.pinned (OpenSpec.upto wireInverseSpec)

/-- 'ratoonlaw01.WireMessages', WHERE WHAT IT READS IS OF BULK AT MOST 1048576: true; the input reads as it did. -/
def wireMessagesUptoRow : OpenClaim := { program := "ytbhgaaendekghaa", sum := "ce58e4b86dc658f7c6858186047ab30c5ac42bf1b3a34fdd4b3a9ede1d4d24b6", func := "ratoon/ratoonlaw01.WireMessages", spec := "wireMessages", unfollowed := true, recurses := true, apart := false, narrowed := true }
def WireMessagesUptoSaid : Prop := wireMessagesUptoRow.holds Try.pinned (OpenSpec.upto wireMessagesSpec)

/-- 'ratoonlaw01.WireCanonical', WHERE WHAT IT READS IS OF BULK AT MOST 1048576: true; the input reads as it did. -/
def wireCanonicalUptoRow : OpenClaim := { program := "ytbhgaaendekghaa", sum := "ce58e4b86dc658f7c6858186047ab30c5ac42bf1b3a34fdd4b3a9ede1d4d24b6", func := "ratoon/ratoonlaw01.WireCanonical", spec := "wireCanonical", unfollowed := true, recurses := true, apart := false, narrowed := true }
def WireCanonicalUptoSaid : Prop := wireCanonicalUptoRow.holds Try.pinned (OpenSpec.upto wireCanonicalSpec)

/-- 'ratoonlaw01.WireNil', WHERE WHAT IT READS IS OF BULK AT MOST 1048576: true; the input reads as it did. -/
def wireNilUptoRow : OpenClaim := { program := "ytbhgaaendekghaa", sum := "ce58e4b86dc658f7c6858186047ab30c5ac42bf1b3a34fdd4b3a9ede1d4d24b6", func := "ratoon/ratoonlaw01.WireNil", spec := "wireNil", unfollowed := true, recurses := true, apart := false, narrowed := true }
def WireNilUptoSaid : Prop := wireNilUptoRow.holds Try.pinned (OpenSpec.upto wireNilSpec)

end Rows
end Go.Proofs.Ytbhgaaendekghaa
