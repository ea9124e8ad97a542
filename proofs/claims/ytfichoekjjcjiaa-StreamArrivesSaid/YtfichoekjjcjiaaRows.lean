/-
  No cell of these rows narrows 'for every input' (looked for: loops, veiled, ifaces, maps, wideKeys, modest, calm, conditions, laid).
  DERIVED. THE GIVEN ROWS OF THIS SEAT. 7 by the template 'for every input the law returns true; each argument reads behind the call as it read before'; 0 by the template 'total and deterministic' (their statements: YtfichoekjjcjiaaTotals.lean).
  GIVEN WITH THE SEED: the statements are not yours to turn. If you find one false, say at which input.
  Laid BY PROGRAM, IN A SANDBOX (cutbox-rows.mjs): the forced cells as the released guide's own fill.sh prints them over the translation cb8eb412311b48e1… (all of the seat's roots in one cut). By AI agents, Wed Nov 11 2026. No macro, syntax, notation, axiom, sorry.
-/
import Derived.Test.YtfichoekjjcjiaaChecked
import GoSem.Claim
import GoSem.ClaimJoined
import GoSem.ClaimMapViews
import Derived.JoinedTies
import Derived.KernelRfl
namespace Go.Proofs.Ytfichoekjjcjiaa
/- THE CELL 'sum', in the pinned program and in every row, IS THE sha256 OF THE DUMP (.gsa) THAT YtfichoekjjcjiaaProg.lean LOADS. Nothing in Lean hashes anything: it is a label: what it is worth is what the hold of that sum in a sandbox is worth. -/
noncomputable def Try.pinned : Pinned := { name := "ytfichoekjjcjiaa", sum := "cb8eb412311b48e1480214a0d6ab831d3fd9d1eb608fa0ae51afdefd475c66dd", checked := Try.checked }
namespace Rows
def none {H : Type} : Left H := { results := [], args := [] }

/-- 'ratoonlaw43.StreamTwice': WHATEVER THE INPUT: true; the input reads as it did. -/
def streamTwiceSpec : ChangeSpec := { name := "streamTwice", fn := fun _ => fun
  | [d1, d2] => { results := [.lit (.bool true)], args := [d1, d2] }
  | _ => none }
def streamTwiceRow : OpenClaim := { program := "ytfichoekjjcjiaa", sum := "cb8eb412311b48e1480214a0d6ab831d3fd9d1eb608fa0ae51afdefd475c66dd", func := "ratoon/ratoonlaw43.StreamTwice", spec := "streamTwice", unfollowed := true, recurses := true, apart := false }
def StreamTwiceSaid : Prop := streamTwiceRow.holds Try.pinned (OpenSpec.ofChange streamTwiceSpec)

/-- ITS FALSE NEIGHBOUR: 'it returns false'. Refute it at one input. -/
def streamTwiceWrong : ChangeSpec := { name := "streamTwice", fn := fun _ => fun
  | [d1, d2] => { results := [.lit (.bool false)], args := [d1, d2] }
  | _ => none }
def StreamTwiceWrongFalsely : Prop := streamTwiceRow.holds Try.pinned (OpenSpec.ofChange streamTwiceWrong)

/-- 'ratoonlaw43.StreamPackets': WHATEVER THE INPUT: true; the input reads as it did. -/
def streamPacketsSpec : ChangeSpec := { name := "streamPackets", fn := fun _ => fun
  | [d1, d2, d3] => { results := [.lit (.bool true)], args := [d1, d2, d3] }
  | _ => none }
def streamPacketsRow : OpenClaim := { program := "ytfichoekjjcjiaa", sum := "cb8eb412311b48e1480214a0d6ab831d3fd9d1eb608fa0ae51afdefd475c66dd", func := "ratoon/ratoonlaw43.StreamPackets", spec := "streamPackets", unfollowed := true, recurses := true, apart := false }
def StreamPacketsSaid : Prop := streamPacketsRow.holds Try.pinned (OpenSpec.ofChange streamPacketsSpec)

/-- ITS FALSE NEIGHBOUR: 'it returns false'. Refute it at one input. -/
def streamPacketsWrong : ChangeSpec := { name := "streamPackets", fn := fun _ => fun
  | [d1, d2, d3] => { results := [.lit (.bool false)], args := [d1, d2, d3] }
  | _ => none }
def StreamPacketsWrongFalsely : Prop := streamPacketsRow.holds Try.pinned (OpenSpec.ofChange streamPacketsWrong)

/-- 'ratoonlaw43.StreamParts': WHATEVER THE INPUT: true; the input reads as it did. -/
def streamPartsSpec : ChangeSpec := { name := "streamParts", fn := fun _ => fun
  | [d1, d2, d3] => { results := [.lit (.bool true)], args := [d1, d2, d3] }
  | _ => none }
def streamPartsRow : OpenClaim := { program := "ytfichoekjjcjiaa", sum := "cb8eb412311b48e1480214a0d6ab831d3fd9d1eb608fa0ae51afdefd475c66dd", func := "ratoon/ratoonlaw43.StreamParts", spec := "streamParts", unfollowed := true, recurses := true, apart := false }
def StreamPartsSaid : Prop := streamPartsRow.holds Try.pinned (OpenSpec.ofChange streamPartsSpec)

/-- ITS FALSE NEIGHBOUR: 'it returns false'. Refute it at one input. -/
def streamPartsWrong : ChangeSpec := { name := "streamParts", fn := fun _ => fun
  | [d1, d2, d3] => { results := [.lit (.bool false)], args := [d1, d2, d3] }
  | _ => none }
def StreamPartsWrongFalsely : Prop := streamPartsRow.holds Try.pinned (OpenSpec.ofChange streamPartsWrong)

/-- 'ratoonlaw43.StreamCalls': WHATEVER THE INPUT: true; the input reads as it did. -/
def streamCallsSpec : ChangeSpec := { name := "streamCalls", fn := fun _ => fun
  | [d1, d2, d3] => { results := [.lit (.bool true)], args := [d1, d2, d3] }
  | _ => none }
def streamCallsRow : OpenClaim := { program := "ytfichoekjjcjiaa", sum := "cb8eb412311b48e1480214a0d6ab831d3fd9d1eb608fa0ae51afdefd475c66dd", func := "ratoon/ratoonlaw43.StreamCalls", spec := "streamCalls", unfollowed := true, recurses := true, apart := false }
def StreamCallsSaid : Prop := streamCallsRow.holds Try.pinned (OpenSpec.ofChange streamCallsSpec)

/-- ITS FALSE NEIGHBOUR: 'it returns false'. Refute it at one input. -/
def streamCallsWrong : ChangeSpec := { name := "streamCalls", fn := fun _ => fun
  | [d1, d2, d3] => { results := [.lit (.bool false)], args := [d1, d2, d3] }
  | _ => none }
def StreamCallsWrongFalsely : Prop := streamCallsRow.holds Try.pinned (OpenSpec.ofChange streamCallsWrong)

/-- 'ratoonlaw43.StreamValid': WHATEVER THE INPUT: true; the input reads as it did. -/
def streamValidSpec : ChangeSpec := { name := "streamValid", fn := fun _ => fun
  | [d1, d2, d3] => { results := [.lit (.bool true)], args := [d1, d2, d3] }
  | _ => none }
def streamValidRow : OpenClaim := { program := "ytfichoekjjcjiaa", sum := "cb8eb412311b48e1480214a0d6ab831d3fd9d1eb608fa0ae51afdefd475c66dd", func := "ratoon/ratoonlaw43.StreamValid", spec := "streamValid", unfollowed := true, recurses := true, apart := false }
def StreamValidSaid : Prop := streamValidRow.holds Try.pinned (OpenSpec.ofChange streamValidSpec)

/-- ITS FALSE NEIGHBOUR: 'it returns false'. Refute it at one input. -/
def streamValidWrong : ChangeSpec := { name := "streamValid", fn := fun _ => fun
  | [d1, d2, d3] => { results := [.lit (.bool false)], args := [d1, d2, d3] }
  | _ => none }
def StreamValidWrongFalsely : Prop := streamValidRow.holds Try.pinned (OpenSpec.ofChange streamValidWrong)

/-- 'ratoonlaw43.StreamPrefix': WHATEVER THE INPUT: true; the input reads as it did. -/
def streamPrefixSpec : ChangeSpec := { name := "streamPrefix", fn := fun _ => fun
  | [d] => { results := [.lit (.bool true)], args := [d] }
  | _ => none }
def streamPrefixRow : OpenClaim := { program := "ytfichoekjjcjiaa", sum := "cb8eb412311b48e1480214a0d6ab831d3fd9d1eb608fa0ae51afdefd475c66dd", func := "ratoon/ratoonlaw43.StreamPrefix", spec := "streamPrefix", unfollowed := true, recurses := true, apart := false }
def StreamPrefixSaid : Prop := streamPrefixRow.holds Try.pinned (OpenSpec.ofChange streamPrefixSpec)

/-- ITS FALSE NEIGHBOUR: 'it returns false'. Refute it at one input. -/
def streamPrefixWrong : ChangeSpec := { name := "streamPrefix", fn := fun _ => fun
  | [d] => { results := [.lit (.bool false)], args := [d] }
  | _ => none }
def StreamPrefixWrongFalsely : Prop := streamPrefixRow.holds Try.pinned (OpenSpec.ofChange streamPrefixWrong)

/-- 'ratoonlaw43.StreamArrives': WHATEVER THE INPUT: true; the input reads as it did. -/
def streamArrivesSpec : ChangeSpec := { name := "streamArrives", fn := fun _ => fun
  | [d1, d2] => { results := [.lit (.bool true)], args := [d1, d2] }
  | _ => none }
def streamArrivesRow : OpenClaim := { program := "ytfichoekjjcjiaa", sum := "cb8eb412311b48e1480214a0d6ab831d3fd9d1eb608fa0ae51afdefd475c66dd", func := "ratoon/ratoonlaw43.StreamArrives", spec := "streamArrives", unfollowed := true, recurses := true, apart := false }
def StreamArrivesSaid : Prop := streamArrivesRow.holds Try.pinned (OpenSpec.ofChange streamArrivesSpec)

/-- ITS FALSE NEIGHBOUR: 'it returns false'. Refute it at one input. -/
def streamArrivesWrong : ChangeSpec := { name := "streamArrives", fn := fun _ => fun
  | [d1, d2] => { results := [.lit (.bool false)], args := [d1, d2] }
  | _ => none }
def StreamArrivesWrongFalsely : Prop := streamArrivesRow.holds Try.pinned (OpenSpec.ofChange streamArrivesWrong)

/- THE SECOND FORM. 'bulk': how many values and letters a reading holds, each counted each time it is reached (what is shared counts as often as it is met; a slice's spare places count too). A statement '..UptoSaid' is the law's where the arguments, and the package variables that the reading takes, are together of bulk at most 1048576: NARROWER than '..Said'. Prove '..Said' where nothing that the law and all that it calls make is longer than what came in: it says more and counts as full. Else prove '..UptoSaid'. A law counts once. -/
mutual
def uptoBulk {H : Type} : DataW H → Nat
  | .lit (.string bytes) => bytes.length + 1
  | .lit _ => 1
  | .nil => 1
  | .ptr d => uptoBulk d + 1
  | .slice elems spare => uptoBulkAll elems + uptoBulkAll spare + 1
  | .agg parts => uptoBulkAll parts + 1
  | .iface _ d => uptoBulk d + 1
  | .map entries => uptoBulkEntries entries + 1
  | .held _ => 1
def uptoBulkAll {H : Type} : List (DataW H) → Nat
  | [] => 0
  | d :: r => uptoBulk d + uptoBulkAll r
def uptoBulkEntries {H : Type} : List (Lit × DataW H) → Nat
  | [] => 0
  | x :: r => uptoBulkEntry x + uptoBulkEntries r
def uptoBulkEntry {H : Type} : Lit × DataW H → Nat
  | (.string bytes, d) => bytes.length + uptoBulk d + 1
  | (_, d) => uptoBulk d + 1
 end
def uptoSmall : (H : Type) → List (DataW H) → Bool := fun _ ds => decide (uptoBulkAll ds ≤ 1048576)
def OpenSpec.upto (s : _root_.Go.ChangeSpec) : _root_.Go.OpenSpec := { _root_.Go.OpenSpec.ofChange s with cond := some uptoSmall }

/-- 'ratoonlaw43.StreamTwice', WHERE WHAT IT READS IS OF BULK AT MOST 1048576: true; the input reads as it did. -/
def streamTwiceUptoRow : OpenClaim := { program := "ytfichoekjjcjiaa", sum := "cb8eb412311b48e1480214a0d6ab831d3fd9d1eb608fa0ae51afdefd475c66dd", func := "ratoon/ratoonlaw43.StreamTwice", spec := "streamTwice", unfollowed := true, recurses := true, apart := false, narrowed := true }
def StreamTwiceUptoSaid : Prop := streamTwiceUptoRow.holds Try.pinned (OpenSpec.upto streamTwiceSpec)

/-- 'ratoonlaw43.StreamPackets', WHERE WHAT IT READS IS OF BULK AT MOST 1048576: true; the input reads as it did. -/
def streamPacketsUptoRow : OpenClaim := { program := "ytfichoekjjcjiaa", sum := "cb8eb412311b48e1480214a0d6ab831d3fd9d1eb608fa0ae51afdefd475c66dd", func := "ratoon/ratoonlaw43.StreamPackets", spec := "streamPackets", unfollowed := true, recurses := true, apart := false, narrowed := true }
def StreamPacketsUptoSaid : Prop := streamPacketsUptoRow.holds Try.pinned (OpenSpec.upto streamPacketsSpec)

/-- 'ratoonlaw43.StreamParts', WHERE WHAT IT READS IS OF BULK AT MOST 1048576: true; the input reads as it did. -/
def streamPartsUptoRow : OpenClaim := { program := "ytfichoekjjcjiaa", sum := "cb8eb412311b48e1480214a0d6ab831d3fd9d1eb608fa0ae51afdefd475c66dd", func := "ratoon/ratoonlaw43.StreamParts", spec := "streamParts", unfollowed := true, recurses := true, apart := false, narrowed := true }
def StreamPartsUptoSaid : Prop := streamPartsUptoRow.holds Try.pinned (OpenSpec.upto streamPartsSpec)

/-- 'ratoonlaw43.StreamCalls', WHERE WHAT IT READS IS OF BULK AT MOST 1048576: true; the input reads as it did. -/
def streamCallsUptoRow : OpenClaim := { program := "ytfichoekjjcjiaa", sum := "cb8eb412311b48e1480214a0d6ab831d3fd9d1eb608fa0ae51afdefd475c66dd", func := "ratoon/ratoonlaw43.StreamCalls", spec := "streamCalls", unfollowed := true, recurses := true, apart := false, narrowed := true }
def StreamCallsUptoSaid : Prop := streamCallsUptoRow.holds Try.pinned (OpenSpec.upto streamCallsSpec)

/-- 'ratoonlaw43.StreamValid', WHERE WHAT IT READS IS OF BULK AT MOST 1048576: true; the input reads as it did. -/
def streamValidUptoRow : OpenClaim := { program := "ytfichoekjjcjiaa", sum := "cb8eb412311b48e1480214a0d6ab831d3fd9d1eb608fa0ae51afdefd475c66dd", func := "ratoon/ratoonlaw43.StreamValid", spec := "streamValid", unfollowed := true, recurses := true, apart := false, narrowed := true }
def StreamValidUptoSaid : Prop := streamValidUptoRow.holds Try.pinned (OpenSpec.upto streamValidSpec)

/-- 'ratoonlaw43.StreamPrefix', WHERE WHAT IT READS IS OF BULK AT MOST 1048576: true; the input reads as it did. -/
def streamPrefixUptoRow : OpenClaim := { program := "ytfichoekjjcjiaa", sum := "cb8eb412311b48e1480214a0d6ab831d3fd9d1eb608fa0ae51afdefd475c66dd", func := "ratoon/ratoonlaw43.StreamPrefix", spec := "streamPrefix", unfollowed := true, recurses := true, apart := false, narrowed := true }
def StreamPrefixUptoSaid : Prop := streamPrefixUptoRow.holds Try.pinned (OpenSpec.upto streamPrefixSpec)

/-- 'ratoonlaw43.StreamArrives', WHERE WHAT IT READS IS OF BULK AT MOST 1048576: true; the input reads as it did. -/
def streamArrivesUptoRow : OpenClaim := { program := "ytfichoekjjcjiaa", sum := "cb8eb412311b48e1480214a0d6ab831d3fd9d1eb608fa0ae51afdefd475c66dd", func := "ratoon/ratoonlaw43.StreamArrives", spec := "streamArrives", unfollowed := true, recurses := true, apart := false, narrowed := true }
def StreamArrivesUptoSaid : Prop := streamArrivesUptoRow.holds Try.pinned (OpenSpec.upto streamArrivesSpec)

end Rows
end Go.Proofs.Ytfichoekjjcjiaa
