/-
  No cell of these rows narrows 'for every input' (looked for: loops, veiled, ifaces, maps, wideKeys, modest, calm, conditions, laid).
  DERIVED. THE GIVEN ROWS OF THIS SEAT. 7 by the template 'for every input the law returns true; each argument reads behind the call as it read before'; 0 by the template 'total and deterministic' (their statements: YtljfblnpgeconaaTotals.lean).
  GIVEN WITH THE SEED: the statements are not yours to turn. If you find one false, say at which input.
  Laid BY PROGRAM, IN A SANDBOX (cutbox-rows.mjs): the forced cells as the released guide's own fill.sh prints them over the translation 8f8852b436f6b7bd… (all of the seat's roots in one cut). By AI agents, Wed Nov 11 2026. No macro, syntax, notation, axiom, sorry.
-/
import Derived.Test.YtljfblnpgeconaaChecked
import GoSem.Claim
import GoSem.ClaimJoined
import GoSem.ClaimMapViews
import Derived.JoinedTies
import Derived.KernelRfl
namespace Go.Proofs.Ytljfblnpgeconaa
/- THE CELL 'sum', in the pinned program and in every row, IS THE sha256 OF THE DUMP (.gsa) THAT YtljfblnpgeconaaProg.lean LOADS. Nothing in Lean hashes anything: it is a label: what it is worth is what the hold of that sum in a sandbox is worth. -/
noncomputable def Try.pinned : Pinned := { name := "ytljfblnpgeconaa", sum := "8f8852b436f6b7bda8bf2808bc31eb630fe40d70b89c4838ae17abeb178073ec", checked := Try.checked }
namespace Rows
def none {H : Type} : Left H := { results := [], args := [] }

/-- 'ratoonlaw06.RingOrder': WHATEVER THE INPUT: true; the input reads as it did. -/
def ringOrderSpec : ChangeSpec := { name := "ringOrder", fn := fun _ => fun
  | [d1, d2] => { results := [.lit (.bool true)], args := [d1, d2] }
  | _ => none }
def ringOrderRow : OpenClaim := { program := "ytljfblnpgeconaa", sum := "8f8852b436f6b7bda8bf2808bc31eb630fe40d70b89c4838ae17abeb178073ec", func := "ratoon/ratoonlaw06.RingOrder", spec := "ringOrder", apart := false }
def RingOrderSaid : Prop := ringOrderRow.holds Try.pinned (OpenSpec.ofChange ringOrderSpec)

/-- ITS FALSE NEIGHBOUR: 'it returns false'. Refute it at one input. -/
def ringOrderWrong : ChangeSpec := { name := "ringOrder", fn := fun _ => fun
  | [d1, d2] => { results := [.lit (.bool false)], args := [d1, d2] }
  | _ => none }
def RingOrderWrongFalsely : Prop := ringOrderRow.holds Try.pinned (OpenSpec.ofChange ringOrderWrong)

/-- 'ratoonlaw06.RingParts': WHATEVER THE INPUT: true; the input reads as it did. -/
def ringPartsSpec : ChangeSpec := { name := "ringParts", fn := fun _ => fun
  | [d1, d2, d3] => { results := [.lit (.bool true)], args := [d1, d2, d3] }
  | _ => none }
def ringPartsRow : OpenClaim := { program := "ytljfblnpgeconaa", sum := "8f8852b436f6b7bda8bf2808bc31eb630fe40d70b89c4838ae17abeb178073ec", func := "ratoon/ratoonlaw06.RingParts", spec := "ringParts", apart := false }
def RingPartsSaid : Prop := ringPartsRow.holds Try.pinned (OpenSpec.ofChange ringPartsSpec)

/-- ITS FALSE NEIGHBOUR: 'it returns false'. Refute it at one input. -/
def ringPartsWrong : ChangeSpec := { name := "ringParts", fn := fun _ => fun
  | [d1, d2, d3] => { results := [.lit (.bool false)], args := [d1, d2, d3] }
  | _ => none }
def RingPartsWrongFalsely : Prop := ringPartsRow.holds Try.pinned (OpenSpec.ofChange ringPartsWrong)

/-- 'ratoonlaw06.RingDrop': WHATEVER THE INPUT: true; the input reads as it did. -/
def ringDropSpec : ChangeSpec := { name := "ringDrop", fn := fun _ => fun
  | [d1, d2] => { results := [.lit (.bool true)], args := [d1, d2] }
  | _ => none }
def ringDropRow : OpenClaim := { program := "ytljfblnpgeconaa", sum := "8f8852b436f6b7bda8bf2808bc31eb630fe40d70b89c4838ae17abeb178073ec", func := "ratoon/ratoonlaw06.RingDrop", spec := "ringDrop", unfollowed := true, recurses := true, apart := false }
def RingDropSaid : Prop := ringDropRow.holds Try.pinned (OpenSpec.ofChange ringDropSpec)

/-- ITS FALSE NEIGHBOUR: 'it returns false'. Refute it at one input. -/
def ringDropWrong : ChangeSpec := { name := "ringDrop", fn := fun _ => fun
  | [d1, d2] => { results := [.lit (.bool false)], args := [d1, d2] }
  | _ => none }
def RingDropWrongFalsely : Prop := ringDropRow.holds Try.pinned (OpenSpec.ofChange ringDropWrong)

/-- 'ratoonlaw06.RingNil': WHATEVER THE INPUT: true; the input reads as it did. -/
def ringNilSpec : ChangeSpec := { name := "ringNil", fn := fun _ => fun
  | [d1, d2] => { results := [.lit (.bool true)], args := [d1, d2] }
  | _ => none }
def ringNilRow : OpenClaim := { program := "ytljfblnpgeconaa", sum := "8f8852b436f6b7bda8bf2808bc31eb630fe40d70b89c4838ae17abeb178073ec", func := "ratoon/ratoonlaw06.RingNil", spec := "ringNil", inPlace := ["internal/bytealg.IndexByte"], unfollowed := true, recurses := true, apart := false }
def RingNilSaid : Prop := ringNilRow.holds Try.pinned (OpenSpec.ofChange ringNilSpec)

/-- ITS FALSE NEIGHBOUR: 'it returns false'. Refute it at one input. -/
def ringNilWrong : ChangeSpec := { name := "ringNil", fn := fun _ => fun
  | [d1, d2] => { results := [.lit (.bool false)], args := [d1, d2] }
  | _ => none }
def RingNilWrongFalsely : Prop := ringNilRow.holds Try.pinned (OpenSpec.ofChange ringNilWrong)

/-- 'ratoonlaw06.RingBytes': WHATEVER THE INPUT: true; the input reads as it did. -/
def ringBytesSpec : ChangeSpec := { name := "ringBytes", fn := fun _ => fun
  | [d1, d2, d3] => { results := [.lit (.bool true)], args := [d1, d2, d3] }
  | _ => none }
def ringBytesRow : OpenClaim := { program := "ytljfblnpgeconaa", sum := "8f8852b436f6b7bda8bf2808bc31eb630fe40d70b89c4838ae17abeb178073ec", func := "ratoon/ratoonlaw06.RingBytes", spec := "ringBytes", inPlace := ["internal/bytealg.IndexByte"], unfollowed := true, recurses := true, apart := false }
def RingBytesSaid : Prop := ringBytesRow.holds Try.pinned (OpenSpec.ofChange ringBytesSpec)

/-- ITS FALSE NEIGHBOUR: 'it returns false'. Refute it at one input. -/
def ringBytesWrong : ChangeSpec := { name := "ringBytes", fn := fun _ => fun
  | [d1, d2, d3] => { results := [.lit (.bool false)], args := [d1, d2, d3] }
  | _ => none }
def RingBytesWrongFalsely : Prop := ringBytesRow.holds Try.pinned (OpenSpec.ofChange ringBytesWrong)

/-- 'ratoonlaw06.RingDecode': WHATEVER THE INPUT: true; the input reads as it did. -/
def ringDecodeSpec : ChangeSpec := { name := "ringDecode", fn := fun _ => fun
  | [d] => { results := [.lit (.bool true)], args := [d] }
  | _ => none }
def ringDecodeRow : OpenClaim := { program := "ytljfblnpgeconaa", sum := "8f8852b436f6b7bda8bf2808bc31eb630fe40d70b89c4838ae17abeb178073ec", func := "ratoon/ratoonlaw06.RingDecode", spec := "ringDecode", unfollowed := true, recurses := true, apart := false }
def RingDecodeSaid : Prop := ringDecodeRow.holds Try.pinned (OpenSpec.ofChange ringDecodeSpec)

/-- ITS FALSE NEIGHBOUR: 'it returns false'. Refute it at one input. -/
def ringDecodeWrong : ChangeSpec := { name := "ringDecode", fn := fun _ => fun
  | [d] => { results := [.lit (.bool false)], args := [d] }
  | _ => none }
def RingDecodeWrongFalsely : Prop := ringDecodeRow.holds Try.pinned (OpenSpec.ofChange ringDecodeWrong)

/-- 'ratoonlaw06.RingQueue': WHATEVER THE INPUT: true; the input reads as it did. -/
def ringQueueSpec : ChangeSpec := { name := "ringQueue", fn := fun _ => fun
  | [d1, d2, d3] => { results := [.lit (.bool true)], args := [d1, d2, d3] }
  | _ => none }
def ringQueueRow : OpenClaim := { program := "ytljfblnpgeconaa", sum := "8f8852b436f6b7bda8bf2808bc31eb630fe40d70b89c4838ae17abeb178073ec", func := "ratoon/ratoonlaw06.RingQueue", spec := "ringQueue", unfollowed := true, recurses := true, apart := false }
def RingQueueSaid : Prop := ringQueueRow.holds Try.pinned (OpenSpec.ofChange ringQueueSpec)

/-- ITS FALSE NEIGHBOUR: 'it returns false'. Refute it at one input. -/
def ringQueueWrong : ChangeSpec := { name := "ringQueue", fn := fun _ => fun
  | [d1, d2, d3] => { results := [.lit (.bool false)], args := [d1, d2, d3] }
  | _ => none }
def RingQueueWrongFalsely : Prop := ringQueueRow.holds Try.pinned (OpenSpec.ofChange ringQueueWrong)

/- THE SECOND FORM. 'bulk': how many values and letters a reading holds, each counted each time it is reached (what is shared counts as often as it is met; a slice's spare places count too). A statement '..UptoSaid' is the law's where the arguments, and the package variables that the reading takes, are together of bulk at most 1048576: NARROWER than '..Said'. Prove '..Said' where nothing that the law and all that it calls make is longer than what came in: it says more and counts as full. Else prove '..UptoSaid'. A law counts once. -/
mutual
def uptoBulk {H : Type} : DataW H → Nat
  | .lit (.string bytes) => bytes.length + 1
  | .lit _ => 1
  | .nil => 1
  | .ptr d => uptoBulk d + 1
  | .slice elems spare => uptoBulkAll elems + uptoBulkAll spare + 1
  | .agg parts => uptoBulkAll parts + 1
  | .iface _ d => uptoBulk d + 1
  | .map entries => uptoBulkEntries entries + 1
  | .held _ => 1
def uptoBulkAll {H : Type} : List (DataW H) → Nat
  | [] => 0
  | d :: r => uptoBulk d + uptoBulkAll r
def uptoBulkEntries {H : Type} : List (Lit × DataW H) → Nat
  | [] => 0
  | x :: r => uptoBulkEntry x + uptoBulkEntries r
def uptoBulkEntry {H : Type} : Lit × DataW H → Nat
  | (.string bytes, d) => bytes.length + uptoBulk d + 1
  | (_, d) => uptoBulk d + 1
 end
def uptoSmall : (H : Type) → List (DataW H) → Bool := fun _ ds => decide (uptoBulkAll ds ≤ 1048576)
def OpenSpec.upto (s : _root_.Go.ChangeSpec) : _root_.Go.OpenSpec := { _root_.Go.OpenSpec.ofChange s with cond := some uptoSmall }

/-- 'ratoonlaw06.RingOrder', WHERE WHAT IT READS IS OF BULK AT MOST 1048576: true; the input reads as it did. -/
def ringOrderUptoRow : OpenClaim := { program := "ytljfblnpgeconaa", sum := "8f8852b436f6b7bda8bf2808bc31eb630fe40d70b89c4838ae17abeb178073ec", func := "ratoon/ratoonlaw06.RingOrder", spec := "ringOrder", apart := false, narrowed := true }
def RingOrderUptoSaid : Prop := ringOrderUptoRow.holds Try.pinned (OpenSpec.upto ringOrderSpec)

/-- 'ratoonlaw06.RingParts', WHERE WHAT IT READS IS OF BULK AT MOST 1048576: true; the input reads as it did. -/
def ringPartsUptoRow : OpenClaim := { program := "ytljfblnpgeconaa", sum := "8f8852b436f6b7bda8bf2808bc31eb630fe40d70b89c4838ae17abeb178073ec", func := "ratoon/ratoonlaw06.RingParts", spec := "ringParts", apart := false, narrowed := true }
def RingPartsUptoSaid : Prop := ringPartsUptoRow.holds Try.pinned (OpenSpec.upto ringPartsSpec)

/-- 'ratoonlaw06.RingDrop', WHERE WHAT IT READS IS OF BULK AT MOST 1048576: true; the input reads as it did. -/
def ringDropUptoRow : OpenClaim := { program := "ytljfblnpgeconaa", sum := "8f8852b436f6b7bda8bf2808bc31eb630fe40d70b89c4838ae17abeb178073ec", func := "ratoon/ratoonlaw06.RingDrop", spec := "ringDrop", unfollowed := true, recurses := true, apart := false, narrowed := true }
def RingDropUptoSaid : Prop := ringDropUptoRow.holds Try.pinned (OpenSpec.upto ringDropSpec)

/-- 'ratoonlaw06.RingNil', WHERE WHAT IT READS IS OF BULK AT MOST 1048576: true; the input reads as it did. -/
def ringNilUptoRow : OpenClaim := { program := "ytljfblnpgeconaa", sum := "8f8852b436f6b7bda8bf2808bc31eb630fe40d70b89c4838ae17abeb178073ec", func := "ratoon/ratoonlaw06.RingNil", spec := "ringNil", inPlace := ["internal/bytealg.IndexByte"], unfollowed := true, recurses := true, apart := false, narrowed := true }
def RingNilUptoSaid : Prop := ringNilUptoRow.holds Try.pinned (OpenSpec.upto ringNilSpec)

/-- 'ratoonlaw06.RingBytes', WHERE WHAT IT READS IS OF BULK AT MOST 1048576: true; the input reads as it did. -/
def ringBytesUptoRow : OpenClaim := { program := "ytljfblnpgeconaa", sum := "8f8852b436f6b7bda8bf2808bc31eb630fe40d70b89c4838ae17abeb178073ec", func := "ratoon/ratoonlaw06.RingBytes", spec := "ringBytes", inPlace := ["internal/bytealg.IndexByte"], unfollowed := true, recurses := true, apart := false, narrowed := true }
def RingBytesUptoSaid : Prop := ringBytesUptoRow.holds Try.pinned (OpenSpec.upto ringBytesSpec)

/-- 'ratoonlaw06.RingDecode', WHERE WHAT IT READS IS OF BULK AT MOST 1048576: true; the input reads as it did. -/
def ringDecodeUptoRow : OpenClaim := { program := "ytljfblnpgeconaa", sum := "8f8852b436f6b7bda8bf2808bc31eb630fe40d70b89c4838ae17abeb178073ec", func := "ratoon/ratoonlaw06.RingDecode", spec := "ringDecode", unfollowed := true, recurses := true, apart := false, narrowed := true }
def RingDecodeUptoSaid : Prop := ringDecodeUptoRow.holds Try.pinned (OpenSpec.upto ringDecodeSpec)

/-- 'ratoonlaw06.RingQueue', WHERE WHAT IT READS IS OF BULK AT MOST 1048576: true; the input reads as it did. -/
def ringQueueUptoRow : OpenClaim := { program := "ytljfblnpgeconaa", sum := "8f8852b436f6b7bda8bf2808bc31eb630fe40d70b89c4838ae17abeb178073ec", func := "ratoon/ratoonlaw06.RingQueue", spec := "ringQueue", unfollowed := true, recurses := true, apart := false, narrowed := true }
def RingQueueUptoSaid : Prop := ringQueueUptoRow.holds Try.pinned (OpenSpec.upto ringQueueSpec)

end Rows
end Go.Proofs.Ytljfblnpgeconaa
