/-
  No cell of these rows narrows 'for every input' (looked for: loops, veiled, ifaces, maps, wideKeys, modest, calm, conditions, laid).
  DERIVED. THE GIVEN ROWS OF THIS SEAT. 4 by the template 'for every input the law returns true; each argument reads behind the call as it read before'; 0 by the template 'total and deterministic' (their statements: YtoicdaoappiglaaTotals.lean).
  GIVEN WITH THE SEED: the statements are not yours to turn. If you find one false, say at which input.
  Laid BY PROGRAM, IN A SANDBOX (cutbox-rows.mjs): the forced cells as the released guide's own fill.sh prints them over the translation 1ed984d5d323be34… (all of the seat's roots in one cut). By AI agents, Wed Nov 11 2026. No macro, syntax, notation, axiom, sorry.
-/
import Derived.Test.YtoicdaoappiglaaChecked
import GoSem.Claim
import GoSem.ClaimJoined
import GoSem.ClaimMapViews
import Derived.JoinedTies
import Derived.KernelRfl
namespace Go.Proofs.Ytoicdaoappiglaa
/- THE CELL 'sum', in the pinned program and in every row, IS THE sha256 OF THE DUMP (.gsa) THAT YtoicdaoappiglaaProg.lean LOADS. Nothing in Lean hashes anything: it is a label: what it is worth is what the hold of that sum in a sandbox is worth. -/
noncomputable def Try.pinned : Pinned := { name := "ytoicdaoappiglaa", sum := "1ed984d5d323be3446160be84becc90ac5cdea2660ec7cc58036e5362e7a3589", checked := Try.checked }
namespace Rows
def none {H : Type} : Left H := { results := [], args := [] }

/-- 'ratoonlaw05.SlotsOnce': WHATEVER THE INPUT: true; the input reads as it did. -/
def slotsOnceSpec : ChangeSpec := { name := "slotsOnce", fn := fun _ => fun
  | [d1, d2] => { results := [.lit (.bool true)], args := [d1, d2] }
  | _ => none }
def slotsOnceRow : OpenClaim := { program := "ytoicdaoappiglaa", sum := "1ed984d5d323be3446160be84becc90ac5cdea2660ec7cc58036e5362e7a3589", func := "ratoon/ratoonlaw05.SlotsOnce", spec := "slotsOnce", apart := false }
def SlotsOnceSaid : Prop := slotsOnceRow.holds Try.pinned (OpenSpec.ofChange slotsOnceSpec)

/-- ITS FALSE NEIGHBOUR: 'it returns false'. Refute it at one input. -/
def slotsOnceWrong : ChangeSpec := { name := "slotsOnce", fn := fun _ => fun
  | [d1, d2] => { results := [.lit (.bool false)], args := [d1, d2] }
  | _ => none }
def SlotsOnceWrongFalsely : Prop := slotsOnceRow.holds Try.pinned (OpenSpec.ofChange slotsOnceWrong)

/-- 'ratoonlaw05.SlotsRoom': WHATEVER THE INPUT: true; the input reads as it did. -/
def slotsRoomSpec : ChangeSpec := { name := "slotsRoom", fn := fun _ => fun
  | [d1, d2] => { results := [.lit (.bool true)], args := [d1, d2] }
  | _ => none }
def slotsRoomRow : OpenClaim := { program := "ytoicdaoappiglaa", sum := "1ed984d5d323be3446160be84becc90ac5cdea2660ec7cc58036e5362e7a3589", func := "ratoon/ratoonlaw05.SlotsRoom", spec := "slotsRoom", apart := false }
def SlotsRoomSaid : Prop := slotsRoomRow.holds Try.pinned (OpenSpec.ofChange slotsRoomSpec)

/-- ITS FALSE NEIGHBOUR: 'it returns false'. Refute it at one input. -/
def slotsRoomWrong : ChangeSpec := { name := "slotsRoom", fn := fun _ => fun
  | [d1, d2] => { results := [.lit (.bool false)], args := [d1, d2] }
  | _ => none }
def SlotsRoomWrongFalsely : Prop := slotsRoomRow.holds Try.pinned (OpenSpec.ofChange slotsRoomWrong)

/-- 'ratoonlaw05.SlotsMap': WHATEVER THE INPUT: true; the input reads as it did. -/
def slotsMapSpec : ChangeSpec := { name := "slotsMap", fn := fun _ => fun
  | [d1, d2] => { results := [.lit (.bool true)], args := [d1, d2] }
  | _ => none }
def slotsMapRow : OpenClaim := { program := "ytoicdaoappiglaa", sum := "1ed984d5d323be3446160be84becc90ac5cdea2660ec7cc58036e5362e7a3589", func := "ratoon/ratoonlaw05.SlotsMap", spec := "slotsMap", apart := false }
def SlotsMapSaid : Prop := slotsMapRow.holds Try.pinned (OpenSpec.ofChange slotsMapSpec)

/-- ITS FALSE NEIGHBOUR: 'it returns false'. Refute it at one input. -/
def slotsMapWrong : ChangeSpec := { name := "slotsMap", fn := fun _ => fun
  | [d1, d2] => { results := [.lit (.bool false)], args := [d1, d2] }
  | _ => none }
def SlotsMapWrongFalsely : Prop := slotsMapRow.holds Try.pinned (OpenSpec.ofChange slotsMapWrong)

/-- 'ratoonlaw05.SlotsNil': WHATEVER THE INPUT: true; the input reads as it did. -/
def slotsNilSpec : ChangeSpec := { name := "slotsNil", fn := fun _ => fun
  | [d1, d2] => { results := [.lit (.bool true)], args := [d1, d2] }
  | _ => none }
def slotsNilRow : OpenClaim := { program := "ytoicdaoappiglaa", sum := "1ed984d5d323be3446160be84becc90ac5cdea2660ec7cc58036e5362e7a3589", func := "ratoon/ratoonlaw05.SlotsNil", spec := "slotsNil", apart := false }
def SlotsNilSaid : Prop := slotsNilRow.holds Try.pinned (OpenSpec.ofChange slotsNilSpec)

/-- ITS FALSE NEIGHBOUR: 'it returns false'. Refute it at one input. -/
def slotsNilWrong : ChangeSpec := { name := "slotsNil", fn := fun _ => fun
  | [d1, d2] => { results := [.lit (.bool false)], args := [d1, d2] }
  | _ => none }
def SlotsNilWrongFalsely : Prop := slotsNilRow.holds Try.pinned (OpenSpec.ofChange slotsNilWrong)

/- THE SECOND FORM. 'bulk': how many values and letters a reading holds, each counted each time it is reached (what is shared counts as often as it is met; a slice's spare places count too). A statement '..UptoSaid' is the law's where the arguments, and the package variables that the reading takes, are together of bulk at most 1048576: NARROWER than '..Said'. Prove '..Said' where nothing that the law and all that it calls make is longer than what came in: it says more and counts as full. Else prove '..UptoSaid'. A law counts once. -/
mutual
def uptoBulk {H : Type} : DataW H → Nat
  | .lit (.string bytes) => bytes.length + 1
  | .lit _ => 1
  | .nil => 1
  | .ptr d => uptoBulk d + 1
  | .slice elems spare => uptoBulkAll elems + uptoBulkAll spare + 1
  | .agg parts => uptoBulkAll parts + 1
  | .iface _ d => uptoBulk d + 1
  | .map entries => uptoBulkEntries entries + 1
  | .held _ => 1
def uptoBulkAll {H : Type} : List (DataW H) → Nat
  | [] => 0
  | d :: r => uptoBulk d + uptoBulkAll r
def uptoBulkEntries {H : Type} : List (Lit × DataW H) → Nat
  | [] => 0
  | x :: r => uptoBulkEntry x + uptoBulkEntries r
def uptoBulkEntry {H : Type} : Lit × DataW H → Nat
  | (.string bytes, d) => bytes.length + uptoBulk d + 1
  | (_, d) => uptoBulk d + 1
 end
def uptoSmall : (H : Type) → List (DataW H) → Bool := fun _ ds => decide (uptoBulkAll ds ≤ 1048576)
def OpenSpec.upto (s : _root_.Go.ChangeSpec) : _root_.Go.OpenSpec := { _root_.Go.OpenSpec.ofChange s with cond := some uptoSmall }

/-- 'ratoonlaw05.SlotsOnce', WHERE WHAT IT READS IS OF BULK AT MOST 1048576: true; the input reads as it did. -/
def slotsOnceUptoRow : OpenClaim := { program := "ytoicdaoappiglaa", sum := "1ed984d5d323be3446160be84becc90ac5cdea2660ec7cc58036e5362e7a3589", func := "ratoon/ratoonlaw05.SlotsOnce", spec := "slotsOnce", apart := false, narrowed := true }
def SlotsOnceUptoSaid : Prop := slotsOnceUptoRow.holds Try.pinned (OpenSpec.upto slotsOnceSpec)

/-- 'ratoonlaw05.SlotsRoom', WHERE WHAT IT READS IS OF BULK AT MOST 1048576: true; the input reads as it did. -/
def slotsRoomUptoRow : OpenClaim := { program := "ytoicdaoappiglaa", sum := "1ed984d5d323be3446160be84becc90ac5cdea2660ec7cc58036e5362e7a3589", func := "ratoon/ratoonlaw05.SlotsRoom", spec := "slotsRoom", apart := false, narrowed := true }
def SlotsRoomUptoSaid : Prop := slotsRoomUptoRow.holds Try.pinned (OpenSpec.upto slotsRoomSpec)

/-- 'ratoonlaw05.SlotsMap', WHERE WHAT IT READS IS OF BULK AT MOST 1048576: true; the input reads as it did. -/
def slotsMapUptoRow : OpenClaim := { program := "ytoicdaoappiglaa", sum := "1ed984d5d323be3446160be84becc90ac5cdea2660ec7cc58036e5362e7a3589", func := "ratoon/ratoonlaw05.SlotsMap", spec := "slotsMap", apart := false, narrowed := true }
def SlotsMapUptoSaid : Prop := slotsMapUptoRow.holds Try.pinned (OpenSpec.upto slotsMapSpec)

/-- 'ratoonlaw05.SlotsNil', WHERE WHAT IT READS IS OF BULK AT MOST 1048576: true; the input reads as it did. -/
def slotsNilUptoRow : OpenClaim := { program := "ytoicdaoappiglaa", sum := "1ed984d5d323be3446160be84becc90ac5cdea2660ec7cc58036e5362e7a3589", func := "ratoon/ratoonlaw05.SlotsNil", spec := "slotsNil", apart := false, narrowed := true }
def SlotsNilUptoSaid : Prop := slotsNilUptoRow.holds Try.pinned (OpenSpec.upto slotsNilSpec)

end Rows
end Go.Proofs.Ytoicdaoappiglaa
