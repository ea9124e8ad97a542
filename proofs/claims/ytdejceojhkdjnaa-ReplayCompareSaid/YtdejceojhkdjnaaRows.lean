/-
  No cell of these rows narrows 'for every input' (looked for: loops, veiled, ifaces, maps, wideKeys, modest, calm, conditions, laid).
  DERIVED. THE GIVEN ROWS OF THIS SEAT. 5 by the template 'for every input the law returns true; each argument reads behind the call as it read before'; 0 by the template 'total and deterministic' (their statements: YtdejceojhkdjnaaTotals.lean).
  GIVEN WITH THE SEED: the statements are not yours to turn. If you find one false, say at which input.
  Laid BY PROGRAM, IN A SANDBOX (cutbox-rows.mjs): the forced cells as the released guide's own fill.sh prints them over the translation b224fd6112cc55b6… (all of the seat's roots in one cut). By AI agents, Wed Nov 11 2026. No macro, syntax, notation, axiom, sorry.
-/
import Derived.Test.YtdejceojhkdjnaaChecked
import GoSem.Claim
import GoSem.ClaimJoined
import GoSem.ClaimMapViews
import Derived.JoinedTies
import Derived.KernelRfl
namespace Go.Proofs.Ytdejceojhkdjnaa
/- THE CELL 'sum', in the pinned program and in every row, IS THE sha256 OF THE DUMP (.gsa) THAT YtdejceojhkdjnaaProg.lean LOADS. Nothing in Lean hashes anything: it is a label: what it is worth is what the hold of that sum in a sandbox is worth. -/
noncomputable def Try.pinned : Pinned := { name := "ytdejceojhkdjnaa", sum := "b224fd6112cc55b66411d1907ccd3230ad9bdae6752f61f6785531e4fa04f387", checked := Try.checked }
namespace Rows
def none {H : Type} : Left H := { results := [], args := [] }

/-- 'ratoonlaw54.ReplayCheck': WHATEVER THE INPUT: true; the input reads as it did. -/
def replayCheckSpec : ChangeSpec := { name := "replayCheck", fn := fun _ => fun
  | [d] => { results := [.lit (.bool true)], args := [d] }
  | _ => none }
def replayCheckRow : OpenClaim := { program := "ytdejceojhkdjnaa", sum := "b224fd6112cc55b66411d1907ccd3230ad9bdae6752f61f6785531e4fa04f387", func := "ratoon/ratoonlaw54.ReplayCheck", spec := "replayCheck", apart := false }
def ReplayCheckSaid : Prop := replayCheckRow.holds Try.pinned (OpenSpec.ofChange replayCheckSpec)

/-- ITS FALSE NEIGHBOUR: 'it returns false'. Refute it at one input. -/
def replayCheckWrong : ChangeSpec := { name := "replayCheck", fn := fun _ => fun
  | [d] => { results := [.lit (.bool false)], args := [d] }
  | _ => none }
def ReplayCheckWrongFalsely : Prop := replayCheckRow.holds Try.pinned (OpenSpec.ofChange replayCheckWrong)

/-- 'ratoonlaw54.ReplayBeginning': WHATEVER THE INPUT: true; the input reads as it did. -/
def replayBeginningSpec : ChangeSpec := { name := "replayBeginning", fn := fun _ => fun
  | [d1, d2, d3] => { results := [.lit (.bool true)], args := [d1, d2, d3] }
  | _ => none }
def replayBeginningRow : OpenClaim := { program := "ytdejceojhkdjnaa", sum := "b224fd6112cc55b66411d1907ccd3230ad9bdae6752f61f6785531e4fa04f387", func := "ratoon/ratoonlaw54.ReplayBeginning", spec := "replayBeginning", apart := false }
def ReplayBeginningSaid : Prop := replayBeginningRow.holds Try.pinned (OpenSpec.ofChange replayBeginningSpec)

/-- ITS FALSE NEIGHBOUR: 'it returns false'. Refute it at one input. -/
def replayBeginningWrong : ChangeSpec := { name := "replayBeginning", fn := fun _ => fun
  | [d1, d2, d3] => { results := [.lit (.bool false)], args := [d1, d2, d3] }
  | _ => none }
def ReplayBeginningWrongFalsely : Prop := replayBeginningRow.holds Try.pinned (OpenSpec.ofChange replayBeginningWrong)

/-- 'ratoonlaw54.ReplayAnswers': WHATEVER THE INPUT: true; the input reads as it did. -/
def replayAnswersSpec : ChangeSpec := { name := "replayAnswers", fn := fun _ => fun
  | [d] => { results := [.lit (.bool true)], args := [d] }
  | _ => none }
def replayAnswersRow : OpenClaim := { program := "ytdejceojhkdjnaa", sum := "b224fd6112cc55b66411d1907ccd3230ad9bdae6752f61f6785531e4fa04f387", func := "ratoon/ratoonlaw54.ReplayAnswers", spec := "replayAnswers", apart := false }
def ReplayAnswersSaid : Prop := replayAnswersRow.holds Try.pinned (OpenSpec.ofChange replayAnswersSpec)

/-- ITS FALSE NEIGHBOUR: 'it returns false'. Refute it at one input. -/
def replayAnswersWrong : ChangeSpec := { name := "replayAnswers", fn := fun _ => fun
  | [d] => { results := [.lit (.bool false)], args := [d] }
  | _ => none }
def ReplayAnswersWrongFalsely : Prop := replayAnswersRow.holds Try.pinned (OpenSpec.ofChange replayAnswersWrong)

/-- 'ratoonlaw54.ReplayAlive': WHATEVER THE INPUT: true; the input reads as it did. -/
def replayAliveSpec : ChangeSpec := { name := "replayAlive", fn := fun _ => fun
  | [d] => { results := [.lit (.bool true)], args := [d] }
  | _ => none }
def replayAliveRow : OpenClaim := { program := "ytdejceojhkdjnaa", sum := "b224fd6112cc55b66411d1907ccd3230ad9bdae6752f61f6785531e4fa04f387", func := "ratoon/ratoonlaw54.ReplayAlive", spec := "replayAlive", apart := false }
def ReplayAliveSaid : Prop := replayAliveRow.holds Try.pinned (OpenSpec.ofChange replayAliveSpec)

/-- ITS FALSE NEIGHBOUR: 'it returns false'. Refute it at one input. -/
def replayAliveWrong : ChangeSpec := { name := "replayAlive", fn := fun _ => fun
  | [d] => { results := [.lit (.bool false)], args := [d] }
  | _ => none }
def ReplayAliveWrongFalsely : Prop := replayAliveRow.holds Try.pinned (OpenSpec.ofChange replayAliveWrong)

/-- 'ratoonlaw54.ReplayCompare': WHATEVER THE INPUT: true; the input reads as it did. -/
def replayCompareSpec : ChangeSpec := { name := "replayCompare", fn := fun _ => fun
  | [d1, d2, d3] => { results := [.lit (.bool true)], args := [d1, d2, d3] }
  | _ => none }
def replayCompareRow : OpenClaim := { program := "ytdejceojhkdjnaa", sum := "b224fd6112cc55b66411d1907ccd3230ad9bdae6752f61f6785531e4fa04f387", func := "ratoon/ratoonlaw54.ReplayCompare", spec := "replayCompare", apart := false }
def ReplayCompareSaid : Prop := replayCompareRow.holds Try.pinned (OpenSpec.ofChange replayCompareSpec)

/-- ITS FALSE NEIGHBOUR: 'it returns false'. Refute it at one input. -/
def replayCompareWrong : ChangeSpec := { name := "replayCompare", fn := fun _ => fun
  | [d1, d2, d3] => { results := [.lit (.bool false)], args := [d1, d2, d3] }
  | _ => none }
def ReplayCompareWrongFalsely : Prop := replayCompareRow.holds Try.pinned (OpenSpec.ofChange replayCompareWrong)

/- THE SECOND FORM. 'bulk': how many values and letters a reading holds, each counted each time it is reached (what is shared counts as often as it is met; a slice's spare places count too). A statement '..UptoSaid' is the law's where the arguments, and the package variables that the reading takes, are together of bulk at most 1048576: NARROWER than '..Said'. Prove '..Said' where nothing that the law and all that it calls make is longer than what came in: it says more and counts as full. Else prove '..UptoSaid'. A law counts once. -/
mutual
def uptoBulk {H : Type} : DataW H → Nat
  | .lit (.string bytes) => bytes.length + 1
  | .lit _ => 1
  | .nil => 1
  | .ptr d => uptoBulk d + 1
  | .slice elems spare => uptoBulkAll elems + uptoBulkAll spare + 1
  | .agg parts => uptoBulkAll parts + 1
  | .iface _ d => uptoBulk d + 1
  | .map entries => uptoBulkEntries entries + 1
  | .held _ => 1
def uptoBulkAll {H : Type} : List (DataW H) → Nat
  | [] => 0
  | d :: r => uptoBulk d + uptoBulkAll r
def uptoBulkEntries {H : Type} : List (Lit × DataW H) → Nat
  | [] => 0
  | x :: r => uptoBulkEntry x + uptoBulkEntries r
def uptoBulkEntry {H : Type} : Lit × DataW H → Nat
  | (.string bytes, d) => bytes.length + uptoBulk d + 1
  | (_, d) => uptoBulk d + 1
 end
def uptoSmall : (H : Type) → List (DataW H) → Bool := fun _ ds => decide (uptoBulkAll ds ≤ 1048576)
def OpenSpec.upto (s : _root_.Go.ChangeSpec) : _root_.Go.OpenSpec := { _root_.Go.OpenSpec.ofChange s with cond := some uptoSmall }

/-- 'ratoonlaw54.ReplayCheck', WHERE WHAT IT READS IS OF BULK AT MOST 1048576: true; the input reads as it did. -/
def replayCheckUptoRow : OpenClaim := { program := "ytdejceojhkdjnaa", sum := "b224fd6112cc55b66411d1907ccd3230ad9bdae6752f61f6785531e4fa04f387", func := "ratoon/ratoonlaw54.ReplayCheck", spec := "replayCheck", apart := false, narrowed := true }
def ReplayCheckUptoSaid : Prop := replayCheckUptoRow.holds Try.pinned (OpenSpec.upto replayCheckSpec)

/-- 'ratoonlaw54.ReplayBeginning', WHERE WHAT IT READS IS OF BULK AT MOST 1048576: true; the input reads as it did. -/
def replayBeginningUptoRow : OpenClaim := { program := "ytdejceojhkdjnaa", sum := "b224fd6112cc55b66411d1907ccd3230ad9bdae6752f61f6785531e4fa04f387", func := "ratoon/ratoonlaw54.ReplayBeginning", spec := "replayBeginning", apart := false, narrowed := true }
def ReplayBeginningUptoSaid : Prop := replayBeginningUptoRow.holds Try.pinned (OpenSpec.upto replayBeginningSpec)

/-- 'ratoonlaw54.ReplayAnswers', WHERE WHAT IT READS IS OF BULK AT MOST 1048576: true; the input reads as it did. -/
def replayAnswersUptoRow : OpenClaim := { program := "ytdejceojhkdjnaa", sum := "b224fd6112cc55b66411d1907ccd3230ad9bdae6752f61f6785531e4fa04f387", func := "ratoon/ratoonlaw54.ReplayAnswers", spec := "replayAnswers", apart := false, narrowed := true }
def ReplayAnswersUptoSaid : Prop := replayAnswersUptoRow.holds Try.pinned (OpenSpec.upto replayAnswersSpec)

/-- 'ratoonlaw54.ReplayAlive', WHERE WHAT IT READS IS OF BULK AT MOST 1048576: true; the input reads as it did. -/
def replayAliveUptoRow : OpenClaim := { program := "ytdejceojhkdjnaa", sum := "b224fd6112cc55b66411d1907ccd3230ad9bdae6752f61f6785531e4fa04f387", func := "ratoon/ratoonlaw54.ReplayAlive", spec := "replayAlive", apart := false, narrowed := true }
def ReplayAliveUptoSaid : Prop := replayAliveUptoRow.holds Try.pinned (OpenSpec.upto replayAliveSpec)

/-- 'ratoonlaw54.ReplayCompare', WHERE WHAT IT READS IS OF BULK AT MOST 1048576: true; the input reads as it did. -/
def replayCompareUptoRow : OpenClaim := { program := "ytdejceojhkdjnaa", sum := "b224fd6112cc55b66411d1907ccd3230ad9bdae6752f61f6785531e4fa04f387", func := "ratoon/ratoonlaw54.ReplayCompare", spec := "replayCompare", apart := false, narrowed := true }
def ReplayCompareUptoSaid : Prop := replayCompareUptoRow.holds Try.pinned (OpenSpec.upto replayCompareSpec)

end Rows
end Go.Proofs.Ytdejceojhkdjnaa
