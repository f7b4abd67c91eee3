/-
  No cell of these rows narrows 'for every input' (looked for: loops, veiled, ifaces, maps, wideKeys, modest, calm, conditions, laid).
  DERIVED. THE GIVEN ROWS OF THIS SEAT. 6 by the template 'for every input the law returns true; each argument reads behind the call as it read before'; 0 by the template 'total and deterministic' (their statements: YtibbnikfecilhaaTotals.lean).
  GIVEN WITH THE SEED: the statements are not yours to turn. If you find one false, say at which input.
  Laid BY PROGRAM, IN A SANDBOX (cutbox-rows.mjs): the forced cells as the released guide's own fill.sh prints them over the translation ab51d2229694aea2… (all of the seat's roots in one cut). By AI agents, Wed Nov 11 2026. No macro, syntax, notation, axiom, sorry.
-/
import Derived.Test.YtibbnikfecilhaaChecked
import GoSem.Claim
import GoSem.ClaimJoined
import GoSem.ClaimMapViews
import Derived.JoinedTies
import Derived.KernelRfl
namespace Go.Proofs.Ytibbnikfecilhaa
/- THE CELL 'sum', in the pinned program and in every row, IS THE sha256 OF THE DUMP (.gsa) THAT YtibbnikfecilhaaProg.lean LOADS. Nothing in Lean hashes anything: it is a label: what it is worth is what the hold of that sum in a sandbox is worth. -/
noncomputable def Try.pinned : Pinned := { name := "ytibbnikfecilhaa", sum := "ab51d2229694aea23b2f79ace15e4a2f2aff8c08e96c5972a2a71341670e0662", checked := Try.checked }
namespace Rows
def none {H : Type} : Left H := { results := [], args := [] }

/-- 'sibyllaw19.LogLeaves': WHATEVER THE INPUT: true; the input reads as it did. -/
def logLeavesSpec : ChangeSpec := { name := "logLeaves", fn := fun _ => fun
  | [d1, d2, d3] => { results := [.lit (.bool true)], args := [d1, d2, d3] }
  | _ => none }
def logLeavesRow : OpenClaim := { program := "ytibbnikfecilhaa", sum := "ab51d2229694aea23b2f79ace15e4a2f2aff8c08e96c5972a2a71341670e0662", func := "sibyl/sibyllaw19.LogLeaves", spec := "logLeaves", unfollowed := true, recurses := true, apart := false }
def LogLeavesSaid : Prop := logLeavesRow.holds Try.pinned (OpenSpec.ofChange logLeavesSpec)

/-- ITS FALSE NEIGHBOUR: 'it returns false'. Refute it at one input. -/
def logLeavesWrong : ChangeSpec := { name := "logLeaves", fn := fun _ => fun
  | [d1, d2, d3] => { results := [.lit (.bool false)], args := [d1, d2, d3] }
  | _ => none }
def LogLeavesWrongFalsely : Prop := logLeavesRow.holds Try.pinned (OpenSpec.ofChange logLeavesWrong)

/-- 'sibyllaw19.LogAnswers': WHATEVER THE INPUT: true; the input reads as it did. -/
def logAnswersSpec : ChangeSpec := { name := "logAnswers", fn := fun _ => fun
  | [d1, d2] => { results := [.lit (.bool true)], args := [d1, d2] }
  | _ => none }
def logAnswersRow : OpenClaim := { program := "ytibbnikfecilhaa", sum := "ab51d2229694aea23b2f79ace15e4a2f2aff8c08e96c5972a2a71341670e0662", func := "sibyl/sibyllaw19.LogAnswers", spec := "logAnswers", unfollowed := true, recurses := true, apart := false }
def LogAnswersSaid : Prop := logAnswersRow.holds Try.pinned (OpenSpec.ofChange logAnswersSpec)

/-- ITS FALSE NEIGHBOUR: 'it returns false'. Refute it at one input. -/
def logAnswersWrong : ChangeSpec := { name := "logAnswers", fn := fun _ => fun
  | [d1, d2] => { results := [.lit (.bool false)], args := [d1, d2] }
  | _ => none }
def LogAnswersWrongFalsely : Prop := logAnswersRow.holds Try.pinned (OpenSpec.ofChange logAnswersWrong)

/-- 'sibyllaw19.LogOnce': WHATEVER THE INPUT: true; the input reads as it did. -/
def logOnceSpec : ChangeSpec := { name := "logOnce", fn := fun _ => fun
  | [d1, d2] => { results := [.lit (.bool true)], args := [d1, d2] }
  | _ => none }
def logOnceRow : OpenClaim := { program := "ytibbnikfecilhaa", sum := "ab51d2229694aea23b2f79ace15e4a2f2aff8c08e96c5972a2a71341670e0662", func := "sibyl/sibyllaw19.LogOnce", spec := "logOnce", unfollowed := true, recurses := true, apart := false }
def LogOnceSaid : Prop := logOnceRow.holds Try.pinned (OpenSpec.ofChange logOnceSpec)

/-- ITS FALSE NEIGHBOUR: 'it returns false'. Refute it at one input. -/
def logOnceWrong : ChangeSpec := { name := "logOnce", fn := fun _ => fun
  | [d1, d2] => { results := [.lit (.bool false)], args := [d1, d2] }
  | _ => none }
def LogOnceWrongFalsely : Prop := logOnceRow.holds Try.pinned (OpenSpec.ofChange logOnceWrong)

/-- 'sibyllaw19.LogBound': WHATEVER THE INPUT: true; the input reads as it did. -/
def logBoundSpec : ChangeSpec := { name := "logBound", fn := fun _ => fun
  | [d1, d2] => { results := [.lit (.bool true)], args := [d1, d2] }
  | _ => none }
def logBoundRow : OpenClaim := { program := "ytibbnikfecilhaa", sum := "ab51d2229694aea23b2f79ace15e4a2f2aff8c08e96c5972a2a71341670e0662", func := "sibyl/sibyllaw19.LogBound", spec := "logBound", unfollowed := true, recurses := true, apart := false }
def LogBoundSaid : Prop := logBoundRow.holds Try.pinned (OpenSpec.ofChange logBoundSpec)

/-- ITS FALSE NEIGHBOUR: 'it returns false'. Refute it at one input. -/
def logBoundWrong : ChangeSpec := { name := "logBound", fn := fun _ => fun
  | [d1, d2] => { results := [.lit (.bool false)], args := [d1, d2] }
  | _ => none }
def LogBoundWrongFalsely : Prop := logBoundRow.holds Try.pinned (OpenSpec.ofChange logBoundWrong)

/-- 'sibyllaw19.LogPlays': WHATEVER THE INPUT: true; the input reads as it did. -/
def logPlaysSpec : ChangeSpec := { name := "logPlays", fn := fun _ => fun
  | [d1, d2] => { results := [.lit (.bool true)], args := [d1, d2] }
  | _ => none }
def logPlaysRow : OpenClaim := { program := "ytibbnikfecilhaa", sum := "ab51d2229694aea23b2f79ace15e4a2f2aff8c08e96c5972a2a71341670e0662", func := "sibyl/sibyllaw19.LogPlays", spec := "logPlays", unfollowed := true, recurses := true, apart := false }
def LogPlaysSaid : Prop := logPlaysRow.holds Try.pinned (OpenSpec.ofChange logPlaysSpec)

/-- ITS FALSE NEIGHBOUR: 'it returns false'. Refute it at one input. -/
def logPlaysWrong : ChangeSpec := { name := "logPlays", fn := fun _ => fun
  | [d1, d2] => { results := [.lit (.bool false)], args := [d1, d2] }
  | _ => none }
def LogPlaysWrongFalsely : Prop := logPlaysRow.holds Try.pinned (OpenSpec.ofChange logPlaysWrong)

/-- 'sibyllaw19.LogNil': WHATEVER THE INPUT: true; the input reads as it did. -/
def logNilSpec : ChangeSpec := { name := "logNil", fn := fun _ => fun
  | [d1, d2] => { results := [.lit (.bool true)], args := [d1, d2] }
  | _ => none }
def logNilRow : OpenClaim := { program := "ytibbnikfecilhaa", sum := "ab51d2229694aea23b2f79ace15e4a2f2aff8c08e96c5972a2a71341670e0662", func := "sibyl/sibyllaw19.LogNil", spec := "logNil", unfollowed := true, recurses := true, apart := false }
def LogNilSaid : Prop := logNilRow.holds Try.pinned (OpenSpec.ofChange logNilSpec)

/-- ITS FALSE NEIGHBOUR: 'it returns false'. Refute it at one input. -/
def logNilWrong : ChangeSpec := { name := "logNil", fn := fun _ => fun
  | [d1, d2] => { results := [.lit (.bool false)], args := [d1, d2] }
  | _ => none }
def LogNilWrongFalsely : Prop := logNilRow.holds Try.pinned (OpenSpec.ofChange logNilWrong)

/- THE SECOND FORM. 'bulk': how many values and letters a reading holds, each counted each time it is reached (what is shared counts as often as it is met; a slice's spare places count too). A statement '..UptoSaid' is the law's where the arguments, and the package variables that the reading takes, are together of bulk at most 1048576: NARROWER than '..Said'. Prove '..Said' where nothing that the law and all that it calls make is longer than what came in: it says more and counts as full. Else prove '..UptoSaid'. A law counts once. -/
mutual
def uptoBulk {H : Type} : DataW H → Nat
  | .lit (.string bytes) => bytes.length + 1
  | .lit _ => 1
  | .nil => 1
  | .ptr d => uptoBulk d + 1
  | .slice elems spare => uptoBulkAll elems + uptoBulkAll spare + 1
  | .agg parts => uptoBulkAll parts + 1
  | .iface _ d => uptoBulk d + 1
  | .map entries => uptoBulkEntries entries + 1
  | .held _ => 1
def uptoBulkAll {H : Type} : List (DataW H) → Nat
  | [] => 0
  | d :: r => uptoBulk d + uptoBulkAll r
def uptoBulkEntries {H : Type} : List (Lit × DataW H) → Nat
  | [] => 0
  | x :: r => uptoBulkEntry x + uptoBulkEntries r
def uptoBulkEntry {H : Type} : Lit × DataW H → Nat
  | (.string bytes, d) => bytes.length + uptoBulk d + 1
  | (_, d) => uptoBulk d + 1
 end
def uptoSmall : (H : Type) → List (DataW H) → Bool := fun _ ds => decide (uptoBulkAll ds ≤ 1048576)
def OpenSpec.upto (s : _root_.Go.ChangeSpec) : _root_.Go.OpenSpec := { _root_.Go.OpenSpec.ofChange s with cond := some uptoSmall }

/-- 'sibyllaw19.LogLeaves', WHERE WHAT IT READS IS OF BULK AT MOST 1048576: true; the input reads as it did. -/
def logLeavesUptoRow : OpenClaim := { program := "ytibbnikfecilhaa", sum := "ab51d2229694aea23b2f79ace15e4a2f2aff8c08e96c5972a2a71341670e0662", func := "sibyl/sibyllaw19.LogLeaves", spec := "logLeaves", unfollowed := true, recurses := true, apart := false, narrowed := true }
def LogLeavesUptoSaid : Prop := logLeavesUptoRow.holds Try.pinned (OpenSpec.upto logLeavesSpec)

/-- 'sibyllaw19.LogAnswers', WHERE WHAT IT READS IS OF BULK AT MOST 1048576: true; the input reads as it did. -/
def logAnswersUptoRow : OpenClaim := { program := "ytibbnikfecilhaa", sum := "ab51d2229694aea23b2f79ace15e4a2f2aff8c08e96c5972a2a71341670e0662", func := "sibyl/sibyllaw19.LogAnswers", spec := "logAnswers", unfollowed := true, recurses := true, apart := false, narrowed := true }
def LogAnswersUptoSaid : Prop := logAnswersUptoRow.holds Try.pinned (OpenSpec.upto logAnswersSpec)

/-- 'sibyllaw19.LogOnce', WHERE WHAT IT READS IS OF BULK AT MOST 1048576: true; the input reads as it did. -/
def logOnceUptoRow : OpenClaim := { program := "ytibbnikfecilhaa", sum := "ab51d2229694aea23b2f79ace15e4a2f2aff8c08e96c5972a2a71341670e0662", func := "sibyl/sibyllaw19.LogOnce", spec := "logOnce", unfollowed := true, recurses := true, apart := false, narrowed := true }
def LogOnceUptoSaid : Prop := logOnceUptoRow.holds Try.pinned (OpenSpec.upto logOnceSpec)

/-- 'sibyllaw19.LogBound', WHERE WHAT IT READS IS OF BULK AT MOST 1048576: true; the input reads as it did. -/
def logBoundUptoRow : OpenClaim := { program := "ytibbnikfecilhaa", sum := "ab51d2229694aea23b2f79ace15e4a2f2aff8c08e96c5972a2a71341670e0662", func := "sibyl/sibyllaw19.LogBound", spec := "logBound", unfollowed := true, recurses := true, apart := false, narrowed := true }
def LogBoundUptoSaid : Prop := logBoundUptoRow.holds Try.pinned (OpenSpec.upto logBoundSpec)

/-- 'sibyllaw19.LogPlays', WHERE WHAT IT READS IS OF BULK AT MOST 1048576: true; the input reads as it did. -/
def logPlaysUptoRow : OpenClaim := { program := "ytibbnikfecilhaa", sum := "ab51d2229694aea23b2f79ace15e4a2f2aff8c08e96c5972a2a71341670e0662", func := "sibyl/sibyllaw19.LogPlays", spec := "logPlays", unfollowed := true, recurses := true, apart := false, narrowed := true }
def LogPlaysUptoSaid : Prop := logPlaysUptoRow.holds Try.pinned (OpenSpec.upto logPlaysSpec)

/-- 'sibyllaw19.LogNil', WHERE WHAT IT READS IS OF BULK AT MOST 1048576: true; the input reads as it did. -/
def logNilUptoRow : OpenClaim := { program := "ytibbnikfecilhaa", sum := "ab51d2229694aea23b2f79ace15e4a2f2aff8c08e96c5972a2a71341670e0662", func := "sibyl/sibyllaw19.LogNil", spec := "logNil", unfollowed := true, recurses := true, apart := false, narrowed := true }
def LogNilUptoSaid : Prop := logNilUptoRow.holds Try.pinned (OpenSpec.upto logNilSpec)

end Rows
end Go.Proofs.Ytibbnikfecilhaa
