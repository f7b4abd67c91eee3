/-
  No cell of these rows narrows 'for every input' (looked for: loops, veiled, ifaces, maps, wideKeys, modest, calm, conditions, laid).
  DERIVED. THE GIVEN ROWS OF THIS SEAT. 5 by the template 'for every input the law returns true; each argument reads behind the call as it read before'; 0 by the template 'total and deterministic' (their statements: YtjapgmaldfckkaaTotals.lean).
  GIVEN WITH THE SEED: the statements are not yours to turn. If you find one false, say at which input.
  Laid BY PROGRAM, IN A SANDBOX (cutbox-rows.mjs): the forced cells as the released guide's own fill.sh prints them over the translation a1406c3db9cdfc8b… (all of the seat's roots in one cut). By AI agents, Wed Nov 11 2026. No macro, syntax, notation, axiom, sorry.
-/
import Derived.Test.YtjapgmaldfckkaaChecked
import GoSem.Claim
import GoSem.ClaimJoined
import GoSem.ClaimMapViews
import Derived.JoinedTies
import Derived.KernelRfl
namespace Go.Proofs.Ytjapgmaldfckkaa
/- THE CELL 'sum', in the pinned program and in every row, IS THE sha256 OF THE DUMP (.gsa) THAT YtjapgmaldfckkaaProg.lean LOADS. Nothing in Lean hashes anything: it is a label: what it is worth is what the hold of that sum in a sandbox is worth. -/
noncomputable def Try.pinned : Pinned := { name := "ytjapgmaldfckkaa", sum := "a1406c3db9cdfc8b29c7b2c4921475f2c6dbde76d6bf6d9e982d67fe961d717d", checked := Try.checked }
namespace Rows
def none {H : Type} : Left H := { results := [], args := [] }

/-- 'sibyllaw05.PredLast': WHATEVER THE INPUT: true; the input reads as it did. -/
def predLastSpec : ChangeSpec := { name := "predLast", fn := fun _ => fun
  | [d1, d2, d3] => { results := [.lit (.bool true)], args := [d1, d2, d3] }
  | _ => none }
def predLastRow : OpenClaim := { program := "ytjapgmaldfckkaa", sum := "a1406c3db9cdfc8b29c7b2c4921475f2c6dbde76d6bf6d9e982d67fe961d717d", func := "sibyl/sibyllaw05.PredLast", spec := "predLast", unfollowed := true, recurses := true, apart := false }
def PredLastSaid : Prop := predLastRow.holds Try.pinned (OpenSpec.ofChange predLastSpec)

/-- ITS FALSE NEIGHBOUR: 'it returns false'. Refute it at one input. -/
def predLastWrong : ChangeSpec := { name := "predLast", fn := fun _ => fun
  | [d1, d2, d3] => { results := [.lit (.bool false)], args := [d1, d2, d3] }
  | _ => none }
def PredLastWrongFalsely : Prop := predLastRow.holds Try.pinned (OpenSpec.ofChange predLastWrong)

/-- 'sibyllaw05.PredSigns': WHATEVER THE INPUT: true; the input reads as it did. -/
def predSignsSpec : ChangeSpec := { name := "predSigns", fn := fun _ => fun
  | [d1, d2, d3] => { results := [.lit (.bool true)], args := [d1, d2, d3] }
  | _ => none }
def predSignsRow : OpenClaim := { program := "ytjapgmaldfckkaa", sum := "a1406c3db9cdfc8b29c7b2c4921475f2c6dbde76d6bf6d9e982d67fe961d717d", func := "sibyl/sibyllaw05.PredSigns", spec := "predSigns", unfollowed := true, recurses := true, apart := false }
def PredSignsSaid : Prop := predSignsRow.holds Try.pinned (OpenSpec.ofChange predSignsSpec)

/-- ITS FALSE NEIGHBOUR: 'it returns false'. Refute it at one input. -/
def predSignsWrong : ChangeSpec := { name := "predSigns", fn := fun _ => fun
  | [d1, d2, d3] => { results := [.lit (.bool false)], args := [d1, d2, d3] }
  | _ => none }
def PredSignsWrongFalsely : Prop := predSignsRow.holds Try.pinned (OpenSpec.ofChange predSignsWrong)

/-- 'sibyllaw05.PredCounts': WHATEVER THE INPUT: true; the input reads as it did. -/
def predCountsSpec : ChangeSpec := { name := "predCounts", fn := fun _ => fun
  | [d1, d2, d3] => { results := [.lit (.bool true)], args := [d1, d2, d3] }
  | _ => none }
def predCountsRow : OpenClaim := { program := "ytjapgmaldfckkaa", sum := "a1406c3db9cdfc8b29c7b2c4921475f2c6dbde76d6bf6d9e982d67fe961d717d", func := "sibyl/sibyllaw05.PredCounts", spec := "predCounts", unfollowed := true, recurses := true, apart := false }
def PredCountsSaid : Prop := predCountsRow.holds Try.pinned (OpenSpec.ofChange predCountsSpec)

/-- ITS FALSE NEIGHBOUR: 'it returns false'. Refute it at one input. -/
def predCountsWrong : ChangeSpec := { name := "predCounts", fn := fun _ => fun
  | [d1, d2, d3] => { results := [.lit (.bool false)], args := [d1, d2, d3] }
  | _ => none }
def PredCountsWrongFalsely : Prop := predCountsRow.holds Try.pinned (OpenSpec.ofChange predCountsWrong)

/-- 'sibyllaw05.PredNever': WHATEVER THE INPUT: true; the input reads as it did. -/
def predNeverSpec : ChangeSpec := { name := "predNever", fn := fun _ => fun
  | [d1, d2, d3] => { results := [.lit (.bool true)], args := [d1, d2, d3] }
  | _ => none }
def predNeverRow : OpenClaim := { program := "ytjapgmaldfckkaa", sum := "a1406c3db9cdfc8b29c7b2c4921475f2c6dbde76d6bf6d9e982d67fe961d717d", func := "sibyl/sibyllaw05.PredNever", spec := "predNever", unfollowed := true, recurses := true, apart := false }
def PredNeverSaid : Prop := predNeverRow.holds Try.pinned (OpenSpec.ofChange predNeverSpec)

/-- ITS FALSE NEIGHBOUR: 'it returns false'. Refute it at one input. -/
def predNeverWrong : ChangeSpec := { name := "predNever", fn := fun _ => fun
  | [d1, d2, d3] => { results := [.lit (.bool false)], args := [d1, d2, d3] }
  | _ => none }
def PredNeverWrongFalsely : Prop := predNeverRow.holds Try.pinned (OpenSpec.ofChange predNeverWrong)

/-- 'sibyllaw05.PredHolds': WHATEVER THE INPUT: true; the input reads as it did. -/
def predHoldsSpec : ChangeSpec := { name := "predHolds", fn := fun _ => fun
  | [d1, d2, d3] => { results := [.lit (.bool true)], args := [d1, d2, d3] }
  | _ => none }
def predHoldsRow : OpenClaim := { program := "ytjapgmaldfckkaa", sum := "a1406c3db9cdfc8b29c7b2c4921475f2c6dbde76d6bf6d9e982d67fe961d717d", func := "sibyl/sibyllaw05.PredHolds", spec := "predHolds", unfollowed := true, recurses := true, apart := false }
def PredHoldsSaid : Prop := predHoldsRow.holds Try.pinned (OpenSpec.ofChange predHoldsSpec)

/-- ITS FALSE NEIGHBOUR: 'it returns false'. Refute it at one input. -/
def predHoldsWrong : ChangeSpec := { name := "predHolds", fn := fun _ => fun
  | [d1, d2, d3] => { results := [.lit (.bool false)], args := [d1, d2, d3] }
  | _ => none }
def PredHoldsWrongFalsely : Prop := predHoldsRow.holds Try.pinned (OpenSpec.ofChange predHoldsWrong)

/- THE SECOND FORM. 'bulk': how many values and letters a reading holds, each counted each time it is reached (what is shared counts as often as it is met; a slice's spare places count too). A statement '..UptoSaid' is the law's where the arguments, and the package variables that the reading takes, are together of bulk at most 1048576: NARROWER than '..Said'. Prove '..Said' where nothing that the law and all that it calls make is longer than what came in: it says more and counts as full. Else prove '..UptoSaid'. A law counts once. -/
mutual
def uptoBulk {H : Type} : DataW H → Nat
  | .lit (.string bytes) => bytes.length + 1
  | .lit _ => 1
  | .nil => 1
  | .ptr d => uptoBulk d + 1
  | .slice elems spare => uptoBulkAll elems + uptoBulkAll spare + 1
  | .agg parts => uptoBulkAll parts + 1
  | .iface _ d => uptoBulk d + 1
  | .map entries => uptoBulkEntries entries + 1
  | .held _ => 1
def uptoBulkAll {H : Type} : List (DataW H) → Nat
  | [] => 0
  | d :: r => uptoBulk d + uptoBulkAll r
def uptoBulkEntries {H : Type} : List (Lit × DataW H) → Nat
  | [] => 0
  | x :: r => uptoBulkEntry x + uptoBulkEntries r
def uptoBulkEntry {H : Type} : Lit × DataW H → Nat
  | (.string bytes, d) => bytes.length + uptoBulk d + 1
  | (_, d) => uptoBulk d + 1
 end
def uptoSmall : (H : Type) → List (DataW H) → Bool := fun _ ds => decide (uptoBulkAll ds ≤ 1048576)
def OpenSpec.upto (s : _root_.Go.ChangeSpec) : _root_.Go.OpenSpec := { _root_.Go.OpenSpec.ofChange s with cond := some uptoSmall }

/-- 'sibyllaw05.PredLast', WHERE WHAT IT READS IS OF BULK AT MOST 1048576: true; the input reads as it did. -/
def predLastUptoRow : OpenClaim := { program := "ytjapgmaldfckkaa", sum := "a1406c3db9cdfc8b29c7b2c4921475f2c6dbde76d6bf6d9e982d67fe961d717d", func := "sibyl/sibyllaw05.PredLast", spec := "predLast", unfollowed := true, recurses := true, apart := false, narrowed := true }
def PredLastUptoSaid : Prop := predLastUptoRow.holds Try.pinned (OpenSpec.upto predLastSpec)

/-- 'sibyllaw05.PredSigns', WHERE WHAT IT READS IS OF BULK AT MOST 1048576: true; the input reads as it did. -/
def predSignsUptoRow : OpenClaim := { program := "ytjapgmaldfckkaa", sum := "a1406c3db9cdfc8b29c7b2c4921475f2c6dbde76d6bf6d9e982d67fe961d717d", func := "sibyl/sibyllaw05.PredSigns", spec := "predSigns", unfollowed := true, recurses := true, apart := false, narrowed := true }
def PredSignsUptoSaid : Prop := predSignsUptoRow.holds Try.pinned (OpenSpec.upto predSignsSpec)

/-- 'sibyllaw05.PredCounts', WHERE WHAT IT READS IS OF BULK AT MOST 1048576: true; the input reads as it did. -/
def predCountsUptoRow : OpenClaim := { program := "ytjapgmaldfckkaa", sum := "a1406c3db9cdfc8b29c7b2c4921475f2c6dbde76d6bf6d9e982d67fe961d717d", func := "sibyl/sibyllaw05.PredCounts", spec := "predCounts", unfollowed := true, recurses := true, apart := false, narrowed := true }
def PredCountsUptoSaid : Prop := predCountsUptoRow.holds Try.pinned (OpenSpec.upto predCountsSpec)

/-- 'sibyllaw05.PredNever', WHERE WHAT IT READS IS OF BULK AT MOST 1048576: true; the input reads as it did. -/
def predNeverUptoRow : OpenClaim := { program := "ytjapgmaldfckkaa", sum := "a1406c3db9cdfc8b29c7b2c4921475f2c6dbde76d6bf6d9e982d67fe961d717d", func := "sibyl/sibyllaw05.PredNever", spec := "predNever", unfollowed := true, recurses := true, apart := false, narrowed := true }
def PredNeverUptoSaid : Prop := predNeverUptoRow.holds Try.pinned (OpenSpec.upto predNeverSpec)

/-- 'sibyllaw05.PredHolds', WHERE WHAT IT READS IS OF BULK AT MOST 1048576: true; the input reads as it did. -/
def predHoldsUptoRow : OpenClaim := { program := "ytjapgmaldfckkaa", sum := "a1406c3db9cdfc8b29c7b2c4921475f2c6dbde76d6bf6d9e982d67fe961d717d", func := "sibyl/sibyllaw05.PredHolds", spec := "predHolds", unfollowed := true, recurses := true, apart := false, narrowed := true }
def PredHoldsUptoSaid : Prop := predHoldsUptoRow.holds Try.pinned (OpenSpec.upto predHoldsSpec)

end Rows
end Go.Proofs.Ytjapgmaldfckkaa
