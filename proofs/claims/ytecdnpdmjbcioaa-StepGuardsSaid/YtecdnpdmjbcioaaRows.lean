/-
  No cell of these rows narrows 'for every input' (looked for: loops, veiled, ifaces, maps, wideKeys, modest, calm, conditions, laid).
  DERIVED. THE GIVEN ROWS OF THIS SEAT. 6 by the template 'for every input the law returns true; each argument reads behind the call as it read before'; 0 by the template 'total and deterministic' (their statements: YtecdnpdmjbcioaaTotals.lean).
  GIVEN WITH THE SEED: the statements are not yours to turn. If you find one false, say at which input.
  Laid BY PROGRAM, IN A SANDBOX (cutbox-rows.mjs): the forced cells as the released guide's own fill.sh prints them over the translation da21a4bbaca470fd… (all of the seat's roots in one cut). By AI agents, Wed Nov 11 2026. No macro, syntax, notation, axiom, sorry.
-/
import Derived.Test.YtecdnpdmjbcioaaChecked
import GoSem.Claim
import GoSem.ClaimJoined
import GoSem.ClaimMapViews
import Derived.JoinedTies
import Derived.KernelRfl
namespace Go.Proofs.Ytecdnpdmjbcioaa
/- THE CELL 'sum', in the pinned program and in every row, IS THE sha256 OF THE DUMP (.gsa) THAT YtecdnpdmjbcioaaProg.lean LOADS. Nothing in Lean hashes anything: it is a label: what it is worth is what the hold of that sum in a sandbox is worth. -/
noncomputable def Try.pinned : Pinned := { name := "ytecdnpdmjbcioaa", sum := "da21a4bbaca470fdfb05583fc45d633f64aa988bda97deb7e0fe56c1c5338abe", checked := Try.checked }
namespace Rows
def none {H : Type} : Left H := { results := [], args := [] }

/-- 'sibyllaw08.StepFits': WHATEVER THE INPUT: true; the input reads as it did. -/
def stepFitsSpec : ChangeSpec := { name := "stepFits", fn := fun _ => fun
  | [d1, d2] => { results := [.lit (.bool true)], args := [d1, d2] }
  | _ => none }
def stepFitsRow : OpenClaim := { program := "ytecdnpdmjbcioaa", sum := "da21a4bbaca470fdfb05583fc45d633f64aa988bda97deb7e0fe56c1c5338abe", func := "sibyl/sibyllaw08.StepFits", spec := "stepFits", unfollowed := true, recurses := true, apart := false }
def StepFitsSaid : Prop := stepFitsRow.holds Try.pinned (OpenSpec.ofChange stepFitsSpec)

/-- ITS FALSE NEIGHBOUR: 'it returns false'. Refute it at one input. -/
def stepFitsWrong : ChangeSpec := { name := "stepFits", fn := fun _ => fun
  | [d1, d2] => { results := [.lit (.bool false)], args := [d1, d2] }
  | _ => none }
def StepFitsWrongFalsely : Prop := stepFitsRow.holds Try.pinned (OpenSpec.ofChange stepFitsWrong)

/-- 'sibyllaw08.StepWindow': WHATEVER THE INPUT: true; the input reads as it did. -/
def stepWindowSpec : ChangeSpec := { name := "stepWindow", fn := fun _ => fun
  | [d1, d2, d3] => { results := [.lit (.bool true)], args := [d1, d2, d3] }
  | _ => none }
def stepWindowRow : OpenClaim := { program := "ytecdnpdmjbcioaa", sum := "da21a4bbaca470fdfb05583fc45d633f64aa988bda97deb7e0fe56c1c5338abe", func := "sibyl/sibyllaw08.StepWindow", spec := "stepWindow", unfollowed := true, recurses := true, apart := false }
def StepWindowSaid : Prop := stepWindowRow.holds Try.pinned (OpenSpec.ofChange stepWindowSpec)

/-- ITS FALSE NEIGHBOUR: 'it returns false'. Refute it at one input. -/
def stepWindowWrong : ChangeSpec := { name := "stepWindow", fn := fun _ => fun
  | [d1, d2, d3] => { results := [.lit (.bool false)], args := [d1, d2, d3] }
  | _ => none }
def StepWindowWrongFalsely : Prop := stepWindowRow.holds Try.pinned (OpenSpec.ofChange stepWindowWrong)

/-- 'sibyllaw08.StepGuards': WHATEVER THE INPUT: true; the input reads as it did. -/
def stepGuardsSpec : ChangeSpec := { name := "stepGuards", fn := fun _ => fun
  | [d1, d2, d3] => { results := [.lit (.bool true)], args := [d1, d2, d3] }
  | _ => none }
def stepGuardsRow : OpenClaim := { program := "ytecdnpdmjbcioaa", sum := "da21a4bbaca470fdfb05583fc45d633f64aa988bda97deb7e0fe56c1c5338abe", func := "sibyl/sibyllaw08.StepGuards", spec := "stepGuards", unfollowed := true, recurses := true, apart := false }
def StepGuardsSaid : Prop := stepGuardsRow.holds Try.pinned (OpenSpec.ofChange stepGuardsSpec)

/-- ITS FALSE NEIGHBOUR: 'it returns false'. Refute it at one input. -/
def stepGuardsWrong : ChangeSpec := { name := "stepGuards", fn := fun _ => fun
  | [d1, d2, d3] => { results := [.lit (.bool false)], args := [d1, d2, d3] }
  | _ => none }
def StepGuardsWrongFalsely : Prop := stepGuardsRow.holds Try.pinned (OpenSpec.ofChange stepGuardsWrong)

/-- 'sibyllaw08.StepNear': WHATEVER THE INPUT: true; the input reads as it did. -/
def stepNearSpec : ChangeSpec := { name := "stepNear", fn := fun _ => fun
  | [d1, d2, d3] => { results := [.lit (.bool true)], args := [d1, d2, d3] }
  | _ => none }
def stepNearRow : OpenClaim := { program := "ytecdnpdmjbcioaa", sum := "da21a4bbaca470fdfb05583fc45d633f64aa988bda97deb7e0fe56c1c5338abe", func := "sibyl/sibyllaw08.StepNear", spec := "stepNear", unfollowed := true, recurses := true, apart := false }
def StepNearSaid : Prop := stepNearRow.holds Try.pinned (OpenSpec.ofChange stepNearSpec)

/-- ITS FALSE NEIGHBOUR: 'it returns false'. Refute it at one input. -/
def stepNearWrong : ChangeSpec := { name := "stepNear", fn := fun _ => fun
  | [d1, d2, d3] => { results := [.lit (.bool false)], args := [d1, d2, d3] }
  | _ => none }
def StepNearWrongFalsely : Prop := stepNearRow.holds Try.pinned (OpenSpec.ofChange stepNearWrong)

/-- 'sibyllaw08.StepAny': WHATEVER THE INPUT: true; the input reads as it did. -/
def stepAnySpec : ChangeSpec := { name := "stepAny", fn := fun _ => fun
  | [d1, d2, d3] => { results := [.lit (.bool true)], args := [d1, d2, d3] }
  | _ => none }
def stepAnyRow : OpenClaim := { program := "ytecdnpdmjbcioaa", sum := "da21a4bbaca470fdfb05583fc45d633f64aa988bda97deb7e0fe56c1c5338abe", func := "sibyl/sibyllaw08.StepAny", spec := "stepAny", unfollowed := true, recurses := true, apart := false }
def StepAnySaid : Prop := stepAnyRow.holds Try.pinned (OpenSpec.ofChange stepAnySpec)

/-- ITS FALSE NEIGHBOUR: 'it returns false'. Refute it at one input. -/
def stepAnyWrong : ChangeSpec := { name := "stepAny", fn := fun _ => fun
  | [d1, d2, d3] => { results := [.lit (.bool false)], args := [d1, d2, d3] }
  | _ => none }
def StepAnyWrongFalsely : Prop := stepAnyRow.holds Try.pinned (OpenSpec.ofChange stepAnyWrong)

/-- 'sibyllaw08.StepTells': WHATEVER THE INPUT: true; the input reads as it did. -/
def stepTellsSpec : ChangeSpec := { name := "stepTells", fn := fun _ => fun
  | [d1, d2] => { results := [.lit (.bool true)], args := [d1, d2] }
  | _ => none }
def stepTellsRow : OpenClaim := { program := "ytecdnpdmjbcioaa", sum := "da21a4bbaca470fdfb05583fc45d633f64aa988bda97deb7e0fe56c1c5338abe", func := "sibyl/sibyllaw08.StepTells", spec := "stepTells", unfollowed := true, recurses := true, apart := false }
def StepTellsSaid : Prop := stepTellsRow.holds Try.pinned (OpenSpec.ofChange stepTellsSpec)

/-- ITS FALSE NEIGHBOUR: 'it returns false'. Refute it at one input. -/
def stepTellsWrong : ChangeSpec := { name := "stepTells", fn := fun _ => fun
  | [d1, d2] => { results := [.lit (.bool false)], args := [d1, d2] }
  | _ => none }
def StepTellsWrongFalsely : Prop := stepTellsRow.holds Try.pinned (OpenSpec.ofChange stepTellsWrong)

/- THE SECOND FORM. 'bulk': how many values and letters a reading holds, each counted each time it is reached (what is shared counts as often as it is met; a slice's spare places count too). A statement '..UptoSaid' is the law's where the arguments, and the package variables that the reading takes, are together of bulk at most 1048576: NARROWER than '..Said'. Prove '..Said' where nothing that the law and all that it calls make is longer than what came in: it says more and counts as full. Else prove '..UptoSaid'. A law counts once. -/
mutual
def uptoBulk {H : Type} : DataW H → Nat
  | .lit (.string bytes) => bytes.length + 1
  | .lit _ => 1
  | .nil => 1
  | .ptr d => uptoBulk d + 1
  | .slice elems spare => uptoBulkAll elems + uptoBulkAll spare + 1
  | .agg parts => uptoBulkAll parts + 1
  | .iface _ d => uptoBulk d + 1
  | .map entries => uptoBulkEntries entries + 1
  | .held _ => 1
def uptoBulkAll {H : Type} : List (DataW H) → Nat
  | [] => 0
  | d :: r => uptoBulk d + uptoBulkAll r
def uptoBulkEntries {H : Type} : List (Lit × DataW H) → Nat
  | [] => 0
  | x :: r => uptoBulkEntry x + uptoBulkEntries r
def uptoBulkEntry {H : Type} : Lit × DataW H → Nat
  | (.string bytes, d) => bytes.length + uptoBulk d + 1
  | (_, d) => uptoBulk d + 1
 end
def uptoSmall : (H : Type) → List (DataW H) → Bool := fun _ ds => decide (uptoBulkAll ds ≤ 1048576)
def OpenSpec.upto (s : _root_.Go.ChangeSpec) : _root_.Go.OpenSpec := { _root_.Go.OpenSpec.ofChange s with cond := some uptoSmall }

/-- 'sibyllaw08.StepFits', WHERE WHAT IT READS IS OF BULK AT MOST 1048576: true; the input reads as it did. -/
def stepFitsUptoRow : OpenClaim := { program := "ytecdnpdmjbcioaa", sum := "da21a4bbaca470fdfb05583fc45d633f64aa988bda97deb7e0fe56c1c5338abe", func := "sibyl/sibyllaw08.StepFits", spec := "stepFits", unfollowed := true, recurses := true, apart := false, narrowed := true }
def StepFitsUptoSaid : Prop := stepFitsUptoRow.holds Try.pinned (OpenSpec.upto stepFitsSpec)

/-- 'sibyllaw08.StepWindow', WHERE WHAT IT READS IS OF BULK AT MOST 1048576: true; the input reads as it did. -/
def stepWindowUptoRow : OpenClaim := { program := "ytecdnpdmjbcioaa", sum := "da21a4bbaca470fdfb05583fc45d633f64aa988bda97deb7e0fe56c1c5338abe", func := "sibyl/sibyllaw08.StepWindow", spec := "stepWindow", unfollowed := true, recurses := true, apart := false, narrowed := true }
def StepWindowUptoSaid : Prop := stepWindowUptoRow.holds Try.pinned (OpenSpec.upto stepWindowSpec)

/-- 'sibyllaw08.StepGuards', WHERE WHAT IT READS IS OF BULK AT MOST 1048576: true; the input reads as it did. -/
def stepGuardsUptoRow : OpenClaim := { program := "ytecdnpdmjbcioaa", sum := "da21a4bbaca470fdfb05583fc45d633f64aa988bda97deb7e0fe56c1c5338abe", func := "sibyl/sibyllaw08.StepGuards", spec := "stepGuards", unfollowed := true, recurses := true, apart := false, narrowed := true }
def StepGuardsUptoSaid : Prop := stepGuardsUptoRow.holds Try.pinned (OpenSpec.upto stepGuardsSpec)

/-- 'sibyllaw08.StepNear', WHERE WHAT IT READS IS OF BULK AT MOST 1048576: true; the input reads as it did. -/
def stepNearUptoRow : OpenClaim := { program := "ytecdnpdmjbcioaa", sum := "da21a4bbaca470fdfb05583fc45d633f64aa988bda97deb7e0fe56c1c5338abe", func := "sibyl/sibyllaw08.StepNear", spec := "stepNear", unfollowed := true, recurses := true, apart := false, narrowed := true }
def StepNearUptoSaid : Prop := stepNearUptoRow.holds Try.pinned (OpenSpec.upto stepNearSpec)

/-- 'sibyllaw08.StepAny', WHERE WHAT IT READS IS OF BULK AT MOST 1048576: true; the input reads as it did. -/
def stepAnyUptoRow : OpenClaim := { program := "ytecdnpdmjbcioaa", sum := "da21a4bbaca470fdfb05583fc45d633f64aa988bda97deb7e0fe56c1c5338abe", func := "sibyl/sibyllaw08.StepAny", spec := "stepAny", unfollowed := true, recurses := true, apart := false, narrowed := true }
def StepAnyUptoSaid : Prop := stepAnyUptoRow.holds Try.pinned (OpenSpec.upto stepAnySpec)

/-- 'sibyllaw08.StepTells', WHERE WHAT IT READS IS OF BULK AT MOST 1048576: true; the input reads as it did. -/
def stepTellsUptoRow : OpenClaim := { program := "ytecdnpdmjbcioaa", sum := "da21a4bbaca470fdfb05583fc45d633f64aa988bda97deb7e0fe56c1c5338abe", func := "sibyl/sibyllaw08.StepTells", spec := "stepTells", unfollowed := true, recurses := true, apart := false, narrowed := true }
def StepTellsUptoSaid : Prop := stepTellsUptoRow.holds Try.pinned (OpenSpec.upto stepTellsSpec)

end Rows
end Go.Proofs.Ytecdnpdmjbcioaa
