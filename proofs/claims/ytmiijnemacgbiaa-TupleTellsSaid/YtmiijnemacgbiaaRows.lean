/-
  No cell of these rows narrows 'for every input' (looked for: loops, veiled, ifaces, maps, wideKeys, modest, calm, conditions, laid).
  DERIVED. THE GIVEN ROWS OF THIS SEAT. 5 by the template 'for every input the law returns true; each argument reads behind the call as it read before'; 0 by the template 'total and deterministic' (their statements: YtmiijnemacgbiaaTotals.lean).
  GIVEN WITH THE SEED: the statements are not yours to turn. If you find one false, say at which input.
  Laid BY PROGRAM, IN A SANDBOX (cutbox-rows.mjs): the forced cells as the released guide's own fill.sh prints them over the translation 1c3b997cc7d366a6… (all of the seat's roots in one cut). By AI agents, Wed Nov 11 2026. No macro, syntax, notation, axiom, sorry.
-/
import Derived.Test.YtmiijnemacgbiaaChecked
import GoSem.Claim
import GoSem.ClaimJoined
import GoSem.ClaimMapViews
import Derived.JoinedTies
import Derived.KernelRfl
namespace Go.Proofs.Ytmiijnemacgbiaa
/- THE CELL 'sum', in the pinned program and in every row, IS THE sha256 OF THE DUMP (.gsa) THAT YtmiijnemacgbiaaProg.lean LOADS. Nothing in Lean hashes anything: it is a label: what it is worth is what the hold of that sum in a sandbox is worth. -/
noncomputable def Try.pinned : Pinned := { name := "ytmiijnemacgbiaa", sum := "1c3b997cc7d366a6a5e9f6b9f1b191629e43578a948c7ff884f75bb0dd6fd3fc", checked := Try.checked }
namespace Rows
def none {H : Type} : Left H := { results := [], args := [] }

/-- 'sibyllaw06.TupleOrder': WHATEVER THE INPUT: true; the input reads as it did. -/
def tupleOrderSpec : ChangeSpec := { name := "tupleOrder", fn := fun _ => fun
  | [d1, d2, d3] => { results := [.lit (.bool true)], args := [d1, d2, d3] }
  | _ => none }
def tupleOrderRow : OpenClaim := { program := "ytmiijnemacgbiaa", sum := "1c3b997cc7d366a6a5e9f6b9f1b191629e43578a948c7ff884f75bb0dd6fd3fc", func := "sibyl/sibyllaw06.TupleOrder", spec := "tupleOrder", unfollowed := true, recurses := true, apart := false }
def TupleOrderSaid : Prop := tupleOrderRow.holds Try.pinned (OpenSpec.ofChange tupleOrderSpec)

/-- ITS FALSE NEIGHBOUR: 'it returns false'. Refute it at one input. -/
def tupleOrderWrong : ChangeSpec := { name := "tupleOrder", fn := fun _ => fun
  | [d1, d2, d3] => { results := [.lit (.bool false)], args := [d1, d2, d3] }
  | _ => none }
def TupleOrderWrongFalsely : Prop := tupleOrderRow.holds Try.pinned (OpenSpec.ofChange tupleOrderWrong)

/-- 'sibyllaw06.TupleOrdered': WHATEVER THE INPUT: true; the input reads as it did. -/
def tupleOrderedSpec : ChangeSpec := { name := "tupleOrdered", fn := fun _ => fun
  | [d] => { results := [.lit (.bool true)], args := [d] }
  | _ => none }
def tupleOrderedRow : OpenClaim := { program := "ytmiijnemacgbiaa", sum := "1c3b997cc7d366a6a5e9f6b9f1b191629e43578a948c7ff884f75bb0dd6fd3fc", func := "sibyl/sibyllaw06.TupleOrdered", spec := "tupleOrdered", unfollowed := true, recurses := true, apart := false }
def TupleOrderedSaid : Prop := tupleOrderedRow.holds Try.pinned (OpenSpec.ofChange tupleOrderedSpec)

/-- ITS FALSE NEIGHBOUR: 'it returns false'. Refute it at one input. -/
def tupleOrderedWrong : ChangeSpec := { name := "tupleOrdered", fn := fun _ => fun
  | [d] => { results := [.lit (.bool false)], args := [d] }
  | _ => none }
def TupleOrderedWrongFalsely : Prop := tupleOrderedRow.holds Try.pinned (OpenSpec.ofChange tupleOrderedWrong)

/-- 'sibyllaw06.TupleSorts': WHATEVER THE INPUT: true; the input reads as it did. -/
def tupleSortsSpec : ChangeSpec := { name := "tupleSorts", fn := fun _ => fun
  | [d] => { results := [.lit (.bool true)], args := [d] }
  | _ => none }
def tupleSortsRow : OpenClaim := { program := "ytmiijnemacgbiaa", sum := "1c3b997cc7d366a6a5e9f6b9f1b191629e43578a948c7ff884f75bb0dd6fd3fc", func := "sibyl/sibyllaw06.TupleSorts", spec := "tupleSorts", unfollowed := true, recurses := true, apart := false }
def TupleSortsSaid : Prop := tupleSortsRow.holds Try.pinned (OpenSpec.ofChange tupleSortsSpec)

/-- ITS FALSE NEIGHBOUR: 'it returns false'. Refute it at one input. -/
def tupleSortsWrong : ChangeSpec := { name := "tupleSorts", fn := fun _ => fun
  | [d] => { results := [.lit (.bool false)], args := [d] }
  | _ => none }
def TupleSortsWrongFalsely : Prop := tupleSortsRow.holds Try.pinned (OpenSpec.ofChange tupleSortsWrong)

/-- 'sibyllaw06.TupleTells': WHATEVER THE INPUT: true; the input reads as it did. -/
def tupleTellsSpec : ChangeSpec := { name := "tupleTells", fn := fun _ => fun
  | [d] => { results := [.lit (.bool true)], args := [d] }
  | _ => none }
def tupleTellsRow : OpenClaim := { program := "ytmiijnemacgbiaa", sum := "1c3b997cc7d366a6a5e9f6b9f1b191629e43578a948c7ff884f75bb0dd6fd3fc", func := "sibyl/sibyllaw06.TupleTells", spec := "tupleTells", unfollowed := true, recurses := true, apart := false }
def TupleTellsSaid : Prop := tupleTellsRow.holds Try.pinned (OpenSpec.ofChange tupleTellsSpec)

/-- ITS FALSE NEIGHBOUR: 'it returns false'. Refute it at one input. -/
def tupleTellsWrong : ChangeSpec := { name := "tupleTells", fn := fun _ => fun
  | [d] => { results := [.lit (.bool false)], args := [d] }
  | _ => none }
def TupleTellsWrongFalsely : Prop := tupleTellsRow.holds Try.pinned (OpenSpec.ofChange tupleTellsWrong)

/-- 'sibyllaw06.TupleTurned': WHATEVER THE INPUT: true; the input reads as it did. -/
def tupleTurnedSpec : ChangeSpec := { name := "tupleTurned", fn := fun _ => fun
  | [d] => { results := [.lit (.bool true)], args := [d] }
  | _ => none }
def tupleTurnedRow : OpenClaim := { program := "ytmiijnemacgbiaa", sum := "1c3b997cc7d366a6a5e9f6b9f1b191629e43578a948c7ff884f75bb0dd6fd3fc", func := "sibyl/sibyllaw06.TupleTurned", spec := "tupleTurned", unfollowed := true, recurses := true, apart := false }
def TupleTurnedSaid : Prop := tupleTurnedRow.holds Try.pinned (OpenSpec.ofChange tupleTurnedSpec)

/-- ITS FALSE NEIGHBOUR: 'it returns false'. Refute it at one input. -/
def tupleTurnedWrong : ChangeSpec := { name := "tupleTurned", fn := fun _ => fun
  | [d] => { results := [.lit (.bool false)], args := [d] }
  | _ => none }
def TupleTurnedWrongFalsely : Prop := tupleTurnedRow.holds Try.pinned (OpenSpec.ofChange tupleTurnedWrong)

/- THE SECOND FORM. 'bulk': how many values and letters a reading holds, each counted each time it is reached (what is shared counts as often as it is met; a slice's spare places count too). A statement '..UptoSaid' is the law's where the arguments, and the package variables that the reading takes, are together of bulk at most 1048576: NARROWER than '..Said'. Prove '..Said' where nothing that the law and all that it calls make is longer than what came in: it says more and counts as full. Else prove '..UptoSaid'. A law counts once. -/
mutual
def uptoBulk {H : Type} : DataW H → Nat
  | .lit (.string bytes) => bytes.length + 1
  | .lit _ => 1
  | .nil => 1
  | .ptr d => uptoBulk d + 1
  | .slice elems spare => uptoBulkAll elems + uptoBulkAll spare + 1
  | .agg parts => uptoBulkAll parts + 1
  | .iface _ d => uptoBulk d + 1
  | .map entries => uptoBulkEntries entries + 1
  | .held _ => 1
def uptoBulkAll {H : Type} : List (DataW H) → Nat
  | [] => 0
  | d :: r => uptoBulk d + uptoBulkAll r
def uptoBulkEntries {H : Type} : List (Lit × DataW H) → Nat
  | [] => 0
  | x :: r => uptoBulkEntry x + uptoBulkEntries r
def uptoBulkEntry {H : Type} : Lit × DataW H → Nat
  | (.string bytes, d) => bytes.length + uptoBulk d + 1
  | (_, d) => uptoBulk d + 1
 end
def uptoSmall : (H : Type) → List (DataW H) → Bool := fun _ ds => decide (uptoBulkAll ds ≤ 1048576)
def OpenSpec.upto (s : _root_.Go.ChangeSpec) : _root_.Go.OpenSpec := { _root_.Go.OpenSpec.ofChange s with cond := some uptoSmall }

/-- 'sibyllaw06.TupleOrder', WHERE WHAT IT READS IS OF BULK AT MOST 1048576: true; the input reads as it did. -/
def tupleOrderUptoRow : OpenClaim := { program := "ytmiijnemacgbiaa", sum := "1c3b997cc7d366a6a5e9f6b9f1b191629e43578a948c7ff884f75bb0dd6fd3fc", func := "sibyl/sibyllaw06.TupleOrder", spec := "tupleOrder", unfollowed := true, recurses := true, apart := false, narrowed := true }
def TupleOrderUptoSaid : Prop := tupleOrderUptoRow.holds Try.pinned (OpenSpec.upto tupleOrderSpec)

/-- 'sibyllaw06.TupleOrdered', WHERE WHAT IT READS IS OF BULK AT MOST 1048576: true; the input reads as it did. -/
def tupleOrderedUptoRow : OpenClaim := { program := "ytmiijnemacgbiaa", sum := "1c3b997cc7d366a6a5e9f6b9f1b191629e43578a948c7ff884f75bb0dd6fd3fc", func := "sibyl/sibyllaw06.TupleOrdered", spec := "tupleOrdered", unfollowed := true, recurses := true, apart := false, narrowed := true }
def TupleOrderedUptoSaid : Prop := tupleOrderedUptoRow.holds Try.pinned (OpenSpec.upto tupleOrderedSpec)

/-- 'sibyllaw06.TupleSorts', WHERE WHAT IT READS IS OF BULK AT MOST 1048576: true; the input reads as it did. -/
def tupleSortsUptoRow : OpenClaim := { program := "ytmiijnemacgbiaa", sum := "1c3b997cc7d366a6a5e9f6b9f1b191629e43578a948c7ff884f75bb0dd6fd3fc", func := "sibyl/sibyllaw06.TupleSorts", spec := "tupleSorts", unfollowed := true, recurses := true, apart := false, narrowed := true }
def TupleSortsUptoSaid : Prop := tupleSortsUptoRow.holds Try.pinned (OpenSpec.upto tupleSortsSpec)

/-- 'sibyllaw06.TupleTells', WHERE WHAT IT READS IS OF BULK AT MOST 1048576: true; the input reads as it did. -/
def tupleTellsUptoRow : OpenClaim := { program := "ytmiijnemacgbiaa", sum := "1c3b997cc7d366a6a5e9f6b9f1b191629e43578a948c7ff884f75bb0dd6fd3fc", func := "sibyl/sibyllaw06.TupleTells", spec := "tupleTells", unfollowed := true, recurses := true, apart := false, narrowed := true }
def TupleTellsUptoSaid : Prop := tupleTellsUptoRow.holds Try.pinned (OpenSpec.upto tupleTellsSpec)

/-- 'sibyllaw06.TupleTurned', WHERE WHAT IT READS IS OF BULK AT MOST 1048576: true; the input reads as it did. -/
def tupleTurnedUptoRow : OpenClaim := { program := "ytmiijnemacgbiaa", sum := "1c3b997cc7d366a6a5e9f6b9f1b191629e43578a948c7ff884f75bb0dd6fd3fc", func := "sibyl/sibyllaw06.TupleTurned", spec := "tupleTurned", unfollowed := true, recurses := true, apart := false, narrowed := true }
def TupleTurnedUptoSaid : Prop := tupleTurnedUptoRow.holds Try.pinned (OpenSpec.upto tupleTurnedSpec)

end Rows
end Go.Proofs.Ytmiijnemacgbiaa
