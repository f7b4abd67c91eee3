/-
  No cell of these rows narrows 'for every input' (looked for: loops, veiled, ifaces, maps, wideKeys, modest, calm, conditions, laid).
  DERIVED. THE GIVEN ROWS OF THIS SEAT. 6 by the template 'for every input the law returns true; each argument reads behind the call as it read before'; 0 by the template 'total and deterministic' (their statements: YtpklpomajioneaaTotals.lean).
  GIVEN WITH THE SEED: the statements are not yours to turn. If you find one false, say at which input.
  Laid BY PROGRAM, IN A SANDBOX (cutbox-rows.mjs): the forced cells as the released guide's own fill.sh prints them over the translation 08c767fe87321d0d… (all of the seat's roots in one cut). By AI agents, Wed Nov 11 2026. No macro, syntax, notation, axiom, sorry.
-/
import Derived.Test.YtpklpomajioneaaChecked
import GoSem.Claim
import GoSem.ClaimJoined
import GoSem.ClaimMapViews
import Derived.JoinedTies
import Derived.KernelRfl
namespace Go.Proofs.Ytpklpomajioneaa
/- THE CELL 'sum', in the pinned program and in every row, IS THE sha256 OF THE DUMP (.gsa) THAT YtpklpomajioneaaProg.lean LOADS. Nothing in Lean hashes anything: it is a label: what it is worth is what the hold of that sum in a sandbox is worth. -/
noncomputable def Try.pinned : Pinned := { name := "ytpklpomajioneaa", sum := "08c767fe87321d0db6da9b2a871c906ebd4019898848bc518bc259e123e8afe7", checked := Try.checked }
namespace Rows
def none {H : Type} : Left H := { results := [], args := [] }

/-- 'sibyllaw12.EpochSafe': WHATEVER THE INPUT: true; the input reads as it did. -/
def epochSafeSpec : ChangeSpec := { name := "epochSafe", fn := fun _ => fun
  | [d1, d2] => { results := [.lit (.bool true)], args := [d1, d2] }
  | _ => none }
def epochSafeRow : OpenClaim := { program := "ytpklpomajioneaa", sum := "08c767fe87321d0db6da9b2a871c906ebd4019898848bc518bc259e123e8afe7", func := "sibyl/sibyllaw12.EpochSafe", spec := "epochSafe", unfollowed := true, recurses := true, apart := false }
def EpochSafeSaid : Prop := epochSafeRow.holds Try.pinned (OpenSpec.ofChange epochSafeSpec)

/-- ITS FALSE NEIGHBOUR: 'it returns false'. Refute it at one input. -/
def epochSafeWrong : ChangeSpec := { name := "epochSafe", fn := fun _ => fun
  | [d1, d2] => { results := [.lit (.bool false)], args := [d1, d2] }
  | _ => none }
def EpochSafeWrongFalsely : Prop := epochSafeRow.holds Try.pinned (OpenSpec.ofChange epochSafeWrong)

/-- 'sibyllaw12.EpochRipe': WHATEVER THE INPUT: true; the input reads as it did. -/
def epochRipeSpec : ChangeSpec := { name := "epochRipe", fn := fun _ => fun
  | [d1, d2] => { results := [.lit (.bool true)], args := [d1, d2] }
  | _ => none }
def epochRipeRow : OpenClaim := { program := "ytpklpomajioneaa", sum := "08c767fe87321d0db6da9b2a871c906ebd4019898848bc518bc259e123e8afe7", func := "sibyl/sibyllaw12.EpochRipe", spec := "epochRipe", unfollowed := true, recurses := true, apart := false }
def EpochRipeSaid : Prop := epochRipeRow.holds Try.pinned (OpenSpec.ofChange epochRipeSpec)

/-- ITS FALSE NEIGHBOUR: 'it returns false'. Refute it at one input. -/
def epochRipeWrong : ChangeSpec := { name := "epochRipe", fn := fun _ => fun
  | [d1, d2] => { results := [.lit (.bool false)], args := [d1, d2] }
  | _ => none }
def EpochRipeWrongFalsely : Prop := epochRipeRow.holds Try.pinned (OpenSpec.ofChange epochRipeWrong)

/-- 'sibyllaw12.EpochWaits': WHATEVER THE INPUT: true; the input reads as it did. -/
def epochWaitsSpec : ChangeSpec := { name := "epochWaits", fn := fun _ => fun
  | [d1, d2, d3] => { results := [.lit (.bool true)], args := [d1, d2, d3] }
  | _ => none }
def epochWaitsRow : OpenClaim := { program := "ytpklpomajioneaa", sum := "08c767fe87321d0db6da9b2a871c906ebd4019898848bc518bc259e123e8afe7", func := "sibyl/sibyllaw12.EpochWaits", spec := "epochWaits", unfollowed := true, recurses := true, apart := false }
def EpochWaitsSaid : Prop := epochWaitsRow.holds Try.pinned (OpenSpec.ofChange epochWaitsSpec)

/-- ITS FALSE NEIGHBOUR: 'it returns false'. Refute it at one input. -/
def epochWaitsWrong : ChangeSpec := { name := "epochWaits", fn := fun _ => fun
  | [d1, d2, d3] => { results := [.lit (.bool false)], args := [d1, d2, d3] }
  | _ => none }
def EpochWaitsWrongFalsely : Prop := epochWaitsRow.holds Try.pinned (OpenSpec.ofChange epochWaitsWrong)

/-- 'sibyllaw12.EpochEach': WHATEVER THE INPUT: true; the input reads as it did. -/
def epochEachSpec : ChangeSpec := { name := "epochEach", fn := fun _ => fun
  | [d1, d2] => { results := [.lit (.bool true)], args := [d1, d2] }
  | _ => none }
def epochEachRow : OpenClaim := { program := "ytpklpomajioneaa", sum := "08c767fe87321d0db6da9b2a871c906ebd4019898848bc518bc259e123e8afe7", func := "sibyl/sibyllaw12.EpochEach", spec := "epochEach", unfollowed := true, recurses := true, apart := false }
def EpochEachSaid : Prop := epochEachRow.holds Try.pinned (OpenSpec.ofChange epochEachSpec)

/-- ITS FALSE NEIGHBOUR: 'it returns false'. Refute it at one input. -/
def epochEachWrong : ChangeSpec := { name := "epochEach", fn := fun _ => fun
  | [d1, d2] => { results := [.lit (.bool false)], args := [d1, d2] }
  | _ => none }
def EpochEachWrongFalsely : Prop := epochEachRow.holds Try.pinned (OpenSpec.ofChange epochEachWrong)

/-- 'sibyllaw12.EpochPlays': WHATEVER THE INPUT: true; the input reads as it did. -/
def epochPlaysSpec : ChangeSpec := { name := "epochPlays", fn := fun _ => fun
  | [d1, d2] => { results := [.lit (.bool true)], args := [d1, d2] }
  | _ => none }
def epochPlaysRow : OpenClaim := { program := "ytpklpomajioneaa", sum := "08c767fe87321d0db6da9b2a871c906ebd4019898848bc518bc259e123e8afe7", func := "sibyl/sibyllaw12.EpochPlays", spec := "epochPlays", unfollowed := true, recurses := true, apart := false }
def EpochPlaysSaid : Prop := epochPlaysRow.holds Try.pinned (OpenSpec.ofChange epochPlaysSpec)

/-- ITS FALSE NEIGHBOUR: 'it returns false'. Refute it at one input. -/
def epochPlaysWrong : ChangeSpec := { name := "epochPlays", fn := fun _ => fun
  | [d1, d2] => { results := [.lit (.bool false)], args := [d1, d2] }
  | _ => none }
def EpochPlaysWrongFalsely : Prop := epochPlaysRow.holds Try.pinned (OpenSpec.ofChange epochPlaysWrong)

/-- 'sibyllaw12.EpochNil': WHATEVER THE INPUT: true; the input reads as it did. -/
def epochNilSpec : ChangeSpec := { name := "epochNil", fn := fun _ => fun
  | [d1, d2] => { results := [.lit (.bool true)], args := [d1, d2] }
  | _ => none }
def epochNilRow : OpenClaim := { program := "ytpklpomajioneaa", sum := "08c767fe87321d0db6da9b2a871c906ebd4019898848bc518bc259e123e8afe7", func := "sibyl/sibyllaw12.EpochNil", spec := "epochNil", unfollowed := true, recurses := true, apart := false }
def EpochNilSaid : Prop := epochNilRow.holds Try.pinned (OpenSpec.ofChange epochNilSpec)

/-- ITS FALSE NEIGHBOUR: 'it returns false'. Refute it at one input. -/
def epochNilWrong : ChangeSpec := { name := "epochNil", fn := fun _ => fun
  | [d1, d2] => { results := [.lit (.bool false)], args := [d1, d2] }
  | _ => none }
def EpochNilWrongFalsely : Prop := epochNilRow.holds Try.pinned (OpenSpec.ofChange epochNilWrong)

/- THE SECOND FORM. 'bulk': how many values and letters a reading holds, each counted each time it is reached (what is shared counts as often as it is met; a slice's spare places count too). A statement '..UptoSaid' is the law's where the arguments, and the package variables that the reading takes, are together of bulk at most 1048576: NARROWER than '..Said'. Prove '..Said' where nothing that the law and all that it calls make is longer than what came in: it says more and counts as full. Else prove '..UptoSaid'. A law counts once. -/
mutual
def uptoBulk {H : Type} : DataW H → Nat
  | .lit (.string bytes) => bytes.length + 1
  | .lit _ => 1
  | .nil => 1
  | .ptr d => uptoBulk d + 1
  | .slice elems spare => uptoBulkAll elems + uptoBulkAll spare + 1
  | .agg parts => uptoBulkAll parts + 1
  | .iface _ d => uptoBulk d + 1
  | .map entries => uptoBulkEntries entries + 1
  | .held _ => 1
def uptoBulkAll {H : Type} : List (DataW H) → Nat
  | [] => 0
  | d :: r => uptoBulk d + uptoBulkAll r
def uptoBulkEntries {H : Type} : List (Lit × DataW H) → Nat
  | [] => 0
  | x :: r => uptoBulkEntry x + uptoBulkEntries r
def uptoBulkEntry {H : Type} : Lit × DataW H → Nat
  | (.string bytes, d) => bytes.length + uptoBulk d + 1
  | (_, d) => uptoBulk d + 1
 end
def uptoSmall : (H : Type) → List (DataW H) → Bool := fun _ ds => decide (uptoBulkAll ds ≤ 1048576)
def OpenSpec.upto (s : _root_.Go.ChangeSpec) : _root_.Go.OpenSpec := { _root_.Go.OpenSpec.ofChange s with cond := some uptoSmall }

/-- 'sibyllaw12.EpochSafe', WHERE WHAT IT READS IS OF BULK AT MOST 1048576: true; the input reads as it did. -/
def epochSafeUptoRow : OpenClaim := { program := "ytpklpomajioneaa", sum := "08c767fe87321d0db6da9b2a871c906ebd4019898848bc518bc259e123e8afe7", func := "sibyl/sibyllaw12.EpochSafe", spec := "epochSafe", unfollowed := true, recurses := true, apart := false, narrowed := true }
def EpochSafeUptoSaid : Prop := epochSafeUptoRow.holds Try.pinned (OpenSpec.upto epochSafeSpec)

/-- 'sibyllaw12.EpochRipe', WHERE WHAT IT READS IS OF BULK AT MOST 1048576: true; the input reads as it did. -/
def epochRipeUptoRow : OpenClaim := { program := "ytpklpomajioneaa", sum := "08c767fe87321d0db6da9b2a871c906ebd4019898848bc518bc259e123e8afe7", func := "sibyl/sibyllaw12.EpochRipe", spec := "epochRipe", unfollowed := true, recurses := true, apart := false, narrowed := true }
def EpochRipeUptoSaid : Prop := epochRipeUptoRow.holds Try.pinned (OpenSpec.upto epochRipeSpec)

/-- 'sibyllaw12.EpochWaits', WHERE WHAT IT READS IS OF BULK AT MOST 1048576: true; the input reads as it did. -/
def epochWaitsUptoRow : OpenClaim := { program := "ytpklpomajioneaa", sum := "08c767fe87321d0db6da9b2a871c906ebd4019898848bc518bc259e123e8afe7", func := "sibyl/sibyllaw12.EpochWaits", spec := "epochWaits", unfollowed := true, recurses := true, apart := false, narrowed := true }
def EpochWaitsUptoSaid : Prop := epochWaitsUptoRow.holds Try.pinned (OpenSpec.upto epochWaitsSpec)

/-- 'sibyllaw12.EpochEach', WHERE WHAT IT READS IS OF BULK AT MOST 1048576: true; the input reads as it did. -/
def epochEachUptoRow : OpenClaim := { program := "ytpklpomajioneaa", sum := "08c767fe87321d0db6da9b2a871c906ebd4019898848bc518bc259e123e8afe7", func := "sibyl/sibyllaw12.EpochEach", spec := "epochEach", unfollowed := true, recurses := true, apart := false, narrowed := true }
def EpochEachUptoSaid : Prop := epochEachUptoRow.holds Try.pinned (OpenSpec.upto epochEachSpec)

/-- 'sibyllaw12.EpochPlays', WHERE WHAT IT READS IS OF BULK AT MOST 1048576: true; the input reads as it did. -/
def epochPlaysUptoRow : OpenClaim := { program := "ytpklpomajioneaa", sum := "08c767fe87321d0db6da9b2a871c906ebd4019898848bc518bc259e123e8afe7", func := "sibyl/sibyllaw12.EpochPlays", spec := "epochPlays", unfollowed := true, recurses := true, apart := false, narrowed := true }
def EpochPlaysUptoSaid : Prop := epochPlaysUptoRow.holds Try.pinned (OpenSpec.upto epochPlaysSpec)

/-- 'sibyllaw12.EpochNil', WHERE WHAT IT READS IS OF BULK AT MOST 1048576: true; the input reads as it did. -/
def epochNilUptoRow : OpenClaim := { program := "ytpklpomajioneaa", sum := "08c767fe87321d0db6da9b2a871c906ebd4019898848bc518bc259e123e8afe7", func := "sibyl/sibyllaw12.EpochNil", spec := "epochNil", unfollowed := true, recurses := true, apart := false, narrowed := true }
def EpochNilUptoSaid : Prop := epochNilUptoRow.holds Try.pinned (OpenSpec.upto epochNilSpec)

end Rows
end Go.Proofs.Ytpklpomajioneaa
