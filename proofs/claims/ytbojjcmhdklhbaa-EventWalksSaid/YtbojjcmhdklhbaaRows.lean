/-
  No cell of these rows narrows 'for every input' (looked for: loops, veiled, ifaces, maps, wideKeys, modest, calm, conditions, laid).
  DERIVED. THE GIVEN ROWS OF THIS SEAT. 10 by the template 'for every input the law returns true; each argument reads behind the call as it read before'; 0 by the template 'total and deterministic' (their statements: YtbojjcmhdklhbaaTotals.lean).
  GIVEN WITH THE SEED: the statements are not yours to turn. If you find one false, say at which input.
  Laid BY PROGRAM, IN A SANDBOX (cutbox-rows.mjs): the forced cells as the released guide's own fill.sh prints them over the translation e4e4dcd24ae5de62… (all of the seat's roots in one cut). By AI agents, Wed Nov 11 2026. No macro, syntax, notation, axiom, sorry.
-/
import Derived.Test.YtbojjcmhdklhbaaChecked
import GoSem.Claim
import GoSem.ClaimJoined
import GoSem.ClaimMapViews
import Derived.JoinedTies
import Derived.KernelRfl
namespace Go.Proofs.Ytbojjcmhdklhbaa
/- THE CELL 'sum', in the pinned program and in every row, IS THE sha256 OF THE DUMP (.gsa) THAT YtbojjcmhdklhbaaProg.lean LOADS. Nothing in Lean hashes anything: it is a label: what it is worth is what the hold of that sum in a sandbox is worth. -/
noncomputable def Try.pinned : Pinned := { name := "ytbojjcmhdklhbaa", sum := "e4e4dcd24ae5de62d1f5afd185cf3b14ed8d83f2b1cd8d55ab43546505b3a60b", checked := Try.checked }
namespace Rows
def none {H : Type} : Left H := { results := [], args := [] }

/-- 'tapestrylaw14.EventHolds': WHATEVER THE INPUT: true; the input reads as it did. -/
def eventHoldsSpec : ChangeSpec := { name := "eventHolds", fn := fun _ => fun
  | [d] => { results := [.lit (.bool true)], args := [d] }
  | _ => none }
def eventHoldsRow : OpenClaim := { program := "ytbojjcmhdklhbaa", sum := "e4e4dcd24ae5de62d1f5afd185cf3b14ed8d83f2b1cd8d55ab43546505b3a60b", func := "tapestry/tapestrylaw14.EventHolds", spec := "eventHolds", plainKeys := false, apart := false }
def EventHoldsSaid : Prop := eventHoldsRow.holds Try.pinned (OpenSpec.ofChange eventHoldsSpec)

/-- ITS FALSE NEIGHBOUR: 'it returns false'. Refute it at one input. -/
def eventHoldsWrong : ChangeSpec := { name := "eventHolds", fn := fun _ => fun
  | [d] => { results := [.lit (.bool false)], args := [d] }
  | _ => none }
def EventHoldsWrongFalsely : Prop := eventHoldsRow.holds Try.pinned (OpenSpec.ofChange eventHoldsWrong)

/-- 'tapestrylaw14.EventReads': WHATEVER THE INPUT: true; the input reads as it did. -/
def eventReadsSpec : ChangeSpec := { name := "eventReads", fn := fun _ => fun
  | [d] => { results := [.lit (.bool true)], args := [d] }
  | _ => none }
def eventReadsRow : OpenClaim := { program := "ytbojjcmhdklhbaa", sum := "e4e4dcd24ae5de62d1f5afd185cf3b14ed8d83f2b1cd8d55ab43546505b3a60b", func := "tapestry/tapestrylaw14.EventReads", spec := "eventReads", plainKeys := false, apart := false }
def EventReadsSaid : Prop := eventReadsRow.holds Try.pinned (OpenSpec.ofChange eventReadsSpec)

/-- ITS FALSE NEIGHBOUR: 'it returns false'. Refute it at one input. -/
def eventReadsWrong : ChangeSpec := { name := "eventReads", fn := fun _ => fun
  | [d] => { results := [.lit (.bool false)], args := [d] }
  | _ => none }
def EventReadsWrongFalsely : Prop := eventReadsRow.holds Try.pinned (OpenSpec.ofChange eventReadsWrong)

/-- 'tapestrylaw14.EventKinds': WHATEVER THE INPUT: true; the input reads as it did. -/
def eventKindsSpec : ChangeSpec := { name := "eventKinds", fn := fun _ => fun
  | [d] => { results := [.lit (.bool true)], args := [d] }
  | _ => none }
def eventKindsRow : OpenClaim := { program := "ytbojjcmhdklhbaa", sum := "e4e4dcd24ae5de62d1f5afd185cf3b14ed8d83f2b1cd8d55ab43546505b3a60b", func := "tapestry/tapestrylaw14.EventKinds", spec := "eventKinds", plainKeys := false, apart := false }
def EventKindsSaid : Prop := eventKindsRow.holds Try.pinned (OpenSpec.ofChange eventKindsSpec)

/-- ITS FALSE NEIGHBOUR: 'it returns false'. Refute it at one input. -/
def eventKindsWrong : ChangeSpec := { name := "eventKinds", fn := fun _ => fun
  | [d] => { results := [.lit (.bool false)], args := [d] }
  | _ => none }
def EventKindsWrongFalsely : Prop := eventKindsRow.holds Try.pinned (OpenSpec.ofChange eventKindsWrong)

/-- 'tapestrylaw14.EventRows': WHATEVER THE INPUT: true; the input reads as it did. -/
def eventRowsSpec : ChangeSpec := { name := "eventRows", fn := fun _ => fun
  | [d1, d2] => { results := [.lit (.bool true)], args := [d1, d2] }
  | _ => none }
def eventRowsRow : OpenClaim := { program := "ytbojjcmhdklhbaa", sum := "e4e4dcd24ae5de62d1f5afd185cf3b14ed8d83f2b1cd8d55ab43546505b3a60b", func := "tapestry/tapestrylaw14.EventRows", spec := "eventRows", plainKeys := false, apart := false }
def EventRowsSaid : Prop := eventRowsRow.holds Try.pinned (OpenSpec.ofChange eventRowsSpec)

/-- ITS FALSE NEIGHBOUR: 'it returns false'. Refute it at one input. -/
def eventRowsWrong : ChangeSpec := { name := "eventRows", fn := fun _ => fun
  | [d1, d2] => { results := [.lit (.bool false)], args := [d1, d2] }
  | _ => none }
def EventRowsWrongFalsely : Prop := eventRowsRow.holds Try.pinned (OpenSpec.ofChange eventRowsWrong)

/-- 'tapestrylaw14.EventWalks': WHATEVER THE INPUT: true; the input reads as it did. -/
def eventWalksSpec : ChangeSpec := { name := "eventWalks", fn := fun _ => fun
  | [d1, d2, d3] => { results := [.lit (.bool true)], args := [d1, d2, d3] }
  | _ => none }
def eventWalksRow : OpenClaim := { program := "ytbojjcmhdklhbaa", sum := "e4e4dcd24ae5de62d1f5afd185cf3b14ed8d83f2b1cd8d55ab43546505b3a60b", func := "tapestry/tapestrylaw14.EventWalks", spec := "eventWalks", unfollowed := true, recurses := true, plainKeys := false, apart := false }
def EventWalksSaid : Prop := eventWalksRow.holds Try.pinned (OpenSpec.ofChange eventWalksSpec)

/-- ITS FALSE NEIGHBOUR: 'it returns false'. Refute it at one input. -/
def eventWalksWrong : ChangeSpec := { name := "eventWalks", fn := fun _ => fun
  | [d1, d2, d3] => { results := [.lit (.bool false)], args := [d1, d2, d3] }
  | _ => none }
def EventWalksWrongFalsely : Prop := eventWalksRow.holds Try.pinned (OpenSpec.ofChange eventWalksWrong)

/-- 'tapestrylaw14.EventBack': WHATEVER THE INPUT: true; the input reads as it did. -/
def eventBackSpec : ChangeSpec := { name := "eventBack", fn := fun _ => fun
  | [d1, d2, d3] => { results := [.lit (.bool true)], args := [d1, d2, d3] }
  | _ => none }
def eventBackRow : OpenClaim := { program := "ytbojjcmhdklhbaa", sum := "e4e4dcd24ae5de62d1f5afd185cf3b14ed8d83f2b1cd8d55ab43546505b3a60b", func := "tapestry/tapestrylaw14.EventBack", spec := "eventBack", plainKeys := false, apart := false }
def EventBackSaid : Prop := eventBackRow.holds Try.pinned (OpenSpec.ofChange eventBackSpec)

/-- ITS FALSE NEIGHBOUR: 'it returns false'. Refute it at one input. -/
def eventBackWrong : ChangeSpec := { name := "eventBack", fn := fun _ => fun
  | [d1, d2, d3] => { results := [.lit (.bool false)], args := [d1, d2, d3] }
  | _ => none }
def EventBackWrongFalsely : Prop := eventBackRow.holds Try.pinned (OpenSpec.ofChange eventBackWrong)

/-- 'tapestrylaw15.GrammarChecks': WHATEVER THE INPUT: true; the input reads as it did. -/
def grammarChecksSpec : ChangeSpec := { name := "grammarChecks", fn := fun _ => fun
  | [d] => { results := [.lit (.bool true)], args := [d] }
  | _ => none }
def grammarChecksRow : OpenClaim := { program := "ytbojjcmhdklhbaa", sum := "e4e4dcd24ae5de62d1f5afd185cf3b14ed8d83f2b1cd8d55ab43546505b3a60b", func := "tapestry/tapestrylaw15.GrammarChecks", spec := "grammarChecks", unfollowed := true, recurses := true, plainKeys := false, apart := false }
def GrammarChecksSaid : Prop := grammarChecksRow.holds Try.pinned (OpenSpec.ofChange grammarChecksSpec)

/-- ITS FALSE NEIGHBOUR: 'it returns false'. Refute it at one input. -/
def grammarChecksWrong : ChangeSpec := { name := "grammarChecks", fn := fun _ => fun
  | [d] => { results := [.lit (.bool false)], args := [d] }
  | _ => none }
def GrammarChecksWrongFalsely : Prop := grammarChecksRow.holds Try.pinned (OpenSpec.ofChange grammarChecksWrong)

/-- 'tapestrylaw15.GrammarOpens': WHATEVER THE INPUT: true; the input reads as it did. -/
def grammarOpensSpec : ChangeSpec := { name := "grammarOpens", fn := fun _ => fun
  | [d] => { results := [.lit (.bool true)], args := [d] }
  | _ => none }
def grammarOpensRow : OpenClaim := { program := "ytbojjcmhdklhbaa", sum := "e4e4dcd24ae5de62d1f5afd185cf3b14ed8d83f2b1cd8d55ab43546505b3a60b", func := "tapestry/tapestrylaw15.GrammarOpens", spec := "grammarOpens", unfollowed := true, recurses := true, plainKeys := false, apart := false }
def GrammarOpensSaid : Prop := grammarOpensRow.holds Try.pinned (OpenSpec.ofChange grammarOpensSpec)

/-- ITS FALSE NEIGHBOUR: 'it returns false'. Refute it at one input. -/
def grammarOpensWrong : ChangeSpec := { name := "grammarOpens", fn := fun _ => fun
  | [d] => { results := [.lit (.bool false)], args := [d] }
  | _ => none }
def GrammarOpensWrongFalsely : Prop := grammarOpensRow.holds Try.pinned (OpenSpec.ofChange grammarOpensWrong)

/-- 'tapestrylaw15.GrammarBegins': WHATEVER THE INPUT: true; the input reads as it did. -/
def grammarBeginsSpec : ChangeSpec := { name := "grammarBegins", fn := fun _ => fun
  | [d] => { results := [.lit (.bool true)], args := [d] }
  | _ => none }
def grammarBeginsRow : OpenClaim := { program := "ytbojjcmhdklhbaa", sum := "e4e4dcd24ae5de62d1f5afd185cf3b14ed8d83f2b1cd8d55ab43546505b3a60b", func := "tapestry/tapestrylaw15.GrammarBegins", spec := "grammarBegins", unfollowed := true, recurses := true, plainKeys := false, apart := false }
def GrammarBeginsSaid : Prop := grammarBeginsRow.holds Try.pinned (OpenSpec.ofChange grammarBeginsSpec)

/-- ITS FALSE NEIGHBOUR: 'it returns false'. Refute it at one input. -/
def grammarBeginsWrong : ChangeSpec := { name := "grammarBegins", fn := fun _ => fun
  | [d] => { results := [.lit (.bool false)], args := [d] }
  | _ => none }
def GrammarBeginsWrongFalsely : Prop := grammarBeginsRow.holds Try.pinned (OpenSpec.ofChange grammarBeginsWrong)

/-- 'tapestrylaw15.GrammarNames': WHATEVER THE INPUT: true; the input reads as it did. -/
def grammarNamesSpec : ChangeSpec := { name := "grammarNames", fn := fun _ => fun
  | [d] => { results := [.lit (.bool true)], args := [d] }
  | _ => none }
def grammarNamesRow : OpenClaim := { program := "ytbojjcmhdklhbaa", sum := "e4e4dcd24ae5de62d1f5afd185cf3b14ed8d83f2b1cd8d55ab43546505b3a60b", func := "tapestry/tapestrylaw15.GrammarNames", spec := "grammarNames", unfollowed := true, recurses := true, plainKeys := false, apart := false }
def GrammarNamesSaid : Prop := grammarNamesRow.holds Try.pinned (OpenSpec.ofChange grammarNamesSpec)

/-- ITS FALSE NEIGHBOUR: 'it returns false'. Refute it at one input. -/
def grammarNamesWrong : ChangeSpec := { name := "grammarNames", fn := fun _ => fun
  | [d] => { results := [.lit (.bool false)], args := [d] }
  | _ => none }
def GrammarNamesWrongFalsely : Prop := grammarNamesRow.holds Try.pinned (OpenSpec.ofChange grammarNamesWrong)

/- THE SECOND FORM. 'bulk': how many values and letters a reading holds, each counted each time it is reached (what is shared counts as often as it is met; a slice's spare places count too). A statement '..UptoSaid' is the law's where the arguments, and the package variables that the reading takes, are together of bulk at most 1048576: NARROWER than '..Said'. Prove '..Said' where nothing that the law and all that it calls make is longer than what came in: it says more and counts as full. Else prove '..UptoSaid'. A law counts once. -/
mutual
def uptoBulk {H : Type} : DataW H → Nat
  | .lit (.string bytes) => bytes.length + 1
  | .lit _ => 1
  | .nil => 1
  | .ptr d => uptoBulk d + 1
  | .slice elems spare => uptoBulkAll elems + uptoBulkAll spare + 1
  | .agg parts => uptoBulkAll parts + 1
  | .iface _ d => uptoBulk d + 1
  | .map entries => uptoBulkEntries entries + 1
  | .held _ => 1
def uptoBulkAll {H : Type} : List (DataW H) → Nat
  | [] => 0
  | d :: r => uptoBulk d + uptoBulkAll r
def uptoBulkEntries {H : Type} : List (Lit × DataW H) → Nat
  | [] => 0
  | x :: r => uptoBulkEntry x + uptoBulkEntries r
def uptoBulkEntry {H : Type} : Lit × DataW H → Nat
  | (.string bytes, d) => bytes.length + uptoBulk d + 1
  | (_, d) => uptoBulk d + 1
 end
def uptoSmall : (H : Type) → List (DataW H) → Bool := fun _ ds => decide (uptoBulkAll ds ≤ 1048576)
def OpenSpec.upto (s : _root_.Go.ChangeSpec) : _root_.Go.OpenSpec := { _root_.Go.OpenSpec.ofChange s with cond := some uptoSmall }

/-- 'tapestrylaw14.EventHolds', WHERE WHAT IT READS IS OF BULK AT MOST 1048576: true; the input reads as it did. -/
def eventHoldsUptoRow : OpenClaim := { program := "ytbojjcmhdklhbaa", sum := "e4e4dcd24ae5de62d1f5afd185cf3b14ed8d83f2b1cd8d55ab43546505b3a60b", func := "tapestry/tapestrylaw14.EventHolds", spec := "eventHolds", plainKeys := false, apart := false, narrowed := true }
def EventHoldsUptoSaid : Prop := eventHoldsUptoRow.holds Try.pinned (OpenSpec.upto eventHoldsSpec)

/-- 'tapestrylaw14.EventReads', WHERE WHAT IT READS IS OF BULK AT MOST 1048576: true; the input reads as it did. -/
def eventReadsUptoRow : OpenClaim := { program := "ytbojjcmhdklhbaa", sum := "e4e4dcd24ae5de62d1f5afd185cf3b14ed8d83f2b1cd8d55ab43546505b3a60b", func := "tapestry/tapestrylaw14.EventReads", spec := "eventReads", plainKeys := false, apart := false, narrowed := true }
def EventReadsUptoSaid : Prop := eventReadsUptoRow.holds Try.pinned (OpenSpec.upto eventReadsSpec)

/-- 'tapestrylaw14.EventKinds', WHERE WHAT IT READS IS OF BULK AT MOST 1048576: true; the input reads as it did. -/
def eventKindsUptoRow : OpenClaim := { program := "ytbojjcmhdklhbaa", sum := "e4e4dcd24ae5de62d1f5afd185cf3b14ed8d83f2b1cd8d55ab43546505b3a60b", func := "tapestry/tapestrylaw14.EventKinds", spec := "eventKinds", plainKeys := false, apart := false, narrowed := true }
def EventKindsUptoSaid : Prop := eventKindsUptoRow.holds Try.pinned (OpenSpec.upto eventKindsSpec)

/-- 'tapestrylaw14.EventRows', WHERE WHAT IT READS IS OF BULK AT MOST 1048576: true; the input reads as it did. -/
def eventRowsUptoRow : OpenClaim := { program := "ytbojjcmhdklhbaa", sum := "e4e4dcd24ae5de62d1f5afd185cf3b14ed8d83f2b1cd8d55ab43546505b3a60b", func := "tapestry/tapestrylaw14.EventRows", spec := "eventRows", plainKeys := false, apart := false, narrowed := true }
def EventRowsUptoSaid : Prop := eventRowsUptoRow.holds Try.pinned (OpenSpec.upto eventRowsSpec)

/-- 'tapestrylaw14.EventWalks', WHERE WHAT IT READS IS OF BULK AT MOST 1048576: true; the input reads as it did. -/
def eventWalksUptoRow : OpenClaim := { program := "ytbojjcmhdklhbaa", sum := "e4e4dcd24ae5de62d1f5afd185cf3b14ed8d83f2b1cd8d55ab43546505b3a60b", func := "tapestry/tapestrylaw14.EventWalks", spec := "eventWalks", unfollowed := true, recurses := true, plainKeys := false, apart := false, narrowed := true }
def EventWalksUptoSaid : Prop := eventWalksUptoRow.holds Try.pinned (OpenSpec.upto eventWalksSpec)

/-- 'tapestrylaw14.EventBack', WHERE WHAT IT READS IS OF BULK AT MOST 1048576: true; the input reads as it did. -/
def eventBackUptoRow : OpenClaim := { program := "ytbojjcmhdklhbaa", sum := "e4e4dcd24ae5de62d1f5afd185cf3b14ed8d83f2b1cd8d55ab43546505b3a60b", func := "tapestry/tapestrylaw14.EventBack", spec := "eventBack", plainKeys := false, apart := false, narrowed := true }
def EventBackUptoSaid : Prop := eventBackUptoRow.holds Try.pinned (OpenSpec.upto eventBackSpec)

/-- 'tapestrylaw15.GrammarChecks', WHERE WHAT IT READS IS OF BULK AT MOST 1048576: true; the input reads as it did. -/
def grammarChecksUptoRow : OpenClaim := { program := "ytbojjcmhdklhbaa", sum := "e4e4dcd24ae5de62d1f5afd185cf3b14ed8d83f2b1cd8d55ab43546505b3a60b", func := "tapestry/tapestrylaw15.GrammarChecks", spec := "grammarChecks", unfollowed := true, recurses := true, plainKeys := false, apart := false, narrowed := true }
def GrammarChecksUptoSaid : Prop := grammarChecksUptoRow.holds Try.pinned (OpenSpec.upto grammarChecksSpec)

/-- 'tapestrylaw15.GrammarOpens', WHERE WHAT IT READS IS OF BULK AT MOST 1048576: true; the input reads as it did. -/
def grammarOpensUptoRow : OpenClaim := { program := "ytbojjcmhdklhbaa", sum := "e4e4dcd24ae5de62d1f5afd185cf3b14ed8d83f2b1cd8d55ab43546505b3a60b", func := "tapestry/tapestrylaw15.GrammarOpens", spec := "grammarOpens", unfollowed := true, recurses := true, plainKeys := false, apart := false, narrowed := true }
def GrammarOpensUptoSaid : Prop := grammarOpensUptoRow.holds Try.pinned (OpenSpec.upto grammarOpensSpec)

/-- 'tapestrylaw15.GrammarBegins', WHERE WHAT IT READS IS OF BULK AT MOST 1048576: true; the input reads as it did. -/
def grammarBeginsUptoRow : OpenClaim := { program := "ytbojjcmhdklhbaa", sum := "e4e4dcd24ae5de62d1f5afd185cf3b14ed8d83f2b1cd8d55ab43546505b3a60b", func := "tapestry/tapestrylaw15.GrammarBegins", spec := "grammarBegins", unfollowed := true, recurses := true, plainKeys := false, apart := false, narrowed := true }
def GrammarBeginsUptoSaid : Prop := grammarBeginsUptoRow.holds Try.pinned (OpenSpec.upto grammarBeginsSpec)

/-- 'tapestrylaw15.GrammarNames', WHERE WHAT IT READS IS OF BULK AT MOST 1048576: true; the input reads as it did. -/
def grammarNamesUptoRow : OpenClaim := { program := "ytbojjcmhdklhbaa", sum := "e4e4dcd24ae5de62d1f5afd185cf3b14ed8d83f2b1cd8d55ab43546505b3a60b", func := "tapestry/tapestrylaw15.GrammarNames", spec := "grammarNames", unfollowed := true, recurses := true, plainKeys := false, apart := false, narrowed := true }
def GrammarNamesUptoSaid : Prop := grammarNamesUptoRow.holds Try.pinned (OpenSpec.upto grammarNamesSpec)

end Rows
end Go.Proofs.Ytbojjcmhdklhbaa
