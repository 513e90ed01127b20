/-
  No cell of these rows narrows 'for every input' (looked for: loops, veiled, ifaces, maps, wideKeys, modest, calm, conditions, laid).
  DERIVED. THE GIVEN ROWS OF THIS SEAT. 11 by the template 'for every input the law returns true; each argument reads behind the call as it read before'; 0 by the template 'total and deterministic' (their statements: YtanahoejlnmfiaaTotals.lean).
  GIVEN WITH THE SEED: the statements are not yours to turn. If you find one false, say at which input.
  Laid BY PROGRAM, IN A SANDBOX (cutbox-rows.mjs): the forced cells as the released guide's own fill.sh prints them over the translation 572a026750705ba6… (all of the seat's roots in one cut). By AI agents, Wed Nov 11 2026. No macro, syntax, notation, axiom, sorry.
-/
import Derived.Test.YtanahoejlnmfiaaChecked
import GoSem.Claim
import GoSem.ClaimJoined
import GoSem.ClaimMapViews
import Derived.JoinedTies
import Derived.KernelRfl
namespace Go.Proofs.Ytanahoejlnmfiaa
/- THE CELL 'sum', in the pinned program and in every row, IS THE sha256 OF THE DUMP (.gsa) THAT YtanahoejlnmfiaaProg.lean LOADS. Nothing in Lean hashes anything: it is a label: what it is worth is what the hold of that sum in a sandbox is worth. -/
noncomputable def Try.pinned : Pinned := { name := "ytanahoejlnmfiaa", sum := "572a026750705ba6893ccbc682219221772f4b818aa1ac88ce7ccb325f678c0c", checked := Try.checked }
namespace Rows
def none {H : Type} : Left H := { results := [], args := [] }

/-- 'tapestrylaw17.TimingWaits': WHATEVER THE INPUT: true; the input reads as it did. -/
def timingWaitsSpec : ChangeSpec := { name := "timingWaits", fn := fun _ => fun
  | [d1, d2] => { results := [.lit (.bool true)], args := [d1, d2] }
  | _ => none }
def timingWaitsRow : OpenClaim := { program := "ytanahoejlnmfiaa", sum := "572a026750705ba6893ccbc682219221772f4b818aa1ac88ce7ccb325f678c0c", func := "tapestry/tapestrylaw17.TimingWaits", spec := "timingWaits", apart := false }
def TimingWaitsSaid : Prop := timingWaitsRow.holds Try.pinned (OpenSpec.ofChange timingWaitsSpec)

/-- ITS FALSE NEIGHBOUR: 'it returns false'. Refute it at one input. -/
def timingWaitsWrong : ChangeSpec := { name := "timingWaits", fn := fun _ => fun
  | [d1, d2] => { results := [.lit (.bool false)], args := [d1, d2] }
  | _ => none }
def TimingWaitsWrongFalsely : Prop := timingWaitsRow.holds Try.pinned (OpenSpec.ofChange timingWaitsWrong)

/-- 'tapestrylaw17.TimingAgain': WHATEVER THE INPUT: true; the input reads as it did. -/
def timingAgainSpec : ChangeSpec := { name := "timingAgain", fn := fun _ => fun
  | [d1, d2, d3] => { results := [.lit (.bool true)], args := [d1, d2, d3] }
  | _ => none }
def timingAgainRow : OpenClaim := { program := "ytanahoejlnmfiaa", sum := "572a026750705ba6893ccbc682219221772f4b818aa1ac88ce7ccb325f678c0c", func := "tapestry/tapestrylaw17.TimingAgain", spec := "timingAgain", apart := false }
def TimingAgainSaid : Prop := timingAgainRow.holds Try.pinned (OpenSpec.ofChange timingAgainSpec)

/-- ITS FALSE NEIGHBOUR: 'it returns false'. Refute it at one input. -/
def timingAgainWrong : ChangeSpec := { name := "timingAgain", fn := fun _ => fun
  | [d1, d2, d3] => { results := [.lit (.bool false)], args := [d1, d2, d3] }
  | _ => none }
def TimingAgainWrongFalsely : Prop := timingAgainRow.holds Try.pinned (OpenSpec.ofChange timingAgainWrong)

/-- 'tapestrylaw17.TimingRises': WHATEVER THE INPUT: true; the input reads as it did. -/
def timingRisesSpec : ChangeSpec := { name := "timingRises", fn := fun _ => fun
  | [d1, d2, d3] => { results := [.lit (.bool true)], args := [d1, d2, d3] }
  | _ => none }
def timingRisesRow : OpenClaim := { program := "ytanahoejlnmfiaa", sum := "572a026750705ba6893ccbc682219221772f4b818aa1ac88ce7ccb325f678c0c", func := "tapestry/tapestrylaw17.TimingRises", spec := "timingRises", apart := false }
def TimingRisesSaid : Prop := timingRisesRow.holds Try.pinned (OpenSpec.ofChange timingRisesSpec)

/-- ITS FALSE NEIGHBOUR: 'it returns false'. Refute it at one input. -/
def timingRisesWrong : ChangeSpec := { name := "timingRises", fn := fun _ => fun
  | [d1, d2, d3] => { results := [.lit (.bool false)], args := [d1, d2, d3] }
  | _ => none }
def TimingRisesWrongFalsely : Prop := timingRisesRow.holds Try.pinned (OpenSpec.ofChange timingRisesWrong)

/-- 'tapestrylaw17.TimingEnds': WHATEVER THE INPUT: true; the input reads as it did. -/
def timingEndsSpec : ChangeSpec := { name := "timingEnds", fn := fun _ => fun
  | [d1, d2, d3] => { results := [.lit (.bool true)], args := [d1, d2, d3] }
  | _ => none }
def timingEndsRow : OpenClaim := { program := "ytanahoejlnmfiaa", sum := "572a026750705ba6893ccbc682219221772f4b818aa1ac88ce7ccb325f678c0c", func := "tapestry/tapestrylaw17.TimingEnds", spec := "timingEnds", apart := false }
def TimingEndsSaid : Prop := timingEndsRow.holds Try.pinned (OpenSpec.ofChange timingEndsSpec)

/-- ITS FALSE NEIGHBOUR: 'it returns false'. Refute it at one input. -/
def timingEndsWrong : ChangeSpec := { name := "timingEnds", fn := fun _ => fun
  | [d1, d2, d3] => { results := [.lit (.bool false)], args := [d1, d2, d3] }
  | _ => none }
def TimingEndsWrongFalsely : Prop := timingEndsRow.holds Try.pinned (OpenSpec.ofChange timingEndsWrong)

/-- 'tapestrylaw13.CodeKinds': WHATEVER THE INPUT: true; the input reads as it did. -/
def codeKindsSpec : ChangeSpec := { name := "codeKinds", fn := fun _ => fun
  | [d] => { results := [.lit (.bool true)], args := [d] }
  | _ => none }
def codeKindsRow : OpenClaim := { program := "ytanahoejlnmfiaa", sum := "572a026750705ba6893ccbc682219221772f4b818aa1ac88ce7ccb325f678c0c", func := "tapestry/tapestrylaw13.CodeKinds", spec := "codeKinds", inPlace := ["internal/abi.NoEscape"], unfollowed := true, recurses := true, apart := false }
def CodeKindsSaid : Prop := codeKindsRow.holds Try.pinned (OpenSpec.ofChange codeKindsSpec)

/-- ITS FALSE NEIGHBOUR: 'it returns false'. Refute it at one input. -/
def codeKindsWrong : ChangeSpec := { name := "codeKinds", fn := fun _ => fun
  | [d] => { results := [.lit (.bool false)], args := [d] }
  | _ => none }
def CodeKindsWrongFalsely : Prop := codeKindsRow.holds Try.pinned (OpenSpec.ofChange codeKindsWrong)

/-- 'tapestrylaw13.CodeChecks': WHATEVER THE INPUT: true; the input reads as it did. -/
def codeChecksSpec : ChangeSpec := { name := "codeChecks", fn := fun _ => fun
  | [d] => { results := [.lit (.bool true)], args := [d] }
  | _ => none }
def codeChecksRow : OpenClaim := { program := "ytanahoejlnmfiaa", sum := "572a026750705ba6893ccbc682219221772f4b818aa1ac88ce7ccb325f678c0c", func := "tapestry/tapestrylaw13.CodeChecks", spec := "codeChecks", inPlace := ["internal/abi.NoEscape"], unfollowed := true, recurses := true, apart := false }
def CodeChecksSaid : Prop := codeChecksRow.holds Try.pinned (OpenSpec.ofChange codeChecksSpec)

/-- ITS FALSE NEIGHBOUR: 'it returns false'. Refute it at one input. -/
def codeChecksWrong : ChangeSpec := { name := "codeChecks", fn := fun _ => fun
  | [d] => { results := [.lit (.bool false)], args := [d] }
  | _ => none }
def CodeChecksWrongFalsely : Prop := codeChecksRow.holds Try.pinned (OpenSpec.ofChange codeChecksWrong)

/-- 'tapestrylaw13.CodeFinds': WHATEVER THE INPUT: true; the input reads as it did. -/
def codeFindsSpec : ChangeSpec := { name := "codeFinds", fn := fun _ => fun
  | [d1, d2, d3] => { results := [.lit (.bool true)], args := [d1, d2, d3] }
  | _ => none }
def codeFindsRow : OpenClaim := { program := "ytanahoejlnmfiaa", sum := "572a026750705ba6893ccbc682219221772f4b818aa1ac88ce7ccb325f678c0c", func := "tapestry/tapestrylaw13.CodeFinds", spec := "codeFinds", inPlace := ["internal/abi.NoEscape"], unfollowed := true, recurses := true, apart := false }
def CodeFindsSaid : Prop := codeFindsRow.holds Try.pinned (OpenSpec.ofChange codeFindsSpec)

/-- ITS FALSE NEIGHBOUR: 'it returns false'. Refute it at one input. -/
def codeFindsWrong : ChangeSpec := { name := "codeFinds", fn := fun _ => fun
  | [d1, d2, d3] => { results := [.lit (.bool false)], args := [d1, d2, d3] }
  | _ => none }
def CodeFindsWrongFalsely : Prop := codeFindsRow.holds Try.pinned (OpenSpec.ofChange codeFindsWrong)

/-- 'tapestrylaw13.CodeEncodes': WHATEVER THE INPUT: true; the input reads as it did. -/
def codeEncodesSpec : ChangeSpec := { name := "codeEncodes", fn := fun _ => fun
  | [d] => { results := [.lit (.bool true)], args := [d] }
  | _ => none }
def codeEncodesRow : OpenClaim := { program := "ytanahoejlnmfiaa", sum := "572a026750705ba6893ccbc682219221772f4b818aa1ac88ce7ccb325f678c0c", func := "tapestry/tapestrylaw13.CodeEncodes", spec := "codeEncodes", inPlace := ["internal/abi.NoEscape"], unfollowed := true, recurses := true, apart := false }
def CodeEncodesSaid : Prop := codeEncodesRow.holds Try.pinned (OpenSpec.ofChange codeEncodesSpec)

/-- ITS FALSE NEIGHBOUR: 'it returns false'. Refute it at one input. -/
def codeEncodesWrong : ChangeSpec := { name := "codeEncodes", fn := fun _ => fun
  | [d] => { results := [.lit (.bool false)], args := [d] }
  | _ => none }
def CodeEncodesWrongFalsely : Prop := codeEncodesRow.holds Try.pinned (OpenSpec.ofChange codeEncodesWrong)

/-- 'tapestrylaw13.CodeDecodes': WHATEVER THE INPUT: true; the input reads as it did. -/
def codeDecodesSpec : ChangeSpec := { name := "codeDecodes", fn := fun _ => fun
  | [d] => { results := [.lit (.bool true)], args := [d] }
  | _ => none }
def codeDecodesRow : OpenClaim := { program := "ytanahoejlnmfiaa", sum := "572a026750705ba6893ccbc682219221772f4b818aa1ac88ce7ccb325f678c0c", func := "tapestry/tapestrylaw13.CodeDecodes", spec := "codeDecodes", inPlace := ["internal/abi.NoEscape"], unfollowed := true, recurses := true, apart := false }
def CodeDecodesSaid : Prop := codeDecodesRow.holds Try.pinned (OpenSpec.ofChange codeDecodesSpec)

/-- ITS FALSE NEIGHBOUR: 'it returns false'. Refute it at one input. -/
def codeDecodesWrong : ChangeSpec := { name := "codeDecodes", fn := fun _ => fun
  | [d] => { results := [.lit (.bool false)], args := [d] }
  | _ => none }
def CodeDecodesWrongFalsely : Prop := codeDecodesRow.holds Try.pinned (OpenSpec.ofChange codeDecodesWrong)

/-- 'tapestrylaw13.CodeBack': WHATEVER THE INPUT: true; the input reads as it did. -/
def codeBackSpec : ChangeSpec := { name := "codeBack", fn := fun _ => fun
  | [d1, d2] => { results := [.lit (.bool true)], args := [d1, d2] }
  | _ => none }
def codeBackRow : OpenClaim := { program := "ytanahoejlnmfiaa", sum := "572a026750705ba6893ccbc682219221772f4b818aa1ac88ce7ccb325f678c0c", func := "tapestry/tapestrylaw13.CodeBack", spec := "codeBack", inPlace := ["internal/abi.NoEscape"], unfollowed := true, recurses := true, apart := false }
def CodeBackSaid : Prop := codeBackRow.holds Try.pinned (OpenSpec.ofChange codeBackSpec)

/-- ITS FALSE NEIGHBOUR: 'it returns false'. Refute it at one input. -/
def codeBackWrong : ChangeSpec := { name := "codeBack", fn := fun _ => fun
  | [d1, d2] => { results := [.lit (.bool false)], args := [d1, d2] }
  | _ => none }
def CodeBackWrongFalsely : Prop := codeBackRow.holds Try.pinned (OpenSpec.ofChange codeBackWrong)

/-- 'tapestrylaw13.CodeCuts': WHATEVER THE INPUT: true; the input reads as it did. -/
def codeCutsSpec : ChangeSpec := { name := "codeCuts", fn := fun _ => fun
  | [d1, d2, d3] => { results := [.lit (.bool true)], args := [d1, d2, d3] }
  | _ => none }
def codeCutsRow : OpenClaim := { program := "ytanahoejlnmfiaa", sum := "572a026750705ba6893ccbc682219221772f4b818aa1ac88ce7ccb325f678c0c", func := "tapestry/tapestrylaw13.CodeCuts", spec := "codeCuts", inPlace := ["internal/abi.NoEscape"], unfollowed := true, recurses := true, apart := false }
def CodeCutsSaid : Prop := codeCutsRow.holds Try.pinned (OpenSpec.ofChange codeCutsSpec)

/-- ITS FALSE NEIGHBOUR: 'it returns false'. Refute it at one input. -/
def codeCutsWrong : ChangeSpec := { name := "codeCuts", fn := fun _ => fun
  | [d1, d2, d3] => { results := [.lit (.bool false)], args := [d1, d2, d3] }
  | _ => none }
def CodeCutsWrongFalsely : Prop := codeCutsRow.holds Try.pinned (OpenSpec.ofChange codeCutsWrong)

/- THE SECOND FORM. 'bulk': how many values and letters a reading holds, each counted each time it is reached (what is shared counts as often as it is met; a slice's spare places count too). A statement '..UptoSaid' is the law's where the arguments, and the package variables that the reading takes, are together of bulk at most 1048576: NARROWER than '..Said'. Prove '..Said' where nothing that the law and all that it calls make is longer than what came in: it says more and counts as full. Else prove '..UptoSaid'. A law counts once. -/
mutual
def uptoBulk {H : Type} : DataW H → Nat
  | .lit (.string bytes) => bytes.length + 1
  | .lit _ => 1
  | .nil => 1
  | .ptr d => uptoBulk d + 1
  | .slice elems spare => uptoBulkAll elems + uptoBulkAll spare + 1
  | .agg parts => uptoBulkAll parts + 1
  | .iface _ d => uptoBulk d + 1
  | .map entries => uptoBulkEntries entries + 1
  | .held _ => 1
def uptoBulkAll {H : Type} : List (DataW H) → Nat
  | [] => 0
  | d :: r => uptoBulk d + uptoBulkAll r
def uptoBulkEntries {H : Type} : List (Lit × DataW H) → Nat
  | [] => 0
  | x :: r => uptoBulkEntry x + uptoBulkEntries r
def uptoBulkEntry {H : Type} : Lit × DataW H → Nat
  | (.string bytes, d) => bytes.length + uptoBulk d + 1
  | (_, d) => uptoBulk d + 1
 end
def uptoSmall : (H : Type) → List (DataW H) → Bool := fun _ ds => decide (uptoBulkAll ds ≤ 1048576)
def OpenSpec.upto (s : _root_.Go.ChangeSpec) : _root_.Go.OpenSpec := { _root_.Go.OpenSpec.ofChange s with cond := some uptoSmall }

/-- 'tapestrylaw17.TimingWaits', WHERE WHAT IT READS IS OF BULK AT MOST 1048576: true; the input reads as it did. -/
def timingWaitsUptoRow : OpenClaim := { program := "ytanahoejlnmfiaa", sum := "572a026750705ba6893ccbc682219221772f4b818aa1ac88ce7ccb325f678c0c", func := "tapestry/tapestrylaw17.TimingWaits", spec := "timingWaits", apart := false, narrowed := true }
def TimingWaitsUptoSaid : Prop := timingWaitsUptoRow.holds Try.pinned (OpenSpec.upto timingWaitsSpec)

/-- 'tapestrylaw17.TimingAgain', WHERE WHAT IT READS IS OF BULK AT MOST 1048576: true; the input reads as it did. -/
def timingAgainUptoRow : OpenClaim := { program := "ytanahoejlnmfiaa", sum := "572a026750705ba6893ccbc682219221772f4b818aa1ac88ce7ccb325f678c0c", func := "tapestry/tapestrylaw17.TimingAgain", spec := "timingAgain", apart := false, narrowed := true }
def TimingAgainUptoSaid : Prop := timingAgainUptoRow.holds Try.pinned (OpenSpec.upto timingAgainSpec)

/-- 'tapestrylaw17.TimingRises', WHERE WHAT IT READS IS OF BULK AT MOST 1048576: true; the input reads as it did. -/
def timingRisesUptoRow : OpenClaim := { program := "ytanahoejlnmfiaa", sum := "572a026750705ba6893ccbc682219221772f4b818aa1ac88ce7ccb325f678c0c", func := "tapestry/tapestrylaw17.TimingRises", spec := "timingRises", apart := false, narrowed := true }
def TimingRisesUptoSaid : Prop := timingRisesUptoRow.holds Try.pinned (OpenSpec.upto timingRisesSpec)

/-- 'tapestrylaw17.TimingEnds', WHERE WHAT IT READS IS OF BULK AT MOST 1048576: true; the input reads as it did. -/
def timingEndsUptoRow : OpenClaim := { program := "ytanahoejlnmfiaa", sum := "572a026750705ba6893ccbc682219221772f4b818aa1ac88ce7ccb325f678c0c", func := "tapestry/tapestrylaw17.TimingEnds", spec := "timingEnds", apart := false, narrowed := true }
def TimingEndsUptoSaid : Prop := timingEndsUptoRow.holds Try.pinned (OpenSpec.upto timingEndsSpec)

/-- 'tapestrylaw13.CodeKinds', WHERE WHAT IT READS IS OF BULK AT MOST 1048576: true; the input reads as it did. -/
def codeKindsUptoRow : OpenClaim := { program := "ytanahoejlnmfiaa", sum := "572a026750705ba6893ccbc682219221772f4b818aa1ac88ce7ccb325f678c0c", func := "tapestry/tapestrylaw13.CodeKinds", spec := "codeKinds", inPlace := ["internal/abi.NoEscape"], unfollowed := true, recurses := true, apart := false, narrowed := true }
def CodeKindsUptoSaid : Prop := codeKindsUptoRow.holds Try.pinned (OpenSpec.upto codeKindsSpec)

/-- 'tapestrylaw13.CodeChecks', WHERE WHAT IT READS IS OF BULK AT MOST 1048576: true; the input reads as it did. -/
def codeChecksUptoRow : OpenClaim := { program := "ytanahoejlnmfiaa", sum := "572a026750705ba6893ccbc682219221772f4b818aa1ac88ce7ccb325f678c0c", func := "tapestry/tapestrylaw13.CodeChecks", spec := "codeChecks", inPlace := ["internal/abi.NoEscape"], unfollowed := true, recurses := true, apart := false, narrowed := true }
def CodeChecksUptoSaid : Prop := codeChecksUptoRow.holds Try.pinned (OpenSpec.upto codeChecksSpec)

/-- 'tapestrylaw13.CodeFinds', WHERE WHAT IT READS IS OF BULK AT MOST 1048576: true; the input reads as it did. -/
def codeFindsUptoRow : OpenClaim := { program := "ytanahoejlnmfiaa", sum := "572a026750705ba6893ccbc682219221772f4b818aa1ac88ce7ccb325f678c0c", func := "tapestry/tapestrylaw13.CodeFinds", spec := "codeFinds", inPlace := ["internal/abi.NoEscape"], unfollowed := true, recurses := true, apart := false, narrowed := true }
def CodeFindsUptoSaid : Prop := codeFindsUptoRow.holds Try.pinned (OpenSpec.upto codeFindsSpec)

/-- 'tapestrylaw13.CodeEncodes', WHERE WHAT IT READS IS OF BULK AT MOST 1048576: true; the input reads as it did. -/
def codeEncodesUptoRow : OpenClaim := { program := "ytanahoejlnmfiaa", sum := "572a026750705ba6893ccbc682219221772f4b818aa1ac88ce7ccb325f678c0c", func := "tapestry/tapestrylaw13.CodeEncodes", spec := "codeEncodes", inPlace := ["internal/abi.NoEscape"], unfollowed := true, recurses := true, apart := false, narrowed := true }
def CodeEncodesUptoSaid : Prop := codeEncodesUptoRow.holds Try.pinned (OpenSpec.upto codeEncodesSpec)

/-- 'tapestrylaw13.CodeDecodes', WHERE WHAT IT READS IS OF BULK AT MOST 1048576: true; the input reads as it did. -/
def codeDecodesUptoRow : OpenClaim := { program := "ytanahoejlnmfiaa", sum := "572a026750705ba6893ccbc682219221772f4b818aa1ac88ce7ccb325f678c0c", func := "tapestry/tapestrylaw13.CodeDecodes", spec := "codeDecodes", inPlace := ["internal/abi.NoEscape"], unfollowed := true, recurses := true, apart := false, narrowed := true }
def CodeDecodesUptoSaid : Prop := codeDecodesUptoRow.holds Try.pinned (OpenSpec.upto codeDecodesSpec)

/-- 'tapestrylaw13.CodeBack', WHERE WHAT IT READS IS OF BULK AT MOST 1048576: true; the input reads as it did. -/
def codeBackUptoRow : OpenClaim := { program := "ytanahoejlnmfiaa", sum := "572a026750705ba6893ccbc682219221772f4b818aa1ac88ce7ccb325f678c0c", func := "tapestry/tapestrylaw13.CodeBack", spec := "codeBack", inPlace := ["internal/abi.NoEscape"], unfollowed := true, recurses := true, apart := false, narrowed := true }
def CodeBackUptoSaid : Prop := codeBackUptoRow.holds Try.pinned (OpenSpec.upto codeBackSpec)

/-- 'tapestrylaw13.CodeCuts', WHERE WHAT IT READS IS OF BULK AT MOST 1048576: true; the input reads as it did. -/
def codeCutsUptoRow : OpenClaim := { program := "ytanahoejlnmfiaa", sum := "572a026750705ba6893ccbc682219221772f4b818aa1ac88ce7ccb325f678c0c", func := "tapestry/tapestrylaw13.CodeCuts", spec := "codeCuts", inPlace := ["internal/abi.NoEscape"], unfollowed := true, recurses := true, apart := false, narrowed := true }
def CodeCutsUptoSaid : Prop := codeCutsUptoRow.holds Try.pinned (OpenSpec.upto codeCutsSpec)

end Rows
end Go.Proofs.Ytanahoejlnmfiaa
