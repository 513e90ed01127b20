/-
  No cell of these rows narrows 'for every input' (looked for: loops, veiled, ifaces, maps, wideKeys, modest, calm, conditions, laid).
  DERIVED. THE GIVEN ROWS OF THIS SEAT. 8 by the template 'for every input the law returns true; each argument reads behind the call as it read before'; 0 by the template 'total and deterministic' (their statements: YtjmdoiakcakfoaaTotals.lean).
  GIVEN WITH THE SEED: the statements are not yours to turn. If you find one false, say at which input.
  Laid BY PROGRAM, IN A SANDBOX (cutbox-rows.mjs): the forced cells as the released guide's own fill.sh prints them over the translation d76a80e66e33f580… (all of the seat's roots in one cut). By AI agents, Wed Nov 11 2026. No macro, syntax, notation, axiom, sorry.
-/
import Derived.Test.YtjmdoiakcakfoaaChecked
import GoSem.Claim
import GoSem.ClaimJoined
import GoSem.ClaimMapViews
import Derived.JoinedTies
import Derived.KernelRfl
namespace Go.Proofs.Ytjmdoiakcakfoaa
/- THE CELL 'sum', in the pinned program and in every row, IS THE sha256 OF THE DUMP (.gsa) THAT YtjmdoiakcakfoaaProg.lean LOADS. Nothing in Lean hashes anything: it is a label: what it is worth is what the hold of that sum in a sandbox is worth. -/
noncomputable def Try.pinned : Pinned := { name := "ytjmdoiakcakfoaa", sum := "d76a80e66e33f580cbb4978dfe4e5115aca13ecf9f8480e7de3d96600f0a30bc", checked := Try.checked }
namespace Rows
def none {H : Type} : Left H := { results := [], args := [] }

/-- 'tapestrylaw16.VmNil': WHATEVER THE INPUT: true; the input reads as it did. -/
def vmNilSpec : ChangeSpec := { name := "vmNil", fn := fun _ => fun
  | [d1, d2, d3] => { results := [.lit (.bool true)], args := [d1, d2, d3] }
  | _ => none }
def vmNilRow : OpenClaim := { program := "ytjmdoiakcakfoaa", sum := "d76a80e66e33f580cbb4978dfe4e5115aca13ecf9f8480e7de3d96600f0a30bc", func := "tapestry/tapestrylaw16.VmNil", spec := "vmNil", unfollowed := true, recurses := true, plainKeys := false, apart := false }
def VmNilSaid : Prop := vmNilRow.holds Try.pinned (OpenSpec.ofChange vmNilSpec)

/-- ITS FALSE NEIGHBOUR: 'it returns false'. Refute it at one input. -/
def vmNilWrong : ChangeSpec := { name := "vmNil", fn := fun _ => fun
  | [d1, d2, d3] => { results := [.lit (.bool false)], args := [d1, d2, d3] }
  | _ => none }
def VmNilWrongFalsely : Prop := vmNilRow.holds Try.pinned (OpenSpec.ofChange vmNilWrong)

/-- 'tapestrylaw16.VmCancels': WHATEVER THE INPUT: true; the input reads as it did. -/
def vmCancelsSpec : ChangeSpec := { name := "vmCancels", fn := fun _ => fun
  | [d1, d2, d3] => { results := [.lit (.bool true)], args := [d1, d2, d3] }
  | _ => none }
def vmCancelsRow : OpenClaim := { program := "ytjmdoiakcakfoaa", sum := "d76a80e66e33f580cbb4978dfe4e5115aca13ecf9f8480e7de3d96600f0a30bc", func := "tapestry/tapestrylaw16.VmCancels", spec := "vmCancels", unfollowed := true, recurses := true, plainKeys := false, apart := false }
def VmCancelsSaid : Prop := vmCancelsRow.holds Try.pinned (OpenSpec.ofChange vmCancelsSpec)

/-- ITS FALSE NEIGHBOUR: 'it returns false'. Refute it at one input. -/
def vmCancelsWrong : ChangeSpec := { name := "vmCancels", fn := fun _ => fun
  | [d1, d2, d3] => { results := [.lit (.bool false)], args := [d1, d2, d3] }
  | _ => none }
def VmCancelsWrongFalsely : Prop := vmCancelsRow.holds Try.pinned (OpenSpec.ofChange vmCancelsWrong)

/-- 'tapestrylaw16.VmTasks': WHATEVER THE INPUT: true; the input reads as it did. -/
def vmTasksSpec : ChangeSpec := { name := "vmTasks", fn := fun _ => fun
  | [d1, d2, d3] => { results := [.lit (.bool true)], args := [d1, d2, d3] }
  | _ => none }
def vmTasksRow : OpenClaim := { program := "ytjmdoiakcakfoaa", sum := "d76a80e66e33f580cbb4978dfe4e5115aca13ecf9f8480e7de3d96600f0a30bc", func := "tapestry/tapestrylaw16.VmTasks", spec := "vmTasks", unfollowed := true, recurses := true, plainKeys := false, apart := false }
def VmTasksSaid : Prop := vmTasksRow.holds Try.pinned (OpenSpec.ofChange vmTasksSpec)

/-- ITS FALSE NEIGHBOUR: 'it returns false'. Refute it at one input. -/
def vmTasksWrong : ChangeSpec := { name := "vmTasks", fn := fun _ => fun
  | [d1, d2, d3] => { results := [.lit (.bool false)], args := [d1, d2, d3] }
  | _ => none }
def VmTasksWrongFalsely : Prop := vmTasksRow.holds Try.pinned (OpenSpec.ofChange vmTasksWrong)

/-- 'tapestrylaw16.VmSignals': WHATEVER THE INPUT: true; the input reads as it did. -/
def vmSignalsSpec : ChangeSpec := { name := "vmSignals", fn := fun _ => fun
  | [d1, d2] => { results := [.lit (.bool true)], args := [d1, d2] }
  | _ => none }
def vmSignalsRow : OpenClaim := { program := "ytjmdoiakcakfoaa", sum := "d76a80e66e33f580cbb4978dfe4e5115aca13ecf9f8480e7de3d96600f0a30bc", func := "tapestry/tapestrylaw16.VmSignals", spec := "vmSignals", unfollowed := true, recurses := true, plainKeys := false, apart := false }
def VmSignalsSaid : Prop := vmSignalsRow.holds Try.pinned (OpenSpec.ofChange vmSignalsSpec)

/-- ITS FALSE NEIGHBOUR: 'it returns false'. Refute it at one input. -/
def vmSignalsWrong : ChangeSpec := { name := "vmSignals", fn := fun _ => fun
  | [d1, d2] => { results := [.lit (.bool false)], args := [d1, d2] }
  | _ => none }
def VmSignalsWrongFalsely : Prop := vmSignalsRow.holds Try.pinned (OpenSpec.ofChange vmSignalsWrong)

/-- 'tapestrylaw16.VmOnce': WHATEVER THE INPUT: true; the input reads as it did. -/
def vmOnceSpec : ChangeSpec := { name := "vmOnce", fn := fun _ => fun
  | [d1, d2, d3] => { results := [.lit (.bool true)], args := [d1, d2, d3] }
  | _ => none }
def vmOnceRow : OpenClaim := { program := "ytjmdoiakcakfoaa", sum := "d76a80e66e33f580cbb4978dfe4e5115aca13ecf9f8480e7de3d96600f0a30bc", func := "tapestry/tapestrylaw16.VmOnce", spec := "vmOnce", unfollowed := true, recurses := true, plainKeys := false, apart := false }
def VmOnceSaid : Prop := vmOnceRow.holds Try.pinned (OpenSpec.ofChange vmOnceSpec)

/-- ITS FALSE NEIGHBOUR: 'it returns false'. Refute it at one input. -/
def vmOnceWrong : ChangeSpec := { name := "vmOnce", fn := fun _ => fun
  | [d1, d2, d3] => { results := [.lit (.bool false)], args := [d1, d2, d3] }
  | _ => none }
def VmOnceWrongFalsely : Prop := vmOnceRow.holds Try.pinned (OpenSpec.ofChange vmOnceWrong)

/-- 'tapestrylaw16.VmDrifts': WHATEVER THE INPUT: true; the input reads as it did. -/
def vmDriftsSpec : ChangeSpec := { name := "vmDrifts", fn := fun _ => fun
  | [d] => { results := [.lit (.bool true)], args := [d] }
  | _ => none }
def vmDriftsRow : OpenClaim := { program := "ytjmdoiakcakfoaa", sum := "d76a80e66e33f580cbb4978dfe4e5115aca13ecf9f8480e7de3d96600f0a30bc", func := "tapestry/tapestrylaw16.VmDrifts", spec := "vmDrifts", unfollowed := true, recurses := true, plainKeys := false, apart := false }
def VmDriftsSaid : Prop := vmDriftsRow.holds Try.pinned (OpenSpec.ofChange vmDriftsSpec)

/-- ITS FALSE NEIGHBOUR: 'it returns false'. Refute it at one input. -/
def vmDriftsWrong : ChangeSpec := { name := "vmDrifts", fn := fun _ => fun
  | [d] => { results := [.lit (.bool false)], args := [d] }
  | _ => none }
def VmDriftsWrongFalsely : Prop := vmDriftsRow.holds Try.pinned (OpenSpec.ofChange vmDriftsWrong)

/-- 'tapestrylaw16.VmBack': WHATEVER THE INPUT: true; the input reads as it did. -/
def vmBackSpec : ChangeSpec := { name := "vmBack", fn := fun _ => fun
  | [d1, d2, d3] => { results := [.lit (.bool true)], args := [d1, d2, d3] }
  | _ => none }
def vmBackRow : OpenClaim := { program := "ytjmdoiakcakfoaa", sum := "d76a80e66e33f580cbb4978dfe4e5115aca13ecf9f8480e7de3d96600f0a30bc", func := "tapestry/tapestrylaw16.VmBack", spec := "vmBack", unfollowed := true, recurses := true, plainKeys := false, apart := false }
def VmBackSaid : Prop := vmBackRow.holds Try.pinned (OpenSpec.ofChange vmBackSpec)

/-- ITS FALSE NEIGHBOUR: 'it returns false'. Refute it at one input. -/
def vmBackWrong : ChangeSpec := { name := "vmBack", fn := fun _ => fun
  | [d1, d2, d3] => { results := [.lit (.bool false)], args := [d1, d2, d3] }
  | _ => none }
def VmBackWrongFalsely : Prop := vmBackRow.holds Try.pinned (OpenSpec.ofChange vmBackWrong)

/-- 'tapestrylaw16.VmAsks': WHATEVER THE INPUT: true; the input reads as it did. -/
def vmAsksSpec : ChangeSpec := { name := "vmAsks", fn := fun _ => fun
  | [d] => { results := [.lit (.bool true)], args := [d] }
  | _ => none }
def vmAsksRow : OpenClaim := { program := "ytjmdoiakcakfoaa", sum := "d76a80e66e33f580cbb4978dfe4e5115aca13ecf9f8480e7de3d96600f0a30bc", func := "tapestry/tapestrylaw16.VmAsks", spec := "vmAsks", unfollowed := true, recurses := true, plainKeys := false, apart := false }
def VmAsksSaid : Prop := vmAsksRow.holds Try.pinned (OpenSpec.ofChange vmAsksSpec)

/-- ITS FALSE NEIGHBOUR: 'it returns false'. Refute it at one input. -/
def vmAsksWrong : ChangeSpec := { name := "vmAsks", fn := fun _ => fun
  | [d] => { results := [.lit (.bool false)], args := [d] }
  | _ => none }
def VmAsksWrongFalsely : Prop := vmAsksRow.holds Try.pinned (OpenSpec.ofChange vmAsksWrong)

/- THE SECOND FORM. 'bulk': how many values and letters a reading holds, each counted each time it is reached (what is shared counts as often as it is met; a slice's spare places count too). A statement '..UptoSaid' is the law's where the arguments, and the package variables that the reading takes, are together of bulk at most 1048576: NARROWER than '..Said'. Prove '..Said' where nothing that the law and all that it calls make is longer than what came in: it says more and counts as full. Else prove '..UptoSaid'. A law counts once. -/
mutual
def uptoBulk {H : Type} : DataW H → Nat
  | .lit (.string bytes) => bytes.length + 1
  | .lit _ => 1
  | .nil => 1
  | .ptr d => uptoBulk d + 1
  | .slice elems spare => uptoBulkAll elems + uptoBulkAll spare + 1
  | .agg parts => uptoBulkAll parts + 1
  | .iface _ d => uptoBulk d + 1
  | .map entries => uptoBulkEntries entries + 1
  | .held _ => 1
def uptoBulkAll {H : Type} : List (DataW H) → Nat
  | [] => 0
  | d :: r => uptoBulk d + uptoBulkAll r
def uptoBulkEntries {H : Type} : List (Lit × DataW H) → Nat
  | [] => 0
  | x :: r => uptoBulkEntry x + uptoBulkEntries r
def uptoBulkEntry {H : Type} : Lit × DataW H → Nat
  | (.string bytes, d) => bytes.length + uptoBulk d + 1
  | (_, d) => uptoBulk d + 1
 end
def uptoSmall : (H : Type) → List (DataW H) → Bool := fun _ ds => decide (uptoBulkAll ds ≤ 1048576)
def OpenSpec.upto (s : _root_.Go.ChangeSpec) : _root_.Go.OpenSpec := { _root_.Go.OpenSpec.ofChange s with cond := some uptoSmall }

/-- 'tapestrylaw16.VmNil', WHERE WHAT IT READS IS OF BULK AT MOST 1048576: true; the input reads as it did. -/
def vmNilUptoRow : OpenClaim := { program := "ytjmdoiakcakfoaa", sum := "d76a80e66e33f580cbb4978dfe4e5115aca13ecf9f8480e7de3d96600f0a30bc", func := "tapestry/tapestrylaw16.VmNil", spec := "vmNil", unfollowed := true, recurses := true, plainKeys := false, apart := false, narrowed := true }
def VmNilUptoSaid : Prop := vmNilUptoRow.holds Try.pinned (OpenSpec.upto vmNilSpec)

/-- 'tapestrylaw16.VmCancels', WHERE WHAT IT READS IS OF BULK AT MOST 1048576: true; the input reads as it did. -/
def vmCancelsUptoRow : OpenClaim := { program := "ytjmdoiakcakfoaa", sum := "d76a80e66e33f580cbb4978dfe4e5115aca13ecf9f8480e7de3d96600f0a30bc", func := "tapestry/tapestrylaw16.VmCancels", spec := "vmCancels", unfollowed := true, recurses := true, plainKeys := false, apart := false, narrowed := true }
def VmCancelsUptoSaid : Prop := vmCancelsUptoRow.holds Try.pinned (OpenSpec.upto vmCancelsSpec)

/-- 'tapestrylaw16.VmTasks', WHERE WHAT IT READS IS OF BULK AT MOST 1048576: true; the input reads as it did. -/
def vmTasksUptoRow : OpenClaim := { program := "ytjmdoiakcakfoaa", sum := "d76a80e66e33f580cbb4978dfe4e5115aca13ecf9f8480e7de3d96600f0a30bc", func := "tapestry/tapestrylaw16.VmTasks", spec := "vmTasks", unfollowed := true, recurses := true, plainKeys := false, apart := false, narrowed := true }
def VmTasksUptoSaid : Prop := vmTasksUptoRow.holds Try.pinned (OpenSpec.upto vmTasksSpec)

/-- 'tapestrylaw16.VmSignals', WHERE WHAT IT READS IS OF BULK AT MOST 1048576: true; the input reads as it did. -/
def vmSignalsUptoRow : OpenClaim := { program := "ytjmdoiakcakfoaa", sum := "d76a80e66e33f580cbb4978dfe4e5115aca13ecf9f8480e7de3d96600f0a30bc", func := "tapestry/tapestrylaw16.VmSignals", spec := "vmSignals", unfollowed := true, recurses := true, plainKeys := false, apart := false, narrowed := true }
def VmSignalsUptoSaid : Prop := vmSignalsUptoRow.holds Try.pinned (OpenSpec.upto vmSignalsSpec)

/-- 'tapestrylaw16.VmOnce', WHERE WHAT IT READS IS OF BULK AT MOST 1048576: true; the input reads as it did. -/
def vmOnceUptoRow : OpenClaim := { program := "ytjmdoiakcakfoaa", sum := "d76a80e66e33f580cbb4978dfe4e5115aca13ecf9f8480e7de3d96600f0a30bc", func := "tapestry/tapestrylaw16.VmOnce", spec := "vmOnce", unfollowed := true, recurses := true, plainKeys := false, apart := false, narrowed := true }
def VmOnceUptoSaid : Prop := vmOnceUptoRow.holds Try.pinned (OpenSpec.upto vmOnceSpec)

/-- 'tapestrylaw16.VmDrifts', WHERE WHAT IT READS IS OF BULK AT MOST 1048576: true; the input reads as it did. -/
def vmDriftsUptoRow : OpenClaim := { program := "ytjmdoiakcakfoaa", sum := "d76a80e66e33f580cbb4978dfe4e5115aca13ecf9f8480e7de3d96600f0a30bc", func := "tapestry/tapestrylaw16.VmDrifts", spec := "vmDrifts", unfollowed := true, recurses := true, plainKeys := false, apart := false, narrowed := true }
def VmDriftsUptoSaid : Prop := vmDriftsUptoRow.holds Try.pinned (OpenSpec.upto vmDriftsSpec)

/-- 'tapestrylaw16.VmBack', WHERE WHAT IT READS IS OF BULK AT MOST 1048576: true; the input reads as it did. -/
def vmBackUptoRow : OpenClaim := { program := "ytjmdoiakcakfoaa", sum := "d76a80e66e33f580cbb4978dfe4e5115aca13ecf9f8480e7de3d96600f0a30bc", func := "tapestry/tapestrylaw16.VmBack", spec := "vmBack", unfollowed := true, recurses := true, plainKeys := false, apart := false, narrowed := true }
def VmBackUptoSaid : Prop := vmBackUptoRow.holds Try.pinned (OpenSpec.upto vmBackSpec)

/-- 'tapestrylaw16.VmAsks', WHERE WHAT IT READS IS OF BULK AT MOST 1048576: true; the input reads as it did. -/
def vmAsksUptoRow : OpenClaim := { program := "ytjmdoiakcakfoaa", sum := "d76a80e66e33f580cbb4978dfe4e5115aca13ecf9f8480e7de3d96600f0a30bc", func := "tapestry/tapestrylaw16.VmAsks", spec := "vmAsks", unfollowed := true, recurses := true, plainKeys := false, apart := false, narrowed := true }
def VmAsksUptoSaid : Prop := vmAsksUptoRow.holds Try.pinned (OpenSpec.upto vmAsksSpec)

end Rows
end Go.Proofs.Ytjmdoiakcakfoaa
