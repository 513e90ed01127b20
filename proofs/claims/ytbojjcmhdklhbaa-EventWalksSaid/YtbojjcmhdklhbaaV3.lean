/- By program (axgen.py): the formulas of functions of the translation, and that each gives its function's contract. Conditions: none. -/
import Derived.Test.YtbojjcmhdklhbaaProg
import Derived.Test.YtbojjcmhdklhbaaAxF
set_option maxRecDepth 100000
set_option linter.unusedVariables false
namespace Go.Proofs.Ytbojjcmhdklhbaa
open Go.Ax

/- tapestry/event.name -/
noncomputable def c61 : Cx := { P := Try.prog, res := [], pub := [], loops := [], quiet := [] }
def F61 (n : Int) (H : Heap) (K : Value → Heap → Prop) : Prop :=
 K (Value.bool (decide (n ≥ (0 : Int)) && decide (n < (8 : Int)))) H
theorem v61 {n : Int} {H : Heap} {K : Value → Heap → Prop} (h : F61 n H K) : Tr Try.prog 61 #[.int .i64 n] H K :=
  tr_of_eq (C := c61) Try.func61 (show vcFn c61 Try.f61 [.int .i64 n] H K = F61 n H K by kernel_rfl) h

end Go.Proofs.Ytbojjcmhdklhbaa
