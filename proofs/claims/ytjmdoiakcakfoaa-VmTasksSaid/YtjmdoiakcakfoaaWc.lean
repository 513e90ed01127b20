/- Lemmas that the claim needs, in order. Conditions: those of each lemma. -/
import Derived.Test.YtjmdoiakcakfoaaWb
set_option maxRecDepth 100000
set_option linter.unusedVariables false
namespace Go.Proofs.Ytjmdoiakcakfoaa
open Go.Ax
noncomputable def c27 : Cx := { P := Try.prog, res := [], pub := [], loops := [⟨5, [(33, .int .i64)], [2, 4, 5, 34, 35, 36, 37, 38, 39, 40, 41, 42, 43, 44], []⟩], quiet := [45, 47] }
def F27 (eId : Int) (eTime : Int) (eKind : Int) (eA : Int) (eB : Int) (eC : Int) (eD : Int) (eE : Int) (eF : Int) (H : Heap) (K : Value → Heap → Prop) : Prop :=
 ∃ (x : Int),
 (Tr Try.prog (45 : Nat) #[Value.int IntKind.i64 eKind] H fun (v : Value) (H' : Heap) => v = Value.int IntKind.i64 x ∧ Ax.Sub H H') ∧
 ((decide (x < (0 : Int)) || decide (eId < (1 : Int)) || decide (eId > (256 : Int)) || decide (eTime < (0 : Int)) || decide (eTime > (1099511627776 : Int))) = true → K (Value.bool false) H) ∧
 ((decide (x < (0 : Int)) || decide (eId < (1 : Int)) || decide (eId > (256 : Int)) || decide (eTime < (0 : Int)) || decide (eTime > (1099511627776 : Int))) = false →
 Tr Try.prog (46 : Nat) #[Value.agg #[Value.int IntKind.i64 eId, Value.int IntKind.i64 eTime, Value.int IntKind.i64 eKind, Value.int IntKind.i64 eA, Value.int IntKind.i64 eB, Value.int IntKind.i64 eC, Value.int IntKind.i64 eD, Value.int IntKind.i64 eE, Value.int IntKind.i64 eF]] H fun (v1 : Value) (H'1 : Heap) =>
 ∃ (x1 : Int),
 ∃ (x2 : Int),
 ∃ (x3 : Int),
 ∃ (x4 : Int),
 ∃ (x5 : Int),
 ∃ (x6 : Int),
 v1 = Value.agg #[Value.int IntKind.i64 x1, Value.int IntKind.i64 x2, Value.int IntKind.i64 x3, Value.int IntKind.i64 x4, Value.int IntKind.i64 x5, Value.int IntKind.i64 x6] ∧
 ∃ (Rel : Int → Heap → Prop),
 ∃ (mu : Int → Heap → Nat),
 Rel (0 : Int) H'1 ∧
 ∀ (x7 : Int) (H1 : Heap),
 Rel x7 H1 →
 (decide (x7 < (6 : Int)) = true → ∃ (x8 : Int), arrAt [Value.int IntKind.i64 x1, Value.int IntKind.i64 x2, Value.int IntKind.i64 x3, Value.int IntKind.i64 x4, Value.int IntKind.i64 x5, Value.int IntKind.i64 x6] (6 : Nat) x7 (nat_lit 1) [Value.int IntKind.i64 x8] ∧ ((decide (x7 ≥ x) && x8 != (0 : Int)) = true → K (Value.bool false) H1) ∧ ((decide (x7 ≥ x) && x8 != (0 : Int)) = false → Rel (IntKind.i64.wrap (x7 + (1 : Int))) H1 ∧ mu (IntKind.i64.wrap (x7 + (1 : Int))) H1 < mu x7 H1)) ∧
 (decide (x7 < (6 : Int)) = false → ∃ (b : Bool), (Tr Try.prog (47 : Nat) #[Value.agg #[Value.int IntKind.i64 eId, Value.int IntKind.i64 eTime, Value.int IntKind.i64 eKind, Value.int IntKind.i64 eA, Value.int IntKind.i64 eB, Value.int IntKind.i64 eC, Value.int IntKind.i64 eD, Value.int IntKind.i64 eE, Value.int IntKind.i64 eF]] H1 fun (v2 : Value) (H'2 : Heap) => v2 = Value.bool b ∧ Ax.Sub H1 H'2) ∧ K (Value.bool b) H1))
theorem v27 {eId : Int} {eTime : Int} {eKind : Int} {eA : Int} {eB : Int} {eC : Int} {eD : Int} {eE : Int} {eF : Int} {H : Heap} {K : Value → Heap → Prop} (h : F27 eId eTime eKind eA eB eC eD eE eF H K) : Tr Try.prog 27 #[.agg #[.int .i64 eId, .int .i64 eTime, .int .i64 eKind, .int .i64 eA, .int .i64 eB, .int .i64 eC, .int .i64 eD, .int .i64 eE, .int .i64 eF]] H K :=
  tr_of_eq (C := c27) Try.func27 (show vcFn c27 Try.f27 [.agg #[.int .i64 eId, .int .i64 eTime, .int .i64 eKind, .int .i64 eA, .int .i64 eB, .int .i64 eC, .int .i64 eD, .int .i64 eE, .int .i64 eF]] H K = F27 eId eTime eKind eA eB eC eD eE eF H K by kernel_rfl) h
noncomputable def c45 : Cx := { P := Try.prog, res := [], pub := [], loops := [], quiet := [] }
def F45 (kind : Int) (H : Heap) (K : Value → Heap → Prop) : Prop :=
 ((kind == (1 : Int)) = true → K (Value.int IntKind.i64 (6 : Int)) H) ∧
 ((kind == (1 : Int)) = false →
 ((kind == (9 : Int)) = true →
 ((kind == (9 : Int)) = true → K (Value.int IntKind.i64 (3 : Int)) H) ∧
 ((kind == (9 : Int)) = false →
 ((kind == (3 : Int)) = true → ((kind == (3 : Int)) = true → K (Value.int IntKind.i64 (2 : Int)) H) ∧ ((kind == (3 : Int)) = false → ((kind == (31 : Int)) = true → K (Value.int IntKind.i64 (0 : Int)) H) ∧ ((kind == (31 : Int)) = false → ((decide (kind < (1 : Int)) || decide (kind > (31 : Int))) = true → K (Value.int IntKind.i64 (-1 : Int)) H) ∧ ((decide (kind < (1 : Int)) || decide (kind > (31 : Int))) = false → K (Value.int IntKind.i64 (1 : Int)) H)))) ∧
 ((kind == (3 : Int)) = false →
 ((kind == (5 : Int)) = true → ((kind == (5 : Int)) = true → K (Value.int IntKind.i64 (2 : Int)) H) ∧ ((kind == (5 : Int)) = false → ((kind == (31 : Int)) = true → K (Value.int IntKind.i64 (0 : Int)) H) ∧ ((kind == (31 : Int)) = false → ((decide (kind < (1 : Int)) || decide (kind > (31 : Int))) = true → K (Value.int IntKind.i64 (-1 : Int)) H) ∧ ((decide (kind < (1 : Int)) || decide (kind > (31 : Int))) = false → K (Value.int IntKind.i64 (1 : Int)) H)))) ∧
 ((kind == (5 : Int)) = false →
 ((kind == (10 : Int)) = true → ((kind == (10 : Int)) = true → K (Value.int IntKind.i64 (2 : Int)) H) ∧ ((kind == (10 : Int)) = false → ((kind == (31 : Int)) = true → K (Value.int IntKind.i64 (0 : Int)) H) ∧ ((kind == (31 : Int)) = false → ((decide (kind < (1 : Int)) || decide (kind > (31 : Int))) = true → K (Value.int IntKind.i64 (-1 : Int)) H) ∧ ((decide (kind < (1 : Int)) || decide (kind > (31 : Int))) = false → K (Value.int IntKind.i64 (1 : Int)) H)))) ∧
 ((kind == (10 : Int)) = false →
 ((kind == (13 : Int)) = true → ((kind == (13 : Int)) = true → K (Value.int IntKind.i64 (2 : Int)) H) ∧ ((kind == (13 : Int)) = false → ((kind == (31 : Int)) = true → K (Value.int IntKind.i64 (0 : Int)) H) ∧ ((kind == (31 : Int)) = false → ((decide (kind < (1 : Int)) || decide (kind > (31 : Int))) = true → K (Value.int IntKind.i64 (-1 : Int)) H) ∧ ((decide (kind < (1 : Int)) || decide (kind > (31 : Int))) = false → K (Value.int IntKind.i64 (1 : Int)) H)))) ∧
 ((kind == (13 : Int)) = false →
 ((kind == (18 : Int)) = true → ((kind == (18 : Int)) = true → K (Value.int IntKind.i64 (2 : Int)) H) ∧ ((kind == (18 : Int)) = false → ((kind == (31 : Int)) = true → K (Value.int IntKind.i64 (0 : Int)) H) ∧ ((kind == (31 : Int)) = false → ((decide (kind < (1 : Int)) || decide (kind > (31 : Int))) = true → K (Value.int IntKind.i64 (-1 : Int)) H) ∧ ((decide (kind < (1 : Int)) || decide (kind > (31 : Int))) = false → K (Value.int IntKind.i64 (1 : Int)) H)))) ∧
 ((kind == (18 : Int)) = false →
 ((kind == (26 : Int)) = true → ((kind == (26 : Int)) = true → K (Value.int IntKind.i64 (2 : Int)) H) ∧ ((kind == (26 : Int)) = false → ((kind == (31 : Int)) = true → K (Value.int IntKind.i64 (0 : Int)) H) ∧ ((kind == (31 : Int)) = false → ((decide (kind < (1 : Int)) || decide (kind > (31 : Int))) = true → K (Value.int IntKind.i64 (-1 : Int)) H) ∧ ((decide (kind < (1 : Int)) || decide (kind > (31 : Int))) = false → K (Value.int IntKind.i64 (1 : Int)) H)))) ∧
 ((kind == (26 : Int)) = false →
 ((kind == (27 : Int)) = true → ((kind == (27 : Int)) = true → K (Value.int IntKind.i64 (2 : Int)) H) ∧ ((kind == (27 : Int)) = false → ((kind == (31 : Int)) = true → K (Value.int IntKind.i64 (0 : Int)) H) ∧ ((kind == (31 : Int)) = false → ((decide (kind < (1 : Int)) || decide (kind > (31 : Int))) = true → K (Value.int IntKind.i64 (-1 : Int)) H) ∧ ((decide (kind < (1 : Int)) || decide (kind > (31 : Int))) = false → K (Value.int IntKind.i64 (1 : Int)) H)))) ∧
 ((kind == (27 : Int)) = false → ((kind == (29 : Int)) = true → K (Value.int IntKind.i64 (2 : Int)) H) ∧ ((kind == (29 : Int)) = false → ((kind == (31 : Int)) = true → K (Value.int IntKind.i64 (0 : Int)) H) ∧ ((kind == (31 : Int)) = false → ((decide (kind < (1 : Int)) || decide (kind > (31 : Int))) = true → K (Value.int IntKind.i64 (-1 : Int)) H) ∧ ((decide (kind < (1 : Int)) || decide (kind > (31 : Int))) = false → K (Value.int IntKind.i64 (1 : Int)) H)))))))))))) ∧
 ((kind == (9 : Int)) = false →
 ((kind == (14 : Int)) = true →
 ((kind == (14 : Int)) = true → K (Value.int IntKind.i64 (3 : Int)) H) ∧
 ((kind == (14 : Int)) = false →
 ((kind == (3 : Int)) = true → ((kind == (3 : Int)) = true → K (Value.int IntKind.i64 (2 : Int)) H) ∧ ((kind == (3 : Int)) = false → ((kind == (31 : Int)) = true → K (Value.int IntKind.i64 (0 : Int)) H) ∧ ((kind == (31 : Int)) = false → ((decide (kind < (1 : Int)) || decide (kind > (31 : Int))) = true → K (Value.int IntKind.i64 (-1 : Int)) H) ∧ ((decide (kind < (1 : Int)) || decide (kind > (31 : Int))) = false → K (Value.int IntKind.i64 (1 : Int)) H)))) ∧
 ((kind == (3 : Int)) = false →
 ((kind == (5 : Int)) = true → ((kind == (5 : Int)) = true → K (Value.int IntKind.i64 (2 : Int)) H) ∧ ((kind == (5 : Int)) = false → ((kind == (31 : Int)) = true → K (Value.int IntKind.i64 (0 : Int)) H) ∧ ((kind == (31 : Int)) = false → ((decide (kind < (1 : Int)) || decide (kind > (31 : Int))) = true → K (Value.int IntKind.i64 (-1 : Int)) H) ∧ ((decide (kind < (1 : Int)) || decide (kind > (31 : Int))) = false → K (Value.int IntKind.i64 (1 : Int)) H)))) ∧
 ((kind == (5 : Int)) = false →
 ((kind == (10 : Int)) = true → ((kind == (10 : Int)) = true → K (Value.int IntKind.i64 (2 : Int)) H) ∧ ((kind == (10 : Int)) = false → ((kind == (31 : Int)) = true → K (Value.int IntKind.i64 (0 : Int)) H) ∧ ((kind == (31 : Int)) = false → ((decide (kind < (1 : Int)) || decide (kind > (31 : Int))) = true → K (Value.int IntKind.i64 (-1 : Int)) H) ∧ ((decide (kind < (1 : Int)) || decide (kind > (31 : Int))) = false → K (Value.int IntKind.i64 (1 : Int)) H)))) ∧
 ((kind == (10 : Int)) = false →
 ((kind == (13 : Int)) = true → ((kind == (13 : Int)) = true → K (Value.int IntKind.i64 (2 : Int)) H) ∧ ((kind == (13 : Int)) = false → ((kind == (31 : Int)) = true → K (Value.int IntKind.i64 (0 : Int)) H) ∧ ((kind == (31 : Int)) = false → ((decide (kind < (1 : Int)) || decide (kind > (31 : Int))) = true → K (Value.int IntKind.i64 (-1 : Int)) H) ∧ ((decide (kind < (1 : Int)) || decide (kind > (31 : Int))) = false → K (Value.int IntKind.i64 (1 : Int)) H)))) ∧
 ((kind == (13 : Int)) = false →
 ((kind == (18 : Int)) = true → ((kind == (18 : Int)) = true → K (Value.int IntKind.i64 (2 : Int)) H) ∧ ((kind == (18 : Int)) = false → ((kind == (31 : Int)) = true → K (Value.int IntKind.i64 (0 : Int)) H) ∧ ((kind == (31 : Int)) = false → ((decide (kind < (1 : Int)) || decide (kind > (31 : Int))) = true → K (Value.int IntKind.i64 (-1 : Int)) H) ∧ ((decide (kind < (1 : Int)) || decide (kind > (31 : Int))) = false → K (Value.int IntKind.i64 (1 : Int)) H)))) ∧
 ((kind == (18 : Int)) = false →
 ((kind == (26 : Int)) = true → ((kind == (26 : Int)) = true → K (Value.int IntKind.i64 (2 : Int)) H) ∧ ((kind == (26 : Int)) = false → ((kind == (31 : Int)) = true → K (Value.int IntKind.i64 (0 : Int)) H) ∧ ((kind == (31 : Int)) = false → ((decide (kind < (1 : Int)) || decide (kind > (31 : Int))) = true → K (Value.int IntKind.i64 (-1 : Int)) H) ∧ ((decide (kind < (1 : Int)) || decide (kind > (31 : Int))) = false → K (Value.int IntKind.i64 (1 : Int)) H)))) ∧
 ((kind == (26 : Int)) = false →
 ((kind == (27 : Int)) = true → ((kind == (27 : Int)) = true → K (Value.int IntKind.i64 (2 : Int)) H) ∧ ((kind == (27 : Int)) = false → ((kind == (31 : Int)) = true → K (Value.int IntKind.i64 (0 : Int)) H) ∧ ((kind == (31 : Int)) = false → ((decide (kind < (1 : Int)) || decide (kind > (31 : Int))) = true → K (Value.int IntKind.i64 (-1 : Int)) H) ∧ ((decide (kind < (1 : Int)) || decide (kind > (31 : Int))) = false → K (Value.int IntKind.i64 (1 : Int)) H)))) ∧
 ((kind == (27 : Int)) = false → ((kind == (29 : Int)) = true → K (Value.int IntKind.i64 (2 : Int)) H) ∧ ((kind == (29 : Int)) = false → ((kind == (31 : Int)) = true → K (Value.int IntKind.i64 (0 : Int)) H) ∧ ((kind == (31 : Int)) = false → ((decide (kind < (1 : Int)) || decide (kind > (31 : Int))) = true → K (Value.int IntKind.i64 (-1 : Int)) H) ∧ ((decide (kind < (1 : Int)) || decide (kind > (31 : Int))) = false → K (Value.int IntKind.i64 (1 : Int)) H)))))))))))) ∧
 ((kind == (14 : Int)) = false →
 ((kind == (19 : Int)) = true →
 ((kind == (19 : Int)) = true → K (Value.int IntKind.i64 (3 : Int)) H) ∧
 ((kind == (19 : Int)) = false →
 ((kind == (3 : Int)) = true → ((kind == (3 : Int)) = true → K (Value.int IntKind.i64 (2 : Int)) H) ∧ ((kind == (3 : Int)) = false → ((kind == (31 : Int)) = true → K (Value.int IntKind.i64 (0 : Int)) H) ∧ ((kind == (31 : Int)) = false → ((decide (kind < (1 : Int)) || decide (kind > (31 : Int))) = true → K (Value.int IntKind.i64 (-1 : Int)) H) ∧ ((decide (kind < (1 : Int)) || decide (kind > (31 : Int))) = false → K (Value.int IntKind.i64 (1 : Int)) H)))) ∧
 ((kind == (3 : Int)) = false →
 ((kind == (5 : Int)) = true → ((kind == (5 : Int)) = true → K (Value.int IntKind.i64 (2 : Int)) H) ∧ ((kind == (5 : Int)) = false → ((kind == (31 : Int)) = true → K (Value.int IntKind.i64 (0 : Int)) H) ∧ ((kind == (31 : Int)) = false → ((decide (kind < (1 : Int)) || decide (kind > (31 : Int))) = true → K (Value.int IntKind.i64 (-1 : Int)) H) ∧ ((decide (kind < (1 : Int)) || decide (kind > (31 : Int))) = false → K (Value.int IntKind.i64 (1 : Int)) H)))) ∧
 ((kind == (5 : Int)) = false →
 ((kind == (10 : Int)) = true → ((kind == (10 : Int)) = true → K (Value.int IntKind.i64 (2 : Int)) H) ∧ ((kind == (10 : Int)) = false → ((kind == (31 : Int)) = true → K (Value.int IntKind.i64 (0 : Int)) H) ∧ ((kind == (31 : Int)) = false → ((decide (kind < (1 : Int)) || decide (kind > (31 : Int))) = true → K (Value.int IntKind.i64 (-1 : Int)) H) ∧ ((decide (kind < (1 : Int)) || decide (kind > (31 : Int))) = false → K (Value.int IntKind.i64 (1 : Int)) H)))) ∧
 ((kind == (10 : Int)) = false →
 ((kind == (13 : Int)) = true → ((kind == (13 : Int)) = true → K (Value.int IntKind.i64 (2 : Int)) H) ∧ ((kind == (13 : Int)) = false → ((kind == (31 : Int)) = true → K (Value.int IntKind.i64 (0 : Int)) H) ∧ ((kind == (31 : Int)) = false → ((decide (kind < (1 : Int)) || decide (kind > (31 : Int))) = true → K (Value.int IntKind.i64 (-1 : Int)) H) ∧ ((decide (kind < (1 : Int)) || decide (kind > (31 : Int))) = false → K (Value.int IntKind.i64 (1 : Int)) H)))) ∧
 ((kind == (13 : Int)) = false →
 ((kind == (18 : Int)) = true → ((kind == (18 : Int)) = true → K (Value.int IntKind.i64 (2 : Int)) H) ∧ ((kind == (18 : Int)) = false → ((kind == (31 : Int)) = true → K (Value.int IntKind.i64 (0 : Int)) H) ∧ ((kind == (31 : Int)) = false → ((decide (kind < (1 : Int)) || decide (kind > (31 : Int))) = true → K (Value.int IntKind.i64 (-1 : Int)) H) ∧ ((decide (kind < (1 : Int)) || decide (kind > (31 : Int))) = false → K (Value.int IntKind.i64 (1 : Int)) H)))) ∧
 ((kind == (18 : Int)) = false →
 ((kind == (26 : Int)) = true → ((kind == (26 : Int)) = true → K (Value.int IntKind.i64 (2 : Int)) H) ∧ ((kind == (26 : Int)) = false → ((kind == (31 : Int)) = true → K (Value.int IntKind.i64 (0 : Int)) H) ∧ ((kind == (31 : Int)) = false → ((decide (kind < (1 : Int)) || decide (kind > (31 : Int))) = true → K (Value.int IntKind.i64 (-1 : Int)) H) ∧ ((decide (kind < (1 : Int)) || decide (kind > (31 : Int))) = false → K (Value.int IntKind.i64 (1 : Int)) H)))) ∧
 ((kind == (26 : Int)) = false →
 ((kind == (27 : Int)) = true → ((kind == (27 : Int)) = true → K (Value.int IntKind.i64 (2 : Int)) H) ∧ ((kind == (27 : Int)) = false → ((kind == (31 : Int)) = true → K (Value.int IntKind.i64 (0 : Int)) H) ∧ ((kind == (31 : Int)) = false → ((decide (kind < (1 : Int)) || decide (kind > (31 : Int))) = true → K (Value.int IntKind.i64 (-1 : Int)) H) ∧ ((decide (kind < (1 : Int)) || decide (kind > (31 : Int))) = false → K (Value.int IntKind.i64 (1 : Int)) H)))) ∧
 ((kind == (27 : Int)) = false → ((kind == (29 : Int)) = true → K (Value.int IntKind.i64 (2 : Int)) H) ∧ ((kind == (29 : Int)) = false → ((kind == (31 : Int)) = true → K (Value.int IntKind.i64 (0 : Int)) H) ∧ ((kind == (31 : Int)) = false → ((decide (kind < (1 : Int)) || decide (kind > (31 : Int))) = true → K (Value.int IntKind.i64 (-1 : Int)) H) ∧ ((decide (kind < (1 : Int)) || decide (kind > (31 : Int))) = false → K (Value.int IntKind.i64 (1 : Int)) H)))))))))))) ∧
 ((kind == (19 : Int)) = false →
 ((kind == (21 : Int)) = true →
 ((kind == (21 : Int)) = true → K (Value.int IntKind.i64 (3 : Int)) H) ∧
 ((kind == (21 : Int)) = false →
 ((kind == (3 : Int)) = true → ((kind == (3 : Int)) = true → K (Value.int IntKind.i64 (2 : Int)) H) ∧ ((kind == (3 : Int)) = false → ((kind == (31 : Int)) = true → K (Value.int IntKind.i64 (0 : Int)) H) ∧ ((kind == (31 : Int)) = false → ((decide (kind < (1 : Int)) || decide (kind > (31 : Int))) = true → K (Value.int IntKind.i64 (-1 : Int)) H) ∧ ((decide (kind < (1 : Int)) || decide (kind > (31 : Int))) = false → K (Value.int IntKind.i64 (1 : Int)) H)))) ∧
 ((kind == (3 : Int)) = false →
 ((kind == (5 : Int)) = true → ((kind == (5 : Int)) = true → K (Value.int IntKind.i64 (2 : Int)) H) ∧ ((kind == (5 : Int)) = false → ((kind == (31 : Int)) = true → K (Value.int IntKind.i64 (0 : Int)) H) ∧ ((kind == (31 : Int)) = false → ((decide (kind < (1 : Int)) || decide (kind > (31 : Int))) = true → K (Value.int IntKind.i64 (-1 : Int)) H) ∧ ((decide (kind < (1 : Int)) || decide (kind > (31 : Int))) = false → K (Value.int IntKind.i64 (1 : Int)) H)))) ∧
 ((kind == (5 : Int)) = false →
 ((kind == (10 : Int)) = true → ((kind == (10 : Int)) = true → K (Value.int IntKind.i64 (2 : Int)) H) ∧ ((kind == (10 : Int)) = false → ((kind == (31 : Int)) = true → K (Value.int IntKind.i64 (0 : Int)) H) ∧ ((kind == (31 : Int)) = false → ((decide (kind < (1 : Int)) || decide (kind > (31 : Int))) = true → K (Value.int IntKind.i64 (-1 : Int)) H) ∧ ((decide (kind < (1 : Int)) || decide (kind > (31 : Int))) = false → K (Value.int IntKind.i64 (1 : Int)) H)))) ∧
 ((kind == (10 : Int)) = false →
 ((kind == (13 : Int)) = true → ((kind == (13 : Int)) = true → K (Value.int IntKind.i64 (2 : Int)) H) ∧ ((kind == (13 : Int)) = false → ((kind == (31 : Int)) = true → K (Value.int IntKind.i64 (0 : Int)) H) ∧ ((kind == (31 : Int)) = false → ((decide (kind < (1 : Int)) || decide (kind > (31 : Int))) = true → K (Value.int IntKind.i64 (-1 : Int)) H) ∧ ((decide (kind < (1 : Int)) || decide (kind > (31 : Int))) = false → K (Value.int IntKind.i64 (1 : Int)) H)))) ∧
 ((kind == (13 : Int)) = false →
 ((kind == (18 : Int)) = true → ((kind == (18 : Int)) = true → K (Value.int IntKind.i64 (2 : Int)) H) ∧ ((kind == (18 : Int)) = false → ((kind == (31 : Int)) = true → K (Value.int IntKind.i64 (0 : Int)) H) ∧ ((kind == (31 : Int)) = false → ((decide (kind < (1 : Int)) || decide (kind > (31 : Int))) = true → K (Value.int IntKind.i64 (-1 : Int)) H) ∧ ((decide (kind < (1 : Int)) || decide (kind > (31 : Int))) = false → K (Value.int IntKind.i64 (1 : Int)) H)))) ∧
 ((kind == (18 : Int)) = false →
 ((kind == (26 : Int)) = true → ((kind == (26 : Int)) = true → K (Value.int IntKind.i64 (2 : Int)) H) ∧ ((kind == (26 : Int)) = false → ((kind == (31 : Int)) = true → K (Value.int IntKind.i64 (0 : Int)) H) ∧ ((kind == (31 : Int)) = false → ((decide (kind < (1 : Int)) || decide (kind > (31 : Int))) = true → K (Value.int IntKind.i64 (-1 : Int)) H) ∧ ((decide (kind < (1 : Int)) || decide (kind > (31 : Int))) = false → K (Value.int IntKind.i64 (1 : Int)) H)))) ∧
 ((kind == (26 : Int)) = false →
 ((kind == (27 : Int)) = true → ((kind == (27 : Int)) = true → K (Value.int IntKind.i64 (2 : Int)) H) ∧ ((kind == (27 : Int)) = false → ((kind == (31 : Int)) = true → K (Value.int IntKind.i64 (0 : Int)) H) ∧ ((kind == (31 : Int)) = false → ((decide (kind < (1 : Int)) || decide (kind > (31 : Int))) = true → K (Value.int IntKind.i64 (-1 : Int)) H) ∧ ((decide (kind < (1 : Int)) || decide (kind > (31 : Int))) = false → K (Value.int IntKind.i64 (1 : Int)) H)))) ∧
 ((kind == (27 : Int)) = false → ((kind == (29 : Int)) = true → K (Value.int IntKind.i64 (2 : Int)) H) ∧ ((kind == (29 : Int)) = false → ((kind == (31 : Int)) = true → K (Value.int IntKind.i64 (0 : Int)) H) ∧ ((kind == (31 : Int)) = false → ((decide (kind < (1 : Int)) || decide (kind > (31 : Int))) = true → K (Value.int IntKind.i64 (-1 : Int)) H) ∧ ((decide (kind < (1 : Int)) || decide (kind > (31 : Int))) = false → K (Value.int IntKind.i64 (1 : Int)) H)))))))))))) ∧
 ((kind == (21 : Int)) = false →
 ((kind == (22 : Int)) = true →
 ((kind == (22 : Int)) = true → K (Value.int IntKind.i64 (3 : Int)) H) ∧
 ((kind == (22 : Int)) = false →
 ((kind == (3 : Int)) = true → ((kind == (3 : Int)) = true → K (Value.int IntKind.i64 (2 : Int)) H) ∧ ((kind == (3 : Int)) = false → ((kind == (31 : Int)) = true → K (Value.int IntKind.i64 (0 : Int)) H) ∧ ((kind == (31 : Int)) = false → ((decide (kind < (1 : Int)) || decide (kind > (31 : Int))) = true → K (Value.int IntKind.i64 (-1 : Int)) H) ∧ ((decide (kind < (1 : Int)) || decide (kind > (31 : Int))) = false → K (Value.int IntKind.i64 (1 : Int)) H)))) ∧
 ((kind == (3 : Int)) = false →
 ((kind == (5 : Int)) = true → ((kind == (5 : Int)) = true → K (Value.int IntKind.i64 (2 : Int)) H) ∧ ((kind == (5 : Int)) = false → ((kind == (31 : Int)) = true → K (Value.int IntKind.i64 (0 : Int)) H) ∧ ((kind == (31 : Int)) = false → ((decide (kind < (1 : Int)) || decide (kind > (31 : Int))) = true → K (Value.int IntKind.i64 (-1 : Int)) H) ∧ ((decide (kind < (1 : Int)) || decide (kind > (31 : Int))) = false → K (Value.int IntKind.i64 (1 : Int)) H)))) ∧
 ((kind == (5 : Int)) = false →
 ((kind == (10 : Int)) = true → ((kind == (10 : Int)) = true → K (Value.int IntKind.i64 (2 : Int)) H) ∧ ((kind == (10 : Int)) = false → ((kind == (31 : Int)) = true → K (Value.int IntKind.i64 (0 : Int)) H) ∧ ((kind == (31 : Int)) = false → ((decide (kind < (1 : Int)) || decide (kind > (31 : Int))) = true → K (Value.int IntKind.i64 (-1 : Int)) H) ∧ ((decide (kind < (1 : Int)) || decide (kind > (31 : Int))) = false → K (Value.int IntKind.i64 (1 : Int)) H)))) ∧
 ((kind == (10 : Int)) = false →
 ((kind == (13 : Int)) = true → ((kind == (13 : Int)) = true → K (Value.int IntKind.i64 (2 : Int)) H) ∧ ((kind == (13 : Int)) = false → ((kind == (31 : Int)) = true → K (Value.int IntKind.i64 (0 : Int)) H) ∧ ((kind == (31 : Int)) = false → ((decide (kind < (1 : Int)) || decide (kind > (31 : Int))) = true → K (Value.int IntKind.i64 (-1 : Int)) H) ∧ ((decide (kind < (1 : Int)) || decide (kind > (31 : Int))) = false → K (Value.int IntKind.i64 (1 : Int)) H)))) ∧
 ((kind == (13 : Int)) = false →
 ((kind == (18 : Int)) = true → ((kind == (18 : Int)) = true → K (Value.int IntKind.i64 (2 : Int)) H) ∧ ((kind == (18 : Int)) = false → ((kind == (31 : Int)) = true → K (Value.int IntKind.i64 (0 : Int)) H) ∧ ((kind == (31 : Int)) = false → ((decide (kind < (1 : Int)) || decide (kind > (31 : Int))) = true → K (Value.int IntKind.i64 (-1 : Int)) H) ∧ ((decide (kind < (1 : Int)) || decide (kind > (31 : Int))) = false → K (Value.int IntKind.i64 (1 : Int)) H)))) ∧
 ((kind == (18 : Int)) = false →
 ((kind == (26 : Int)) = true → ((kind == (26 : Int)) = true → K (Value.int IntKind.i64 (2 : Int)) H) ∧ ((kind == (26 : Int)) = false → ((kind == (31 : Int)) = true → K (Value.int IntKind.i64 (0 : Int)) H) ∧ ((kind == (31 : Int)) = false → ((decide (kind < (1 : Int)) || decide (kind > (31 : Int))) = true → K (Value.int IntKind.i64 (-1 : Int)) H) ∧ ((decide (kind < (1 : Int)) || decide (kind > (31 : Int))) = false → K (Value.int IntKind.i64 (1 : Int)) H)))) ∧
 ((kind == (26 : Int)) = false →
 ((kind == (27 : Int)) = true → ((kind == (27 : Int)) = true → K (Value.int IntKind.i64 (2 : Int)) H) ∧ ((kind == (27 : Int)) = false → ((kind == (31 : Int)) = true → K (Value.int IntKind.i64 (0 : Int)) H) ∧ ((kind == (31 : Int)) = false → ((decide (kind < (1 : Int)) || decide (kind > (31 : Int))) = true → K (Value.int IntKind.i64 (-1 : Int)) H) ∧ ((decide (kind < (1 : Int)) || decide (kind > (31 : Int))) = false → K (Value.int IntKind.i64 (1 : Int)) H)))) ∧
 ((kind == (27 : Int)) = false → ((kind == (29 : Int)) = true → K (Value.int IntKind.i64 (2 : Int)) H) ∧ ((kind == (29 : Int)) = false → ((kind == (31 : Int)) = true → K (Value.int IntKind.i64 (0 : Int)) H) ∧ ((kind == (31 : Int)) = false → ((decide (kind < (1 : Int)) || decide (kind > (31 : Int))) = true → K (Value.int IntKind.i64 (-1 : Int)) H) ∧ ((decide (kind < (1 : Int)) || decide (kind > (31 : Int))) = false → K (Value.int IntKind.i64 (1 : Int)) H)))))))))))) ∧
 ((kind == (22 : Int)) = false →
 ((kind == (23 : Int)) = true →
 ((kind == (23 : Int)) = true → K (Value.int IntKind.i64 (3 : Int)) H) ∧
 ((kind == (23 : Int)) = false →
 ((kind == (3 : Int)) = true → ((kind == (3 : Int)) = true → K (Value.int IntKind.i64 (2 : Int)) H) ∧ ((kind == (3 : Int)) = false → ((kind == (31 : Int)) = true → K (Value.int IntKind.i64 (0 : Int)) H) ∧ ((kind == (31 : Int)) = false → ((decide (kind < (1 : Int)) || decide (kind > (31 : Int))) = true → K (Value.int IntKind.i64 (-1 : Int)) H) ∧ ((decide (kind < (1 : Int)) || decide (kind > (31 : Int))) = false → K (Value.int IntKind.i64 (1 : Int)) H)))) ∧
 ((kind == (3 : Int)) = false →
 ((kind == (5 : Int)) = true → ((kind == (5 : Int)) = true → K (Value.int IntKind.i64 (2 : Int)) H) ∧ ((kind == (5 : Int)) = false → ((kind == (31 : Int)) = true → K (Value.int IntKind.i64 (0 : Int)) H) ∧ ((kind == (31 : Int)) = false → ((decide (kind < (1 : Int)) || decide (kind > (31 : Int))) = true → K (Value.int IntKind.i64 (-1 : Int)) H) ∧ ((decide (kind < (1 : Int)) || decide (kind > (31 : Int))) = false → K (Value.int IntKind.i64 (1 : Int)) H)))) ∧
 ((kind == (5 : Int)) = false →
 ((kind == (10 : Int)) = true → ((kind == (10 : Int)) = true → K (Value.int IntKind.i64 (2 : Int)) H) ∧ ((kind == (10 : Int)) = false → ((kind == (31 : Int)) = true → K (Value.int IntKind.i64 (0 : Int)) H) ∧ ((kind == (31 : Int)) = false → ((decide (kind < (1 : Int)) || decide (kind > (31 : Int))) = true → K (Value.int IntKind.i64 (-1 : Int)) H) ∧ ((decide (kind < (1 : Int)) || decide (kind > (31 : Int))) = false → K (Value.int IntKind.i64 (1 : Int)) H)))) ∧
 ((kind == (10 : Int)) = false →
 ((kind == (13 : Int)) = true → ((kind == (13 : Int)) = true → K (Value.int IntKind.i64 (2 : Int)) H) ∧ ((kind == (13 : Int)) = false → ((kind == (31 : Int)) = true → K (Value.int IntKind.i64 (0 : Int)) H) ∧ ((kind == (31 : Int)) = false → ((decide (kind < (1 : Int)) || decide (kind > (31 : Int))) = true → K (Value.int IntKind.i64 (-1 : Int)) H) ∧ ((decide (kind < (1 : Int)) || decide (kind > (31 : Int))) = false → K (Value.int IntKind.i64 (1 : Int)) H)))) ∧
 ((kind == (13 : Int)) = false →
 ((kind == (18 : Int)) = true → ((kind == (18 : Int)) = true → K (Value.int IntKind.i64 (2 : Int)) H) ∧ ((kind == (18 : Int)) = false → ((kind == (31 : Int)) = true → K (Value.int IntKind.i64 (0 : Int)) H) ∧ ((kind == (31 : Int)) = false → ((decide (kind < (1 : Int)) || decide (kind > (31 : Int))) = true → K (Value.int IntKind.i64 (-1 : Int)) H) ∧ ((decide (kind < (1 : Int)) || decide (kind > (31 : Int))) = false → K (Value.int IntKind.i64 (1 : Int)) H)))) ∧
 ((kind == (18 : Int)) = false →
 ((kind == (26 : Int)) = true → ((kind == (26 : Int)) = true → K (Value.int IntKind.i64 (2 : Int)) H) ∧ ((kind == (26 : Int)) = false → ((kind == (31 : Int)) = true → K (Value.int IntKind.i64 (0 : Int)) H) ∧ ((kind == (31 : Int)) = false → ((decide (kind < (1 : Int)) || decide (kind > (31 : Int))) = true → K (Value.int IntKind.i64 (-1 : Int)) H) ∧ ((decide (kind < (1 : Int)) || decide (kind > (31 : Int))) = false → K (Value.int IntKind.i64 (1 : Int)) H)))) ∧
 ((kind == (26 : Int)) = false →
 ((kind == (27 : Int)) = true → ((kind == (27 : Int)) = true → K (Value.int IntKind.i64 (2 : Int)) H) ∧ ((kind == (27 : Int)) = false → ((kind == (31 : Int)) = true → K (Value.int IntKind.i64 (0 : Int)) H) ∧ ((kind == (31 : Int)) = false → ((decide (kind < (1 : Int)) || decide (kind > (31 : Int))) = true → K (Value.int IntKind.i64 (-1 : Int)) H) ∧ ((decide (kind < (1 : Int)) || decide (kind > (31 : Int))) = false → K (Value.int IntKind.i64 (1 : Int)) H)))) ∧
 ((kind == (27 : Int)) = false → ((kind == (29 : Int)) = true → K (Value.int IntKind.i64 (2 : Int)) H) ∧ ((kind == (29 : Int)) = false → ((kind == (31 : Int)) = true → K (Value.int IntKind.i64 (0 : Int)) H) ∧ ((kind == (31 : Int)) = false → ((decide (kind < (1 : Int)) || decide (kind > (31 : Int))) = true → K (Value.int IntKind.i64 (-1 : Int)) H) ∧ ((decide (kind < (1 : Int)) || decide (kind > (31 : Int))) = false → K (Value.int IntKind.i64 (1 : Int)) H)))))))))))) ∧
 ((kind == (23 : Int)) = false →
 ((kind == (24 : Int)) = true →
 ((kind == (24 : Int)) = true → K (Value.int IntKind.i64 (3 : Int)) H) ∧
 ((kind == (24 : Int)) = false →
 ((kind == (3 : Int)) = true → ((kind == (3 : Int)) = true → K (Value.int IntKind.i64 (2 : Int)) H) ∧ ((kind == (3 : Int)) = false → ((kind == (31 : Int)) = true → K (Value.int IntKind.i64 (0 : Int)) H) ∧ ((kind == (31 : Int)) = false → ((decide (kind < (1 : Int)) || decide (kind > (31 : Int))) = true → K (Value.int IntKind.i64 (-1 : Int)) H) ∧ ((decide (kind < (1 : Int)) || decide (kind > (31 : Int))) = false → K (Value.int IntKind.i64 (1 : Int)) H)))) ∧
 ((kind == (3 : Int)) = false →
 ((kind == (5 : Int)) = true → ((kind == (5 : Int)) = true → K (Value.int IntKind.i64 (2 : Int)) H) ∧ ((kind == (5 : Int)) = false → ((kind == (31 : Int)) = true → K (Value.int IntKind.i64 (0 : Int)) H) ∧ ((kind == (31 : Int)) = false → ((decide (kind < (1 : Int)) || decide (kind > (31 : Int))) = true → K (Value.int IntKind.i64 (-1 : Int)) H) ∧ ((decide (kind < (1 : Int)) || decide (kind > (31 : Int))) = false → K (Value.int IntKind.i64 (1 : Int)) H)))) ∧
 ((kind == (5 : Int)) = false →
 ((kind == (10 : Int)) = true → ((kind == (10 : Int)) = true → K (Value.int IntKind.i64 (2 : Int)) H) ∧ ((kind == (10 : Int)) = false → ((kind == (31 : Int)) = true → K (Value.int IntKind.i64 (0 : Int)) H) ∧ ((kind == (31 : Int)) = false → ((decide (kind < (1 : Int)) || decide (kind > (31 : Int))) = true → K (Value.int IntKind.i64 (-1 : Int)) H) ∧ ((decide (kind < (1 : Int)) || decide (kind > (31 : Int))) = false → K (Value.int IntKind.i64 (1 : Int)) H)))) ∧
 ((kind == (10 : Int)) = false →
 ((kind == (13 : Int)) = true → ((kind == (13 : Int)) = true → K (Value.int IntKind.i64 (2 : Int)) H) ∧ ((kind == (13 : Int)) = false → ((kind == (31 : Int)) = true → K (Value.int IntKind.i64 (0 : Int)) H) ∧ ((kind == (31 : Int)) = false → ((decide (kind < (1 : Int)) || decide (kind > (31 : Int))) = true → K (Value.int IntKind.i64 (-1 : Int)) H) ∧ ((decide (kind < (1 : Int)) || decide (kind > (31 : Int))) = false → K (Value.int IntKind.i64 (1 : Int)) H)))) ∧
 ((kind == (13 : Int)) = false →
 ((kind == (18 : Int)) = true → ((kind == (18 : Int)) = true → K (Value.int IntKind.i64 (2 : Int)) H) ∧ ((kind == (18 : Int)) = false → ((kind == (31 : Int)) = true → K (Value.int IntKind.i64 (0 : Int)) H) ∧ ((kind == (31 : Int)) = false → ((decide (kind < (1 : Int)) || decide (kind > (31 : Int))) = true → K (Value.int IntKind.i64 (-1 : Int)) H) ∧ ((decide (kind < (1 : Int)) || decide (kind > (31 : Int))) = false → K (Value.int IntKind.i64 (1 : Int)) H)))) ∧
 ((kind == (18 : Int)) = false →
 ((kind == (26 : Int)) = true → ((kind == (26 : Int)) = true → K (Value.int IntKind.i64 (2 : Int)) H) ∧ ((kind == (26 : Int)) = false → ((kind == (31 : Int)) = true → K (Value.int IntKind.i64 (0 : Int)) H) ∧ ((kind == (31 : Int)) = false → ((decide (kind < (1 : Int)) || decide (kind > (31 : Int))) = true → K (Value.int IntKind.i64 (-1 : Int)) H) ∧ ((decide (kind < (1 : Int)) || decide (kind > (31 : Int))) = false → K (Value.int IntKind.i64 (1 : Int)) H)))) ∧
 ((kind == (26 : Int)) = false →
 ((kind == (27 : Int)) = true → ((kind == (27 : Int)) = true → K (Value.int IntKind.i64 (2 : Int)) H) ∧ ((kind == (27 : Int)) = false → ((kind == (31 : Int)) = true → K (Value.int IntKind.i64 (0 : Int)) H) ∧ ((kind == (31 : Int)) = false → ((decide (kind < (1 : Int)) || decide (kind > (31 : Int))) = true → K (Value.int IntKind.i64 (-1 : Int)) H) ∧ ((decide (kind < (1 : Int)) || decide (kind > (31 : Int))) = false → K (Value.int IntKind.i64 (1 : Int)) H)))) ∧
 ((kind == (27 : Int)) = false → ((kind == (29 : Int)) = true → K (Value.int IntKind.i64 (2 : Int)) H) ∧ ((kind == (29 : Int)) = false → ((kind == (31 : Int)) = true → K (Value.int IntKind.i64 (0 : Int)) H) ∧ ((kind == (31 : Int)) = false → ((decide (kind < (1 : Int)) || decide (kind > (31 : Int))) = true → K (Value.int IntKind.i64 (-1 : Int)) H) ∧ ((decide (kind < (1 : Int)) || decide (kind > (31 : Int))) = false → K (Value.int IntKind.i64 (1 : Int)) H)))))))))))) ∧
 ((kind == (24 : Int)) = false →
 ((kind == (28 : Int)) = true → K (Value.int IntKind.i64 (3 : Int)) H) ∧
 ((kind == (28 : Int)) = false →
 ((kind == (3 : Int)) = true → ((kind == (3 : Int)) = true → K (Value.int IntKind.i64 (2 : Int)) H) ∧ ((kind == (3 : Int)) = false → ((kind == (31 : Int)) = true → K (Value.int IntKind.i64 (0 : Int)) H) ∧ ((kind == (31 : Int)) = false → ((decide (kind < (1 : Int)) || decide (kind > (31 : Int))) = true → K (Value.int IntKind.i64 (-1 : Int)) H) ∧ ((decide (kind < (1 : Int)) || decide (kind > (31 : Int))) = false → K (Value.int IntKind.i64 (1 : Int)) H)))) ∧
 ((kind == (3 : Int)) = false →
 ((kind == (5 : Int)) = true → ((kind == (5 : Int)) = true → K (Value.int IntKind.i64 (2 : Int)) H) ∧ ((kind == (5 : Int)) = false → ((kind == (31 : Int)) = true → K (Value.int IntKind.i64 (0 : Int)) H) ∧ ((kind == (31 : Int)) = false → ((decide (kind < (1 : Int)) || decide (kind > (31 : Int))) = true → K (Value.int IntKind.i64 (-1 : Int)) H) ∧ ((decide (kind < (1 : Int)) || decide (kind > (31 : Int))) = false → K (Value.int IntKind.i64 (1 : Int)) H)))) ∧
 ((kind == (5 : Int)) = false →
 ((kind == (10 : Int)) = true → ((kind == (10 : Int)) = true → K (Value.int IntKind.i64 (2 : Int)) H) ∧ ((kind == (10 : Int)) = false → ((kind == (31 : Int)) = true → K (Value.int IntKind.i64 (0 : Int)) H) ∧ ((kind == (31 : Int)) = false → ((decide (kind < (1 : Int)) || decide (kind > (31 : Int))) = true → K (Value.int IntKind.i64 (-1 : Int)) H) ∧ ((decide (kind < (1 : Int)) || decide (kind > (31 : Int))) = false → K (Value.int IntKind.i64 (1 : Int)) H)))) ∧
 ((kind == (10 : Int)) = false →
 ((kind == (13 : Int)) = true → ((kind == (13 : Int)) = true → K (Value.int IntKind.i64 (2 : Int)) H) ∧ ((kind == (13 : Int)) = false → ((kind == (31 : Int)) = true → K (Value.int IntKind.i64 (0 : Int)) H) ∧ ((kind == (31 : Int)) = false → ((decide (kind < (1 : Int)) || decide (kind > (31 : Int))) = true → K (Value.int IntKind.i64 (-1 : Int)) H) ∧ ((decide (kind < (1 : Int)) || decide (kind > (31 : Int))) = false → K (Value.int IntKind.i64 (1 : Int)) H)))) ∧
 ((kind == (13 : Int)) = false →
 ((kind == (18 : Int)) = true → ((kind == (18 : Int)) = true → K (Value.int IntKind.i64 (2 : Int)) H) ∧ ((kind == (18 : Int)) = false → ((kind == (31 : Int)) = true → K (Value.int IntKind.i64 (0 : Int)) H) ∧ ((kind == (31 : Int)) = false → ((decide (kind < (1 : Int)) || decide (kind > (31 : Int))) = true → K (Value.int IntKind.i64 (-1 : Int)) H) ∧ ((decide (kind < (1 : Int)) || decide (kind > (31 : Int))) = false → K (Value.int IntKind.i64 (1 : Int)) H)))) ∧
 ((kind == (18 : Int)) = false →
 ((kind == (26 : Int)) = true → ((kind == (26 : Int)) = true → K (Value.int IntKind.i64 (2 : Int)) H) ∧ ((kind == (26 : Int)) = false → ((kind == (31 : Int)) = true → K (Value.int IntKind.i64 (0 : Int)) H) ∧ ((kind == (31 : Int)) = false → ((decide (kind < (1 : Int)) || decide (kind > (31 : Int))) = true → K (Value.int IntKind.i64 (-1 : Int)) H) ∧ ((decide (kind < (1 : Int)) || decide (kind > (31 : Int))) = false → K (Value.int IntKind.i64 (1 : Int)) H)))) ∧
 ((kind == (26 : Int)) = false →
 ((kind == (27 : Int)) = true → ((kind == (27 : Int)) = true → K (Value.int IntKind.i64 (2 : Int)) H) ∧ ((kind == (27 : Int)) = false → ((kind == (31 : Int)) = true → K (Value.int IntKind.i64 (0 : Int)) H) ∧ ((kind == (31 : Int)) = false → ((decide (kind < (1 : Int)) || decide (kind > (31 : Int))) = true → K (Value.int IntKind.i64 (-1 : Int)) H) ∧ ((decide (kind < (1 : Int)) || decide (kind > (31 : Int))) = false → K (Value.int IntKind.i64 (1 : Int)) H)))) ∧
 ((kind == (27 : Int)) = false → ((kind == (29 : Int)) = true → K (Value.int IntKind.i64 (2 : Int)) H) ∧ ((kind == (29 : Int)) = false → ((kind == (31 : Int)) = true → K (Value.int IntKind.i64 (0 : Int)) H) ∧ ((kind == (31 : Int)) = false → ((decide (kind < (1 : Int)) || decide (kind > (31 : Int))) = true → K (Value.int IntKind.i64 (-1 : Int)) H) ∧ ((decide (kind < (1 : Int)) || decide (kind > (31 : Int))) = false → K (Value.int IntKind.i64 (1 : Int)) H)))))))))))))))))))
theorem v45 {kind : Int} {H : Heap} {K : Value → Heap → Prop} (h : F45 kind H K) : Tr Try.prog 45 #[.int .i64 kind] H K :=
  tr_of_eq (C := c45) Try.func45 (show vcFn c45 Try.f45 [.int .i64 kind] H K = F45 kind H K by kernel_rfl) h
noncomputable def c46 : Cx := { P := Try.prog, res := [], pub := [], loops := [], quiet := [] }
def F46 (eId : Int) (eTime : Int) (eKind : Int) (eA : Int) (eB : Int) (eC : Int) (eD : Int) (eE : Int) (eF : Int) (H : Heap) (K : Value → Heap → Prop) : Prop :=
 K (Value.agg #[Value.int IntKind.i64 eA, Value.int IntKind.i64 eB, Value.int IntKind.i64 eC, Value.int IntKind.i64 eD, Value.int IntKind.i64 eE, Value.int IntKind.i64 eF]) H
theorem v46 {eId : Int} {eTime : Int} {eKind : Int} {eA : Int} {eB : Int} {eC : Int} {eD : Int} {eE : Int} {eF : Int} {H : Heap} {K : Value → Heap → Prop} (h : F46 eId eTime eKind eA eB eC eD eE eF H K) : Tr Try.prog 46 #[.agg #[.int .i64 eId, .int .i64 eTime, .int .i64 eKind, .int .i64 eA, .int .i64 eB, .int .i64 eC, .int .i64 eD, .int .i64 eE, .int .i64 eF]] H K :=
  tr_of_eq (C := c46) Try.func46 (show vcFn c46 Try.f46 [.agg #[.int .i64 eId, .int .i64 eTime, .int .i64 eKind, .int .i64 eA, .int .i64 eB, .int .i64 eC, .int .i64 eD, .int .i64 eE, .int .i64 eF]] H K = F46 eId eTime eKind eA eB eC eD eE eF H K by kernel_rfl) h
noncomputable def c47 : Cx := { P := Try.prog, res := [], pub := [], loops := [], quiet := [67] }
def F47 (eId : Int) (eTime : Int) (eKind : Int) (eA : Int) (eB : Int) (eC : Int) (eD : Int) (eE : Int) (eF : Int) (H : Heap) (K : Value → Heap → Prop) : Prop :=
 ((eKind == (1 : Int)) = true → ∃ (b : Bool), (Tr Try.prog (67 : Nat) #[Value.int IntKind.i64 eA] H fun (v : Value) (H' : Heap) => v = Value.bool b ∧ Ax.Sub H H') ∧ K (Value.bool (b && decide (eC ≥ (0 : Int)) && decide (eD ≥ (0 : Int)) && decide (eE ≥ (0 : Int)) && decide (eF ≥ (0 : Int)))) H) ∧
 ((eKind == (1 : Int)) = false →
 ((eKind == (3 : Int)) = true →
 ((eKind == (3 : Int)) = true → ∃ (b1 : Bool), (Tr Try.prog (67 : Nat) #[Value.int IntKind.i64 eA] H fun (v1 : Value) (H'1 : Heap) => v1 = Value.bool b1 ∧ Ax.Sub H H'1) ∧ K (Value.bool b1) H) ∧
 ((eKind == (3 : Int)) = false →
 ((eKind == (19 : Int)) = true →
 ((eKind == (19 : Int)) = true → ∃ (b2 : Bool), (Tr Try.prog (67 : Nat) #[Value.int IntKind.i64 eA] H fun (v2 : Value) (H'2 : Heap) => v2 = Value.bool b2 ∧ Ax.Sub H H'2) ∧ K (Value.bool (b2 && decide (eC ≥ (0 : Int)))) H) ∧
 ((eKind == (19 : Int)) = false →
 ((eKind == (10 : Int)) = true → K (Value.bool (decide (eA ≥ (0 : Int)) && decide (eA < (4 : Int)))) H) ∧
 ((eKind == (10 : Int)) = false →
 ((eKind == (4 : Int)) = true →
 ((eKind == (4 : Int)) = true → K (Value.bool (decide (eA ≥ (0 : Int)))) H) ∧
 ((eKind == (4 : Int)) = false →
 ((eKind == (11 : Int)) = true →
 ((eKind == (11 : Int)) = true → K (Value.bool true) H) ∧
 ((eKind == (11 : Int)) = false →
 ((eKind == (18 : Int)) = true → K (Value.bool (decide (eB ≥ (1 : Int)))) H) ∧
 ((eKind == (18 : Int)) = false →
 ((eKind == (9 : Int)) = true → ∃ (b3 : Bool), (decide (eA ≥ (1 : Int)) = true → Tr Try.prog (67 : Nat) #[Value.int IntKind.i64 eB] H fun (v3 : Value) (H'3 : Heap) => v3 = Value.bool b3 ∧ Ax.Sub H H'3) ∧ K (Value.bool (decide (eA ≥ (1 : Int)) && b3)) H) ∧
 ((eKind == (9 : Int)) = false →
 ((eKind == (14 : Int)) = true → K (Value.bool (decide (eA ≥ (1 : Int)) && (eC == (0 : Int) || eC == (1 : Int)))) H) ∧
 ((eKind == (14 : Int)) = false →
 ((eKind == (26 : Int)) = true → K (Value.bool (decide (eA ≥ (1 : Int)) && decide (eB ≥ (1 : Int)))) H) ∧
 ((eKind == (26 : Int)) = false →
 ((eKind == (28 : Int)) = true → K (Value.bool (decide (eA ≥ (1 : Int)) && decide (eC ≥ (0 : Int)) && decide (eC ≤ (4 : Int)))) H) ∧
 ((eKind == (28 : Int)) = false →
 ((eKind == (24 : Int)) = true → ((decide (eB < (1 : Int)) || decide (eB > (4 : Int))) = true → K (Value.bool false) H) ∧ ((decide (eB < (1 : Int)) || decide (eB > (4 : Int))) = false → K (Value.bool (decide (eA ≥ (1 : Int)) && decide (eC ≥ (1 : Int)))) H)) ∧
 ((eKind == (24 : Int)) = false → ((eKind == (22 : Int)) = true → ((eKind == (22 : Int)) = true → K (Value.bool (decide (eA ≥ (1 : Int)) && decide (eC ≥ (1 : Int)))) H) ∧ ((eKind == (22 : Int)) = false → K (Value.bool (decide (eA ≥ (1 : Int)))) H)) ∧ ((eKind == (22 : Int)) = false → ((eKind == (23 : Int)) = true → K (Value.bool (decide (eA ≥ (1 : Int)) && decide (eC ≥ (1 : Int)))) H) ∧ ((eKind == (23 : Int)) = false → K (Value.bool (decide (eA ≥ (1 : Int)))) H)))))))))) ∧
 ((eKind == (11 : Int)) = false →
 ((eKind == (15 : Int)) = true →
 ((eKind == (15 : Int)) = true → K (Value.bool true) H) ∧
 ((eKind == (15 : Int)) = false →
 ((eKind == (18 : Int)) = true → K (Value.bool (decide (eB ≥ (1 : Int)))) H) ∧
 ((eKind == (18 : Int)) = false →
 ((eKind == (9 : Int)) = true → ∃ (b4 : Bool), (decide (eA ≥ (1 : Int)) = true → Tr Try.prog (67 : Nat) #[Value.int IntKind.i64 eB] H fun (v4 : Value) (H'4 : Heap) => v4 = Value.bool b4 ∧ Ax.Sub H H'4) ∧ K (Value.bool (decide (eA ≥ (1 : Int)) && b4)) H) ∧
 ((eKind == (9 : Int)) = false →
 ((eKind == (14 : Int)) = true → K (Value.bool (decide (eA ≥ (1 : Int)) && (eC == (0 : Int) || eC == (1 : Int)))) H) ∧
 ((eKind == (14 : Int)) = false →
 ((eKind == (26 : Int)) = true → K (Value.bool (decide (eA ≥ (1 : Int)) && decide (eB ≥ (1 : Int)))) H) ∧
 ((eKind == (26 : Int)) = false →
 ((eKind == (28 : Int)) = true → K (Value.bool (decide (eA ≥ (1 : Int)) && decide (eC ≥ (0 : Int)) && decide (eC ≤ (4 : Int)))) H) ∧
 ((eKind == (28 : Int)) = false →
 ((eKind == (24 : Int)) = true → ((decide (eB < (1 : Int)) || decide (eB > (4 : Int))) = true → K (Value.bool false) H) ∧ ((decide (eB < (1 : Int)) || decide (eB > (4 : Int))) = false → K (Value.bool (decide (eA ≥ (1 : Int)) && decide (eC ≥ (1 : Int)))) H)) ∧
 ((eKind == (24 : Int)) = false → ((eKind == (22 : Int)) = true → ((eKind == (22 : Int)) = true → K (Value.bool (decide (eA ≥ (1 : Int)) && decide (eC ≥ (1 : Int)))) H) ∧ ((eKind == (22 : Int)) = false → K (Value.bool (decide (eA ≥ (1 : Int)))) H)) ∧ ((eKind == (22 : Int)) = false → ((eKind == (23 : Int)) = true → K (Value.bool (decide (eA ≥ (1 : Int)) && decide (eC ≥ (1 : Int)))) H) ∧ ((eKind == (23 : Int)) = false → K (Value.bool (decide (eA ≥ (1 : Int)))) H)))))))))) ∧
 ((eKind == (15 : Int)) = false →
 ((eKind == (16 : Int)) = true →
 ((eKind == (16 : Int)) = true → K (Value.bool true) H) ∧
 ((eKind == (16 : Int)) = false →
 ((eKind == (18 : Int)) = true → K (Value.bool (decide (eB ≥ (1 : Int)))) H) ∧
 ((eKind == (18 : Int)) = false →
 ((eKind == (9 : Int)) = true → ∃ (b5 : Bool), (decide (eA ≥ (1 : Int)) = true → Tr Try.prog (67 : Nat) #[Value.int IntKind.i64 eB] H fun (v5 : Value) (H'5 : Heap) => v5 = Value.bool b5 ∧ Ax.Sub H H'5) ∧ K (Value.bool (decide (eA ≥ (1 : Int)) && b5)) H) ∧
 ((eKind == (9 : Int)) = false →
 ((eKind == (14 : Int)) = true → K (Value.bool (decide (eA ≥ (1 : Int)) && (eC == (0 : Int) || eC == (1 : Int)))) H) ∧
 ((eKind == (14 : Int)) = false →
 ((eKind == (26 : Int)) = true → K (Value.bool (decide (eA ≥ (1 : Int)) && decide (eB ≥ (1 : Int)))) H) ∧
 ((eKind == (26 : Int)) = false →
 ((eKind == (28 : Int)) = true → K (Value.bool (decide (eA ≥ (1 : Int)) && decide (eC ≥ (0 : Int)) && decide (eC ≤ (4 : Int)))) H) ∧
 ((eKind == (28 : Int)) = false →
 ((eKind == (24 : Int)) = true → ((decide (eB < (1 : Int)) || decide (eB > (4 : Int))) = true → K (Value.bool false) H) ∧ ((decide (eB < (1 : Int)) || decide (eB > (4 : Int))) = false → K (Value.bool (decide (eA ≥ (1 : Int)) && decide (eC ≥ (1 : Int)))) H)) ∧
 ((eKind == (24 : Int)) = false → ((eKind == (22 : Int)) = true → ((eKind == (22 : Int)) = true → K (Value.bool (decide (eA ≥ (1 : Int)) && decide (eC ≥ (1 : Int)))) H) ∧ ((eKind == (22 : Int)) = false → K (Value.bool (decide (eA ≥ (1 : Int)))) H)) ∧ ((eKind == (22 : Int)) = false → ((eKind == (23 : Int)) = true → K (Value.bool (decide (eA ≥ (1 : Int)) && decide (eC ≥ (1 : Int)))) H) ∧ ((eKind == (23 : Int)) = false → K (Value.bool (decide (eA ≥ (1 : Int)))) H)))))))))) ∧
 ((eKind == (16 : Int)) = false →
 ((eKind == (17 : Int)) = true →
 ((eKind == (17 : Int)) = true → K (Value.bool true) H) ∧
 ((eKind == (17 : Int)) = false →
 ((eKind == (18 : Int)) = true → K (Value.bool (decide (eB ≥ (1 : Int)))) H) ∧
 ((eKind == (18 : Int)) = false →
 ((eKind == (9 : Int)) = true → ∃ (b6 : Bool), (decide (eA ≥ (1 : Int)) = true → Tr Try.prog (67 : Nat) #[Value.int IntKind.i64 eB] H fun (v6 : Value) (H'6 : Heap) => v6 = Value.bool b6 ∧ Ax.Sub H H'6) ∧ K (Value.bool (decide (eA ≥ (1 : Int)) && b6)) H) ∧
 ((eKind == (9 : Int)) = false →
 ((eKind == (14 : Int)) = true → K (Value.bool (decide (eA ≥ (1 : Int)) && (eC == (0 : Int) || eC == (1 : Int)))) H) ∧
 ((eKind == (14 : Int)) = false →
 ((eKind == (26 : Int)) = true → K (Value.bool (decide (eA ≥ (1 : Int)) && decide (eB ≥ (1 : Int)))) H) ∧
 ((eKind == (26 : Int)) = false →
 ((eKind == (28 : Int)) = true → K (Value.bool (decide (eA ≥ (1 : Int)) && decide (eC ≥ (0 : Int)) && decide (eC ≤ (4 : Int)))) H) ∧
 ((eKind == (28 : Int)) = false →
 ((eKind == (24 : Int)) = true → ((decide (eB < (1 : Int)) || decide (eB > (4 : Int))) = true → K (Value.bool false) H) ∧ ((decide (eB < (1 : Int)) || decide (eB > (4 : Int))) = false → K (Value.bool (decide (eA ≥ (1 : Int)) && decide (eC ≥ (1 : Int)))) H)) ∧
 ((eKind == (24 : Int)) = false → ((eKind == (22 : Int)) = true → ((eKind == (22 : Int)) = true → K (Value.bool (decide (eA ≥ (1 : Int)) && decide (eC ≥ (1 : Int)))) H) ∧ ((eKind == (22 : Int)) = false → K (Value.bool (decide (eA ≥ (1 : Int)))) H)) ∧ ((eKind == (22 : Int)) = false → ((eKind == (23 : Int)) = true → K (Value.bool (decide (eA ≥ (1 : Int)) && decide (eC ≥ (1 : Int)))) H) ∧ ((eKind == (23 : Int)) = false → K (Value.bool (decide (eA ≥ (1 : Int)))) H)))))))))) ∧
 ((eKind == (17 : Int)) = false →
 ((eKind == (30 : Int)) = true →
 ((eKind == (30 : Int)) = true → K (Value.bool true) H) ∧
 ((eKind == (30 : Int)) = false →
 ((eKind == (18 : Int)) = true → K (Value.bool (decide (eB ≥ (1 : Int)))) H) ∧
 ((eKind == (18 : Int)) = false →
 ((eKind == (9 : Int)) = true → ∃ (b7 : Bool), (decide (eA ≥ (1 : Int)) = true → Tr Try.prog (67 : Nat) #[Value.int IntKind.i64 eB] H fun (v7 : Value) (H'7 : Heap) => v7 = Value.bool b7 ∧ Ax.Sub H H'7) ∧ K (Value.bool (decide (eA ≥ (1 : Int)) && b7)) H) ∧
 ((eKind == (9 : Int)) = false →
 ((eKind == (14 : Int)) = true → K (Value.bool (decide (eA ≥ (1 : Int)) && (eC == (0 : Int) || eC == (1 : Int)))) H) ∧
 ((eKind == (14 : Int)) = false →
 ((eKind == (26 : Int)) = true → K (Value.bool (decide (eA ≥ (1 : Int)) && decide (eB ≥ (1 : Int)))) H) ∧
 ((eKind == (26 : Int)) = false →
 ((eKind == (28 : Int)) = true → K (Value.bool (decide (eA ≥ (1 : Int)) && decide (eC ≥ (0 : Int)) && decide (eC ≤ (4 : Int)))) H) ∧
 ((eKind == (28 : Int)) = false →
 ((eKind == (24 : Int)) = true → ((decide (eB < (1 : Int)) || decide (eB > (4 : Int))) = true → K (Value.bool false) H) ∧ ((decide (eB < (1 : Int)) || decide (eB > (4 : Int))) = false → K (Value.bool (decide (eA ≥ (1 : Int)) && decide (eC ≥ (1 : Int)))) H)) ∧
 ((eKind == (24 : Int)) = false → ((eKind == (22 : Int)) = true → ((eKind == (22 : Int)) = true → K (Value.bool (decide (eA ≥ (1 : Int)) && decide (eC ≥ (1 : Int)))) H) ∧ ((eKind == (22 : Int)) = false → K (Value.bool (decide (eA ≥ (1 : Int)))) H)) ∧ ((eKind == (22 : Int)) = false → ((eKind == (23 : Int)) = true → K (Value.bool (decide (eA ≥ (1 : Int)) && decide (eC ≥ (1 : Int)))) H) ∧ ((eKind == (23 : Int)) = false → K (Value.bool (decide (eA ≥ (1 : Int)))) H)))))))))) ∧
 ((eKind == (30 : Int)) = false →
 ((eKind == (31 : Int)) = true → K (Value.bool true) H) ∧
 ((eKind == (31 : Int)) = false →
 ((eKind == (18 : Int)) = true → K (Value.bool (decide (eB ≥ (1 : Int)))) H) ∧
 ((eKind == (18 : Int)) = false →
 ((eKind == (9 : Int)) = true → ∃ (b8 : Bool), (decide (eA ≥ (1 : Int)) = true → Tr Try.prog (67 : Nat) #[Value.int IntKind.i64 eB] H fun (v8 : Value) (H'8 : Heap) => v8 = Value.bool b8 ∧ Ax.Sub H H'8) ∧ K (Value.bool (decide (eA ≥ (1 : Int)) && b8)) H) ∧
 ((eKind == (9 : Int)) = false →
 ((eKind == (14 : Int)) = true → K (Value.bool (decide (eA ≥ (1 : Int)) && (eC == (0 : Int) || eC == (1 : Int)))) H) ∧
 ((eKind == (14 : Int)) = false →
 ((eKind == (26 : Int)) = true → K (Value.bool (decide (eA ≥ (1 : Int)) && decide (eB ≥ (1 : Int)))) H) ∧
 ((eKind == (26 : Int)) = false →
 ((eKind == (28 : Int)) = true → K (Value.bool (decide (eA ≥ (1 : Int)) && decide (eC ≥ (0 : Int)) && decide (eC ≤ (4 : Int)))) H) ∧
 ((eKind == (28 : Int)) = false →
 ((eKind == (24 : Int)) = true → ((decide (eB < (1 : Int)) || decide (eB > (4 : Int))) = true → K (Value.bool false) H) ∧ ((decide (eB < (1 : Int)) || decide (eB > (4 : Int))) = false → K (Value.bool (decide (eA ≥ (1 : Int)) && decide (eC ≥ (1 : Int)))) H)) ∧
 ((eKind == (24 : Int)) = false → ((eKind == (22 : Int)) = true → ((eKind == (22 : Int)) = true → K (Value.bool (decide (eA ≥ (1 : Int)) && decide (eC ≥ (1 : Int)))) H) ∧ ((eKind == (22 : Int)) = false → K (Value.bool (decide (eA ≥ (1 : Int)))) H)) ∧ ((eKind == (22 : Int)) = false → ((eKind == (23 : Int)) = true → K (Value.bool (decide (eA ≥ (1 : Int)) && decide (eC ≥ (1 : Int)))) H) ∧ ((eKind == (23 : Int)) = false → K (Value.bool (decide (eA ≥ (1 : Int)))) H)))))))))))))))) ∧
 ((eKind == (4 : Int)) = false →
 ((eKind == (20 : Int)) = true → K (Value.bool (decide (eA ≥ (0 : Int)))) H) ∧
 ((eKind == (20 : Int)) = false →
 ((eKind == (11 : Int)) = true →
 ((eKind == (11 : Int)) = true → K (Value.bool true) H) ∧
 ((eKind == (11 : Int)) = false →
 ((eKind == (18 : Int)) = true → K (Value.bool (decide (eB ≥ (1 : Int)))) H) ∧
 ((eKind == (18 : Int)) = false →
 ((eKind == (9 : Int)) = true → ∃ (b9 : Bool), (decide (eA ≥ (1 : Int)) = true → Tr Try.prog (67 : Nat) #[Value.int IntKind.i64 eB] H fun (v9 : Value) (H'9 : Heap) => v9 = Value.bool b9 ∧ Ax.Sub H H'9) ∧ K (Value.bool (decide (eA ≥ (1 : Int)) && b9)) H) ∧
 ((eKind == (9 : Int)) = false →
 ((eKind == (14 : Int)) = true → K (Value.bool (decide (eA ≥ (1 : Int)) && (eC == (0 : Int) || eC == (1 : Int)))) H) ∧
 ((eKind == (14 : Int)) = false →
 ((eKind == (26 : Int)) = true → K (Value.bool (decide (eA ≥ (1 : Int)) && decide (eB ≥ (1 : Int)))) H) ∧
 ((eKind == (26 : Int)) = false →
 ((eKind == (28 : Int)) = true → K (Value.bool (decide (eA ≥ (1 : Int)) && decide (eC ≥ (0 : Int)) && decide (eC ≤ (4 : Int)))) H) ∧
 ((eKind == (28 : Int)) = false →
 ((eKind == (24 : Int)) = true → ((decide (eB < (1 : Int)) || decide (eB > (4 : Int))) = true → K (Value.bool false) H) ∧ ((decide (eB < (1 : Int)) || decide (eB > (4 : Int))) = false → K (Value.bool (decide (eA ≥ (1 : Int)) && decide (eC ≥ (1 : Int)))) H)) ∧
 ((eKind == (24 : Int)) = false → ((eKind == (22 : Int)) = true → ((eKind == (22 : Int)) = true → K (Value.bool (decide (eA ≥ (1 : Int)) && decide (eC ≥ (1 : Int)))) H) ∧ ((eKind == (22 : Int)) = false → K (Value.bool (decide (eA ≥ (1 : Int)))) H)) ∧ ((eKind == (22 : Int)) = false → ((eKind == (23 : Int)) = true → K (Value.bool (decide (eA ≥ (1 : Int)) && decide (eC ≥ (1 : Int)))) H) ∧ ((eKind == (23 : Int)) = false → K (Value.bool (decide (eA ≥ (1 : Int)))) H)))))))))) ∧
 ((eKind == (11 : Int)) = false →
 ((eKind == (15 : Int)) = true →
 ((eKind == (15 : Int)) = true → K (Value.bool true) H) ∧
 ((eKind == (15 : Int)) = false →
 ((eKind == (18 : Int)) = true → K (Value.bool (decide (eB ≥ (1 : Int)))) H) ∧
 ((eKind == (18 : Int)) = false →
 ((eKind == (9 : Int)) = true → ∃ (b10 : Bool), (decide (eA ≥ (1 : Int)) = true → Tr Try.prog (67 : Nat) #[Value.int IntKind.i64 eB] H fun (v10 : Value) (H'10 : Heap) => v10 = Value.bool b10 ∧ Ax.Sub H H'10) ∧ K (Value.bool (decide (eA ≥ (1 : Int)) && b10)) H) ∧
 ((eKind == (9 : Int)) = false →
 ((eKind == (14 : Int)) = true → K (Value.bool (decide (eA ≥ (1 : Int)) && (eC == (0 : Int) || eC == (1 : Int)))) H) ∧
 ((eKind == (14 : Int)) = false →
 ((eKind == (26 : Int)) = true → K (Value.bool (decide (eA ≥ (1 : Int)) && decide (eB ≥ (1 : Int)))) H) ∧
 ((eKind == (26 : Int)) = false →
 ((eKind == (28 : Int)) = true → K (Value.bool (decide (eA ≥ (1 : Int)) && decide (eC ≥ (0 : Int)) && decide (eC ≤ (4 : Int)))) H) ∧
 ((eKind == (28 : Int)) = false →
 ((eKind == (24 : Int)) = true → ((decide (eB < (1 : Int)) || decide (eB > (4 : Int))) = true → K (Value.bool false) H) ∧ ((decide (eB < (1 : Int)) || decide (eB > (4 : Int))) = false → K (Value.bool (decide (eA ≥ (1 : Int)) && decide (eC ≥ (1 : Int)))) H)) ∧
 ((eKind == (24 : Int)) = false → ((eKind == (22 : Int)) = true → ((eKind == (22 : Int)) = true → K (Value.bool (decide (eA ≥ (1 : Int)) && decide (eC ≥ (1 : Int)))) H) ∧ ((eKind == (22 : Int)) = false → K (Value.bool (decide (eA ≥ (1 : Int)))) H)) ∧ ((eKind == (22 : Int)) = false → ((eKind == (23 : Int)) = true → K (Value.bool (decide (eA ≥ (1 : Int)) && decide (eC ≥ (1 : Int)))) H) ∧ ((eKind == (23 : Int)) = false → K (Value.bool (decide (eA ≥ (1 : Int)))) H)))))))))) ∧
 ((eKind == (15 : Int)) = false →
 ((eKind == (16 : Int)) = true →
 ((eKind == (16 : Int)) = true → K (Value.bool true) H) ∧
 ((eKind == (16 : Int)) = false →
 ((eKind == (18 : Int)) = true → K (Value.bool (decide (eB ≥ (1 : Int)))) H) ∧
 ((eKind == (18 : Int)) = false →
 ((eKind == (9 : Int)) = true → ∃ (b11 : Bool), (decide (eA ≥ (1 : Int)) = true → Tr Try.prog (67 : Nat) #[Value.int IntKind.i64 eB] H fun (v11 : Value) (H'11 : Heap) => v11 = Value.bool b11 ∧ Ax.Sub H H'11) ∧ K (Value.bool (decide (eA ≥ (1 : Int)) && b11)) H) ∧
 ((eKind == (9 : Int)) = false →
 ((eKind == (14 : Int)) = true → K (Value.bool (decide (eA ≥ (1 : Int)) && (eC == (0 : Int) || eC == (1 : Int)))) H) ∧
 ((eKind == (14 : Int)) = false →
 ((eKind == (26 : Int)) = true → K (Value.bool (decide (eA ≥ (1 : Int)) && decide (eB ≥ (1 : Int)))) H) ∧
 ((eKind == (26 : Int)) = false →
 ((eKind == (28 : Int)) = true → K (Value.bool (decide (eA ≥ (1 : Int)) && decide (eC ≥ (0 : Int)) && decide (eC ≤ (4 : Int)))) H) ∧
 ((eKind == (28 : Int)) = false →
 ((eKind == (24 : Int)) = true → ((decide (eB < (1 : Int)) || decide (eB > (4 : Int))) = true → K (Value.bool false) H) ∧ ((decide (eB < (1 : Int)) || decide (eB > (4 : Int))) = false → K (Value.bool (decide (eA ≥ (1 : Int)) && decide (eC ≥ (1 : Int)))) H)) ∧
 ((eKind == (24 : Int)) = false → ((eKind == (22 : Int)) = true → ((eKind == (22 : Int)) = true → K (Value.bool (decide (eA ≥ (1 : Int)) && decide (eC ≥ (1 : Int)))) H) ∧ ((eKind == (22 : Int)) = false → K (Value.bool (decide (eA ≥ (1 : Int)))) H)) ∧ ((eKind == (22 : Int)) = false → ((eKind == (23 : Int)) = true → K (Value.bool (decide (eA ≥ (1 : Int)) && decide (eC ≥ (1 : Int)))) H) ∧ ((eKind == (23 : Int)) = false → K (Value.bool (decide (eA ≥ (1 : Int)))) H)))))))))) ∧
 ((eKind == (16 : Int)) = false →
 ((eKind == (17 : Int)) = true →
 ((eKind == (17 : Int)) = true → K (Value.bool true) H) ∧
 ((eKind == (17 : Int)) = false →
 ((eKind == (18 : Int)) = true → K (Value.bool (decide (eB ≥ (1 : Int)))) H) ∧
 ((eKind == (18 : Int)) = false →
 ((eKind == (9 : Int)) = true → ∃ (b12 : Bool), (decide (eA ≥ (1 : Int)) = true → Tr Try.prog (67 : Nat) #[Value.int IntKind.i64 eB] H fun (v12 : Value) (H'12 : Heap) => v12 = Value.bool b12 ∧ Ax.Sub H H'12) ∧ K (Value.bool (decide (eA ≥ (1 : Int)) && b12)) H) ∧
 ((eKind == (9 : Int)) = false →
 ((eKind == (14 : Int)) = true → K (Value.bool (decide (eA ≥ (1 : Int)) && (eC == (0 : Int) || eC == (1 : Int)))) H) ∧
 ((eKind == (14 : Int)) = false →
 ((eKind == (26 : Int)) = true → K (Value.bool (decide (eA ≥ (1 : Int)) && decide (eB ≥ (1 : Int)))) H) ∧
 ((eKind == (26 : Int)) = false →
 ((eKind == (28 : Int)) = true → K (Value.bool (decide (eA ≥ (1 : Int)) && decide (eC ≥ (0 : Int)) && decide (eC ≤ (4 : Int)))) H) ∧
 ((eKind == (28 : Int)) = false →
 ((eKind == (24 : Int)) = true → ((decide (eB < (1 : Int)) || decide (eB > (4 : Int))) = true → K (Value.bool false) H) ∧ ((decide (eB < (1 : Int)) || decide (eB > (4 : Int))) = false → K (Value.bool (decide (eA ≥ (1 : Int)) && decide (eC ≥ (1 : Int)))) H)) ∧
 ((eKind == (24 : Int)) = false → ((eKind == (22 : Int)) = true → ((eKind == (22 : Int)) = true → K (Value.bool (decide (eA ≥ (1 : Int)) && decide (eC ≥ (1 : Int)))) H) ∧ ((eKind == (22 : Int)) = false → K (Value.bool (decide (eA ≥ (1 : Int)))) H)) ∧ ((eKind == (22 : Int)) = false → ((eKind == (23 : Int)) = true → K (Value.bool (decide (eA ≥ (1 : Int)) && decide (eC ≥ (1 : Int)))) H) ∧ ((eKind == (23 : Int)) = false → K (Value.bool (decide (eA ≥ (1 : Int)))) H)))))))))) ∧
 ((eKind == (17 : Int)) = false →
 ((eKind == (30 : Int)) = true →
 ((eKind == (30 : Int)) = true → K (Value.bool true) H) ∧
 ((eKind == (30 : Int)) = false →
 ((eKind == (18 : Int)) = true → K (Value.bool (decide (eB ≥ (1 : Int)))) H) ∧
 ((eKind == (18 : Int)) = false →
 ((eKind == (9 : Int)) = true → ∃ (b13 : Bool), (decide (eA ≥ (1 : Int)) = true → Tr Try.prog (67 : Nat) #[Value.int IntKind.i64 eB] H fun (v13 : Value) (H'13 : Heap) => v13 = Value.bool b13 ∧ Ax.Sub H H'13) ∧ K (Value.bool (decide (eA ≥ (1 : Int)) && b13)) H) ∧
 ((eKind == (9 : Int)) = false →
 ((eKind == (14 : Int)) = true → K (Value.bool (decide (eA ≥ (1 : Int)) && (eC == (0 : Int) || eC == (1 : Int)))) H) ∧
 ((eKind == (14 : Int)) = false →
 ((eKind == (26 : Int)) = true → K (Value.bool (decide (eA ≥ (1 : Int)) && decide (eB ≥ (1 : Int)))) H) ∧
 ((eKind == (26 : Int)) = false →
 ((eKind == (28 : Int)) = true → K (Value.bool (decide (eA ≥ (1 : Int)) && decide (eC ≥ (0 : Int)) && decide (eC ≤ (4 : Int)))) H) ∧
 ((eKind == (28 : Int)) = false →
 ((eKind == (24 : Int)) = true → ((decide (eB < (1 : Int)) || decide (eB > (4 : Int))) = true → K (Value.bool false) H) ∧ ((decide (eB < (1 : Int)) || decide (eB > (4 : Int))) = false → K (Value.bool (decide (eA ≥ (1 : Int)) && decide (eC ≥ (1 : Int)))) H)) ∧
 ((eKind == (24 : Int)) = false → ((eKind == (22 : Int)) = true → ((eKind == (22 : Int)) = true → K (Value.bool (decide (eA ≥ (1 : Int)) && decide (eC ≥ (1 : Int)))) H) ∧ ((eKind == (22 : Int)) = false → K (Value.bool (decide (eA ≥ (1 : Int)))) H)) ∧ ((eKind == (22 : Int)) = false → ((eKind == (23 : Int)) = true → K (Value.bool (decide (eA ≥ (1 : Int)) && decide (eC ≥ (1 : Int)))) H) ∧ ((eKind == (23 : Int)) = false → K (Value.bool (decide (eA ≥ (1 : Int)))) H)))))))))) ∧
 ((eKind == (30 : Int)) = false →
 ((eKind == (31 : Int)) = true → K (Value.bool true) H) ∧
 ((eKind == (31 : Int)) = false →
 ((eKind == (18 : Int)) = true → K (Value.bool (decide (eB ≥ (1 : Int)))) H) ∧
 ((eKind == (18 : Int)) = false →
 ((eKind == (9 : Int)) = true → ∃ (b14 : Bool), (decide (eA ≥ (1 : Int)) = true → Tr Try.prog (67 : Nat) #[Value.int IntKind.i64 eB] H fun (v14 : Value) (H'14 : Heap) => v14 = Value.bool b14 ∧ Ax.Sub H H'14) ∧ K (Value.bool (decide (eA ≥ (1 : Int)) && b14)) H) ∧
 ((eKind == (9 : Int)) = false →
 ((eKind == (14 : Int)) = true → K (Value.bool (decide (eA ≥ (1 : Int)) && (eC == (0 : Int) || eC == (1 : Int)))) H) ∧
 ((eKind == (14 : Int)) = false →
 ((eKind == (26 : Int)) = true → K (Value.bool (decide (eA ≥ (1 : Int)) && decide (eB ≥ (1 : Int)))) H) ∧
 ((eKind == (26 : Int)) = false →
 ((eKind == (28 : Int)) = true → K (Value.bool (decide (eA ≥ (1 : Int)) && decide (eC ≥ (0 : Int)) && decide (eC ≤ (4 : Int)))) H) ∧
 ((eKind == (28 : Int)) = false →
 ((eKind == (24 : Int)) = true → ((decide (eB < (1 : Int)) || decide (eB > (4 : Int))) = true → K (Value.bool false) H) ∧ ((decide (eB < (1 : Int)) || decide (eB > (4 : Int))) = false → K (Value.bool (decide (eA ≥ (1 : Int)) && decide (eC ≥ (1 : Int)))) H)) ∧
 ((eKind == (24 : Int)) = false → ((eKind == (22 : Int)) = true → ((eKind == (22 : Int)) = true → K (Value.bool (decide (eA ≥ (1 : Int)) && decide (eC ≥ (1 : Int)))) H) ∧ ((eKind == (22 : Int)) = false → K (Value.bool (decide (eA ≥ (1 : Int)))) H)) ∧ ((eKind == (22 : Int)) = false → ((eKind == (23 : Int)) = true → K (Value.bool (decide (eA ≥ (1 : Int)) && decide (eC ≥ (1 : Int)))) H) ∧ ((eKind == (23 : Int)) = false → K (Value.bool (decide (eA ≥ (1 : Int)))) H))))))))))))))))))) ∧
 ((eKind == (19 : Int)) = false →
 ((eKind == (21 : Int)) = true → ∃ (b15 : Bool), (Tr Try.prog (67 : Nat) #[Value.int IntKind.i64 eA] H fun (v15 : Value) (H'15 : Heap) => v15 = Value.bool b15 ∧ Ax.Sub H H'15) ∧ K (Value.bool (b15 && decide (eC ≥ (0 : Int)))) H) ∧
 ((eKind == (21 : Int)) = false →
 ((eKind == (10 : Int)) = true → K (Value.bool (decide (eA ≥ (0 : Int)) && decide (eA < (4 : Int)))) H) ∧
 ((eKind == (10 : Int)) = false →
 ((eKind == (4 : Int)) = true →
 ((eKind == (4 : Int)) = true → K (Value.bool (decide (eA ≥ (0 : Int)))) H) ∧
 ((eKind == (4 : Int)) = false →
 ((eKind == (11 : Int)) = true →
 ((eKind == (11 : Int)) = true → K (Value.bool true) H) ∧
 ((eKind == (11 : Int)) = false →
 ((eKind == (18 : Int)) = true → K (Value.bool (decide (eB ≥ (1 : Int)))) H) ∧
 ((eKind == (18 : Int)) = false →
 ((eKind == (9 : Int)) = true → ∃ (b16 : Bool), (decide (eA ≥ (1 : Int)) = true → Tr Try.prog (67 : Nat) #[Value.int IntKind.i64 eB] H fun (v16 : Value) (H'16 : Heap) => v16 = Value.bool b16 ∧ Ax.Sub H H'16) ∧ K (Value.bool (decide (eA ≥ (1 : Int)) && b16)) H) ∧
 ((eKind == (9 : Int)) = false →
 ((eKind == (14 : Int)) = true → K (Value.bool (decide (eA ≥ (1 : Int)) && (eC == (0 : Int) || eC == (1 : Int)))) H) ∧
 ((eKind == (14 : Int)) = false →
 ((eKind == (26 : Int)) = true → K (Value.bool (decide (eA ≥ (1 : Int)) && decide (eB ≥ (1 : Int)))) H) ∧
 ((eKind == (26 : Int)) = false →
 ((eKind == (28 : Int)) = true → K (Value.bool (decide (eA ≥ (1 : Int)) && decide (eC ≥ (0 : Int)) && decide (eC ≤ (4 : Int)))) H) ∧
 ((eKind == (28 : Int)) = false →
 ((eKind == (24 : Int)) = true → ((decide (eB < (1 : Int)) || decide (eB > (4 : Int))) = true → K (Value.bool false) H) ∧ ((decide (eB < (1 : Int)) || decide (eB > (4 : Int))) = false → K (Value.bool (decide (eA ≥ (1 : Int)) && decide (eC ≥ (1 : Int)))) H)) ∧
 ((eKind == (24 : Int)) = false → ((eKind == (22 : Int)) = true → ((eKind == (22 : Int)) = true → K (Value.bool (decide (eA ≥ (1 : Int)) && decide (eC ≥ (1 : Int)))) H) ∧ ((eKind == (22 : Int)) = false → K (Value.bool (decide (eA ≥ (1 : Int)))) H)) ∧ ((eKind == (22 : Int)) = false → ((eKind == (23 : Int)) = true → K (Value.bool (decide (eA ≥ (1 : Int)) && decide (eC ≥ (1 : Int)))) H) ∧ ((eKind == (23 : Int)) = false → K (Value.bool (decide (eA ≥ (1 : Int)))) H)))))))))) ∧
 ((eKind == (11 : Int)) = false →
 ((eKind == (15 : Int)) = true →
 ((eKind == (15 : Int)) = true → K (Value.bool true) H) ∧
 ((eKind == (15 : Int)) = false →
 ((eKind == (18 : Int)) = true → K (Value.bool (decide (eB ≥ (1 : Int)))) H) ∧
 ((eKind == (18 : Int)) = false →
 ((eKind == (9 : Int)) = true → ∃ (b17 : Bool), (decide (eA ≥ (1 : Int)) = true → Tr Try.prog (67 : Nat) #[Value.int IntKind.i64 eB] H fun (v17 : Value) (H'17 : Heap) => v17 = Value.bool b17 ∧ Ax.Sub H H'17) ∧ K (Value.bool (decide (eA ≥ (1 : Int)) && b17)) H) ∧
 ((eKind == (9 : Int)) = false →
 ((eKind == (14 : Int)) = true → K (Value.bool (decide (eA ≥ (1 : Int)) && (eC == (0 : Int) || eC == (1 : Int)))) H) ∧
 ((eKind == (14 : Int)) = false →
 ((eKind == (26 : Int)) = true → K (Value.bool (decide (eA ≥ (1 : Int)) && decide (eB ≥ (1 : Int)))) H) ∧
 ((eKind == (26 : Int)) = false →
 ((eKind == (28 : Int)) = true → K (Value.bool (decide (eA ≥ (1 : Int)) && decide (eC ≥ (0 : Int)) && decide (eC ≤ (4 : Int)))) H) ∧
 ((eKind == (28 : Int)) = false →
 ((eKind == (24 : Int)) = true → ((decide (eB < (1 : Int)) || decide (eB > (4 : Int))) = true → K (Value.bool false) H) ∧ ((decide (eB < (1 : Int)) || decide (eB > (4 : Int))) = false → K (Value.bool (decide (eA ≥ (1 : Int)) && decide (eC ≥ (1 : Int)))) H)) ∧
 ((eKind == (24 : Int)) = false → ((eKind == (22 : Int)) = true → ((eKind == (22 : Int)) = true → K (Value.bool (decide (eA ≥ (1 : Int)) && decide (eC ≥ (1 : Int)))) H) ∧ ((eKind == (22 : Int)) = false → K (Value.bool (decide (eA ≥ (1 : Int)))) H)) ∧ ((eKind == (22 : Int)) = false → ((eKind == (23 : Int)) = true → K (Value.bool (decide (eA ≥ (1 : Int)) && decide (eC ≥ (1 : Int)))) H) ∧ ((eKind == (23 : Int)) = false → K (Value.bool (decide (eA ≥ (1 : Int)))) H)))))))))) ∧
 ((eKind == (15 : Int)) = false →
 ((eKind == (16 : Int)) = true →
 ((eKind == (16 : Int)) = true → K (Value.bool true) H) ∧
 ((eKind == (16 : Int)) = false →
 ((eKind == (18 : Int)) = true → K (Value.bool (decide (eB ≥ (1 : Int)))) H) ∧
 ((eKind == (18 : Int)) = false →
 ((eKind == (9 : Int)) = true → ∃ (b18 : Bool), (decide (eA ≥ (1 : Int)) = true → Tr Try.prog (67 : Nat) #[Value.int IntKind.i64 eB] H fun (v18 : Value) (H'18 : Heap) => v18 = Value.bool b18 ∧ Ax.Sub H H'18) ∧ K (Value.bool (decide (eA ≥ (1 : Int)) && b18)) H) ∧
 ((eKind == (9 : Int)) = false →
 ((eKind == (14 : Int)) = true → K (Value.bool (decide (eA ≥ (1 : Int)) && (eC == (0 : Int) || eC == (1 : Int)))) H) ∧
 ((eKind == (14 : Int)) = false →
 ((eKind == (26 : Int)) = true → K (Value.bool (decide (eA ≥ (1 : Int)) && decide (eB ≥ (1 : Int)))) H) ∧
 ((eKind == (26 : Int)) = false →
 ((eKind == (28 : Int)) = true → K (Value.bool (decide (eA ≥ (1 : Int)) && decide (eC ≥ (0 : Int)) && decide (eC ≤ (4 : Int)))) H) ∧
 ((eKind == (28 : Int)) = false →
 ((eKind == (24 : Int)) = true → ((decide (eB < (1 : Int)) || decide (eB > (4 : Int))) = true → K (Value.bool false) H) ∧ ((decide (eB < (1 : Int)) || decide (eB > (4 : Int))) = false → K (Value.bool (decide (eA ≥ (1 : Int)) && decide (eC ≥ (1 : Int)))) H)) ∧
 ((eKind == (24 : Int)) = false → ((eKind == (22 : Int)) = true → ((eKind == (22 : Int)) = true → K (Value.bool (decide (eA ≥ (1 : Int)) && decide (eC ≥ (1 : Int)))) H) ∧ ((eKind == (22 : Int)) = false → K (Value.bool (decide (eA ≥ (1 : Int)))) H)) ∧ ((eKind == (22 : Int)) = false → ((eKind == (23 : Int)) = true → K (Value.bool (decide (eA ≥ (1 : Int)) && decide (eC ≥ (1 : Int)))) H) ∧ ((eKind == (23 : Int)) = false → K (Value.bool (decide (eA ≥ (1 : Int)))) H)))))))))) ∧
 ((eKind == (16 : Int)) = false →
 ((eKind == (17 : Int)) = true →
 ((eKind == (17 : Int)) = true → K (Value.bool true) H) ∧
 ((eKind == (17 : Int)) = false →
 ((eKind == (18 : Int)) = true → K (Value.bool (decide (eB ≥ (1 : Int)))) H) ∧
 ((eKind == (18 : Int)) = false →
 ((eKind == (9 : Int)) = true → ∃ (b19 : Bool), (decide (eA ≥ (1 : Int)) = true → Tr Try.prog (67 : Nat) #[Value.int IntKind.i64 eB] H fun (v19 : Value) (H'19 : Heap) => v19 = Value.bool b19 ∧ Ax.Sub H H'19) ∧ K (Value.bool (decide (eA ≥ (1 : Int)) && b19)) H) ∧
 ((eKind == (9 : Int)) = false →
 ((eKind == (14 : Int)) = true → K (Value.bool (decide (eA ≥ (1 : Int)) && (eC == (0 : Int) || eC == (1 : Int)))) H) ∧
 ((eKind == (14 : Int)) = false →
 ((eKind == (26 : Int)) = true → K (Value.bool (decide (eA ≥ (1 : Int)) && decide (eB ≥ (1 : Int)))) H) ∧
 ((eKind == (26 : Int)) = false →
 ((eKind == (28 : Int)) = true → K (Value.bool (decide (eA ≥ (1 : Int)) && decide (eC ≥ (0 : Int)) && decide (eC ≤ (4 : Int)))) H) ∧
 ((eKind == (28 : Int)) = false →
 ((eKind == (24 : Int)) = true → ((decide (eB < (1 : Int)) || decide (eB > (4 : Int))) = true → K (Value.bool false) H) ∧ ((decide (eB < (1 : Int)) || decide (eB > (4 : Int))) = false → K (Value.bool (decide (eA ≥ (1 : Int)) && decide (eC ≥ (1 : Int)))) H)) ∧
 ((eKind == (24 : Int)) = false → ((eKind == (22 : Int)) = true → ((eKind == (22 : Int)) = true → K (Value.bool (decide (eA ≥ (1 : Int)) && decide (eC ≥ (1 : Int)))) H) ∧ ((eKind == (22 : Int)) = false → K (Value.bool (decide (eA ≥ (1 : Int)))) H)) ∧ ((eKind == (22 : Int)) = false → ((eKind == (23 : Int)) = true → K (Value.bool (decide (eA ≥ (1 : Int)) && decide (eC ≥ (1 : Int)))) H) ∧ ((eKind == (23 : Int)) = false → K (Value.bool (decide (eA ≥ (1 : Int)))) H)))))))))) ∧
 ((eKind == (17 : Int)) = false →
 ((eKind == (30 : Int)) = true →
 ((eKind == (30 : Int)) = true → K (Value.bool true) H) ∧
 ((eKind == (30 : Int)) = false →
 ((eKind == (18 : Int)) = true → K (Value.bool (decide (eB ≥ (1 : Int)))) H) ∧
 ((eKind == (18 : Int)) = false →
 ((eKind == (9 : Int)) = true → ∃ (b20 : Bool), (decide (eA ≥ (1 : Int)) = true → Tr Try.prog (67 : Nat) #[Value.int IntKind.i64 eB] H fun (v20 : Value) (H'20 : Heap) => v20 = Value.bool b20 ∧ Ax.Sub H H'20) ∧ K (Value.bool (decide (eA ≥ (1 : Int)) && b20)) H) ∧
 ((eKind == (9 : Int)) = false →
 ((eKind == (14 : Int)) = true → K (Value.bool (decide (eA ≥ (1 : Int)) && (eC == (0 : Int) || eC == (1 : Int)))) H) ∧
 ((eKind == (14 : Int)) = false →
 ((eKind == (26 : Int)) = true → K (Value.bool (decide (eA ≥ (1 : Int)) && decide (eB ≥ (1 : Int)))) H) ∧
 ((eKind == (26 : Int)) = false →
 ((eKind == (28 : Int)) = true → K (Value.bool (decide (eA ≥ (1 : Int)) && decide (eC ≥ (0 : Int)) && decide (eC ≤ (4 : Int)))) H) ∧
 ((eKind == (28 : Int)) = false →
 ((eKind == (24 : Int)) = true → ((decide (eB < (1 : Int)) || decide (eB > (4 : Int))) = true → K (Value.bool false) H) ∧ ((decide (eB < (1 : Int)) || decide (eB > (4 : Int))) = false → K (Value.bool (decide (eA ≥ (1 : Int)) && decide (eC ≥ (1 : Int)))) H)) ∧
 ((eKind == (24 : Int)) = false → ((eKind == (22 : Int)) = true → ((eKind == (22 : Int)) = true → K (Value.bool (decide (eA ≥ (1 : Int)) && decide (eC ≥ (1 : Int)))) H) ∧ ((eKind == (22 : Int)) = false → K (Value.bool (decide (eA ≥ (1 : Int)))) H)) ∧ ((eKind == (22 : Int)) = false → ((eKind == (23 : Int)) = true → K (Value.bool (decide (eA ≥ (1 : Int)) && decide (eC ≥ (1 : Int)))) H) ∧ ((eKind == (23 : Int)) = false → K (Value.bool (decide (eA ≥ (1 : Int)))) H)))))))))) ∧
 ((eKind == (30 : Int)) = false →
 ((eKind == (31 : Int)) = true → K (Value.bool true) H) ∧
 ((eKind == (31 : Int)) = false →
 ((eKind == (18 : Int)) = true → K (Value.bool (decide (eB ≥ (1 : Int)))) H) ∧
 ((eKind == (18 : Int)) = false →
 ((eKind == (9 : Int)) = true → ∃ (b21 : Bool), (decide (eA ≥ (1 : Int)) = true → Tr Try.prog (67 : Nat) #[Value.int IntKind.i64 eB] H fun (v21 : Value) (H'21 : Heap) => v21 = Value.bool b21 ∧ Ax.Sub H H'21) ∧ K (Value.bool (decide (eA ≥ (1 : Int)) && b21)) H) ∧
 ((eKind == (9 : Int)) = false →
 ((eKind == (14 : Int)) = true → K (Value.bool (decide (eA ≥ (1 : Int)) && (eC == (0 : Int) || eC == (1 : Int)))) H) ∧
 ((eKind == (14 : Int)) = false →
 ((eKind == (26 : Int)) = true → K (Value.bool (decide (eA ≥ (1 : Int)) && decide (eB ≥ (1 : Int)))) H) ∧
 ((eKind == (26 : Int)) = false →
 ((eKind == (28 : Int)) = true → K (Value.bool (decide (eA ≥ (1 : Int)) && decide (eC ≥ (0 : Int)) && decide (eC ≤ (4 : Int)))) H) ∧
 ((eKind == (28 : Int)) = false →
 ((eKind == (24 : Int)) = true → ((decide (eB < (1 : Int)) || decide (eB > (4 : Int))) = true → K (Value.bool false) H) ∧ ((decide (eB < (1 : Int)) || decide (eB > (4 : Int))) = false → K (Value.bool (decide (eA ≥ (1 : Int)) && decide (eC ≥ (1 : Int)))) H)) ∧
 ((eKind == (24 : Int)) = false → ((eKind == (22 : Int)) = true → ((eKind == (22 : Int)) = true → K (Value.bool (decide (eA ≥ (1 : Int)) && decide (eC ≥ (1 : Int)))) H) ∧ ((eKind == (22 : Int)) = false → K (Value.bool (decide (eA ≥ (1 : Int)))) H)) ∧ ((eKind == (22 : Int)) = false → ((eKind == (23 : Int)) = true → K (Value.bool (decide (eA ≥ (1 : Int)) && decide (eC ≥ (1 : Int)))) H) ∧ ((eKind == (23 : Int)) = false → K (Value.bool (decide (eA ≥ (1 : Int)))) H)))))))))))))))) ∧
 ((eKind == (4 : Int)) = false →
 ((eKind == (20 : Int)) = true → K (Value.bool (decide (eA ≥ (0 : Int)))) H) ∧
 ((eKind == (20 : Int)) = false →
 ((eKind == (11 : Int)) = true →
 ((eKind == (11 : Int)) = true → K (Value.bool true) H) ∧
 ((eKind == (11 : Int)) = false →
 ((eKind == (18 : Int)) = true → K (Value.bool (decide (eB ≥ (1 : Int)))) H) ∧
 ((eKind == (18 : Int)) = false →
 ((eKind == (9 : Int)) = true → ∃ (b22 : Bool), (decide (eA ≥ (1 : Int)) = true → Tr Try.prog (67 : Nat) #[Value.int IntKind.i64 eB] H fun (v22 : Value) (H'22 : Heap) => v22 = Value.bool b22 ∧ Ax.Sub H H'22) ∧ K (Value.bool (decide (eA ≥ (1 : Int)) && b22)) H) ∧
 ((eKind == (9 : Int)) = false →
 ((eKind == (14 : Int)) = true → K (Value.bool (decide (eA ≥ (1 : Int)) && (eC == (0 : Int) || eC == (1 : Int)))) H) ∧
 ((eKind == (14 : Int)) = false →
 ((eKind == (26 : Int)) = true → K (Value.bool (decide (eA ≥ (1 : Int)) && decide (eB ≥ (1 : Int)))) H) ∧
 ((eKind == (26 : Int)) = false →
 ((eKind == (28 : Int)) = true → K (Value.bool (decide (eA ≥ (1 : Int)) && decide (eC ≥ (0 : Int)) && decide (eC ≤ (4 : Int)))) H) ∧
 ((eKind == (28 : Int)) = false →
 ((eKind == (24 : Int)) = true → ((decide (eB < (1 : Int)) || decide (eB > (4 : Int))) = true → K (Value.bool false) H) ∧ ((decide (eB < (1 : Int)) || decide (eB > (4 : Int))) = false → K (Value.bool (decide (eA ≥ (1 : Int)) && decide (eC ≥ (1 : Int)))) H)) ∧
 ((eKind == (24 : Int)) = false → ((eKind == (22 : Int)) = true → ((eKind == (22 : Int)) = true → K (Value.bool (decide (eA ≥ (1 : Int)) && decide (eC ≥ (1 : Int)))) H) ∧ ((eKind == (22 : Int)) = false → K (Value.bool (decide (eA ≥ (1 : Int)))) H)) ∧ ((eKind == (22 : Int)) = false → ((eKind == (23 : Int)) = true → K (Value.bool (decide (eA ≥ (1 : Int)) && decide (eC ≥ (1 : Int)))) H) ∧ ((eKind == (23 : Int)) = false → K (Value.bool (decide (eA ≥ (1 : Int)))) H)))))))))) ∧
 ((eKind == (11 : Int)) = false →
 ((eKind == (15 : Int)) = true →
 ((eKind == (15 : Int)) = true → K (Value.bool true) H) ∧
 ((eKind == (15 : Int)) = false →
 ((eKind == (18 : Int)) = true → K (Value.bool (decide (eB ≥ (1 : Int)))) H) ∧
 ((eKind == (18 : Int)) = false →
 ((eKind == (9 : Int)) = true → ∃ (b23 : Bool), (decide (eA ≥ (1 : Int)) = true → Tr Try.prog (67 : Nat) #[Value.int IntKind.i64 eB] H fun (v23 : Value) (H'23 : Heap) => v23 = Value.bool b23 ∧ Ax.Sub H H'23) ∧ K (Value.bool (decide (eA ≥ (1 : Int)) && b23)) H) ∧
 ((eKind == (9 : Int)) = false →
 ((eKind == (14 : Int)) = true → K (Value.bool (decide (eA ≥ (1 : Int)) && (eC == (0 : Int) || eC == (1 : Int)))) H) ∧
 ((eKind == (14 : Int)) = false →
 ((eKind == (26 : Int)) = true → K (Value.bool (decide (eA ≥ (1 : Int)) && decide (eB ≥ (1 : Int)))) H) ∧
 ((eKind == (26 : Int)) = false →
 ((eKind == (28 : Int)) = true → K (Value.bool (decide (eA ≥ (1 : Int)) && decide (eC ≥ (0 : Int)) && decide (eC ≤ (4 : Int)))) H) ∧
 ((eKind == (28 : Int)) = false →
 ((eKind == (24 : Int)) = true → ((decide (eB < (1 : Int)) || decide (eB > (4 : Int))) = true → K (Value.bool false) H) ∧ ((decide (eB < (1 : Int)) || decide (eB > (4 : Int))) = false → K (Value.bool (decide (eA ≥ (1 : Int)) && decide (eC ≥ (1 : Int)))) H)) ∧
 ((eKind == (24 : Int)) = false → ((eKind == (22 : Int)) = true → ((eKind == (22 : Int)) = true → K (Value.bool (decide (eA ≥ (1 : Int)) && decide (eC ≥ (1 : Int)))) H) ∧ ((eKind == (22 : Int)) = false → K (Value.bool (decide (eA ≥ (1 : Int)))) H)) ∧ ((eKind == (22 : Int)) = false → ((eKind == (23 : Int)) = true → K (Value.bool (decide (eA ≥ (1 : Int)) && decide (eC ≥ (1 : Int)))) H) ∧ ((eKind == (23 : Int)) = false → K (Value.bool (decide (eA ≥ (1 : Int)))) H)))))))))) ∧
 ((eKind == (15 : Int)) = false →
 ((eKind == (16 : Int)) = true →
 ((eKind == (16 : Int)) = true → K (Value.bool true) H) ∧
 ((eKind == (16 : Int)) = false →
 ((eKind == (18 : Int)) = true → K (Value.bool (decide (eB ≥ (1 : Int)))) H) ∧
 ((eKind == (18 : Int)) = false →
 ((eKind == (9 : Int)) = true → ∃ (b24 : Bool), (decide (eA ≥ (1 : Int)) = true → Tr Try.prog (67 : Nat) #[Value.int IntKind.i64 eB] H fun (v24 : Value) (H'24 : Heap) => v24 = Value.bool b24 ∧ Ax.Sub H H'24) ∧ K (Value.bool (decide (eA ≥ (1 : Int)) && b24)) H) ∧
 ((eKind == (9 : Int)) = false →
 ((eKind == (14 : Int)) = true → K (Value.bool (decide (eA ≥ (1 : Int)) && (eC == (0 : Int) || eC == (1 : Int)))) H) ∧
 ((eKind == (14 : Int)) = false →
 ((eKind == (26 : Int)) = true → K (Value.bool (decide (eA ≥ (1 : Int)) && decide (eB ≥ (1 : Int)))) H) ∧
 ((eKind == (26 : Int)) = false →
 ((eKind == (28 : Int)) = true → K (Value.bool (decide (eA ≥ (1 : Int)) && decide (eC ≥ (0 : Int)) && decide (eC ≤ (4 : Int)))) H) ∧
 ((eKind == (28 : Int)) = false →
 ((eKind == (24 : Int)) = true → ((decide (eB < (1 : Int)) || decide (eB > (4 : Int))) = true → K (Value.bool false) H) ∧ ((decide (eB < (1 : Int)) || decide (eB > (4 : Int))) = false → K (Value.bool (decide (eA ≥ (1 : Int)) && decide (eC ≥ (1 : Int)))) H)) ∧
 ((eKind == (24 : Int)) = false → ((eKind == (22 : Int)) = true → ((eKind == (22 : Int)) = true → K (Value.bool (decide (eA ≥ (1 : Int)) && decide (eC ≥ (1 : Int)))) H) ∧ ((eKind == (22 : Int)) = false → K (Value.bool (decide (eA ≥ (1 : Int)))) H)) ∧ ((eKind == (22 : Int)) = false → ((eKind == (23 : Int)) = true → K (Value.bool (decide (eA ≥ (1 : Int)) && decide (eC ≥ (1 : Int)))) H) ∧ ((eKind == (23 : Int)) = false → K (Value.bool (decide (eA ≥ (1 : Int)))) H)))))))))) ∧
 ((eKind == (16 : Int)) = false →
 ((eKind == (17 : Int)) = true →
 ((eKind == (17 : Int)) = true → K (Value.bool true) H) ∧
 ((eKind == (17 : Int)) = false →
 ((eKind == (18 : Int)) = true → K (Value.bool (decide (eB ≥ (1 : Int)))) H) ∧
 ((eKind == (18 : Int)) = false →
 ((eKind == (9 : Int)) = true → ∃ (b25 : Bool), (decide (eA ≥ (1 : Int)) = true → Tr Try.prog (67 : Nat) #[Value.int IntKind.i64 eB] H fun (v25 : Value) (H'25 : Heap) => v25 = Value.bool b25 ∧ Ax.Sub H H'25) ∧ K (Value.bool (decide (eA ≥ (1 : Int)) && b25)) H) ∧
 ((eKind == (9 : Int)) = false →
 ((eKind == (14 : Int)) = true → K (Value.bool (decide (eA ≥ (1 : Int)) && (eC == (0 : Int) || eC == (1 : Int)))) H) ∧
 ((eKind == (14 : Int)) = false →
 ((eKind == (26 : Int)) = true → K (Value.bool (decide (eA ≥ (1 : Int)) && decide (eB ≥ (1 : Int)))) H) ∧
 ((eKind == (26 : Int)) = false →
 ((eKind == (28 : Int)) = true → K (Value.bool (decide (eA ≥ (1 : Int)) && decide (eC ≥ (0 : Int)) && decide (eC ≤ (4 : Int)))) H) ∧
 ((eKind == (28 : Int)) = false →
 ((eKind == (24 : Int)) = true → ((decide (eB < (1 : Int)) || decide (eB > (4 : Int))) = true → K (Value.bool false) H) ∧ ((decide (eB < (1 : Int)) || decide (eB > (4 : Int))) = false → K (Value.bool (decide (eA ≥ (1 : Int)) && decide (eC ≥ (1 : Int)))) H)) ∧
 ((eKind == (24 : Int)) = false → ((eKind == (22 : Int)) = true → ((eKind == (22 : Int)) = true → K (Value.bool (decide (eA ≥ (1 : Int)) && decide (eC ≥ (1 : Int)))) H) ∧ ((eKind == (22 : Int)) = false → K (Value.bool (decide (eA ≥ (1 : Int)))) H)) ∧ ((eKind == (22 : Int)) = false → ((eKind == (23 : Int)) = true → K (Value.bool (decide (eA ≥ (1 : Int)) && decide (eC ≥ (1 : Int)))) H) ∧ ((eKind == (23 : Int)) = false → K (Value.bool (decide (eA ≥ (1 : Int)))) H)))))))))) ∧
 ((eKind == (17 : Int)) = false →
 ((eKind == (30 : Int)) = true →
 ((eKind == (30 : Int)) = true → K (Value.bool true) H) ∧
 ((eKind == (30 : Int)) = false →
 ((eKind == (18 : Int)) = true → K (Value.bool (decide (eB ≥ (1 : Int)))) H) ∧
 ((eKind == (18 : Int)) = false →
 ((eKind == (9 : Int)) = true → ∃ (b26 : Bool), (decide (eA ≥ (1 : Int)) = true → Tr Try.prog (67 : Nat) #[Value.int IntKind.i64 eB] H fun (v26 : Value) (H'26 : Heap) => v26 = Value.bool b26 ∧ Ax.Sub H H'26) ∧ K (Value.bool (decide (eA ≥ (1 : Int)) && b26)) H) ∧
 ((eKind == (9 : Int)) = false →
 ((eKind == (14 : Int)) = true → K (Value.bool (decide (eA ≥ (1 : Int)) && (eC == (0 : Int) || eC == (1 : Int)))) H) ∧
 ((eKind == (14 : Int)) = false →
 ((eKind == (26 : Int)) = true → K (Value.bool (decide (eA ≥ (1 : Int)) && decide (eB ≥ (1 : Int)))) H) ∧
 ((eKind == (26 : Int)) = false →
 ((eKind == (28 : Int)) = true → K (Value.bool (decide (eA ≥ (1 : Int)) && decide (eC ≥ (0 : Int)) && decide (eC ≤ (4 : Int)))) H) ∧
 ((eKind == (28 : Int)) = false →
 ((eKind == (24 : Int)) = true → ((decide (eB < (1 : Int)) || decide (eB > (4 : Int))) = true → K (Value.bool false) H) ∧ ((decide (eB < (1 : Int)) || decide (eB > (4 : Int))) = false → K (Value.bool (decide (eA ≥ (1 : Int)) && decide (eC ≥ (1 : Int)))) H)) ∧
 ((eKind == (24 : Int)) = false → ((eKind == (22 : Int)) = true → ((eKind == (22 : Int)) = true → K (Value.bool (decide (eA ≥ (1 : Int)) && decide (eC ≥ (1 : Int)))) H) ∧ ((eKind == (22 : Int)) = false → K (Value.bool (decide (eA ≥ (1 : Int)))) H)) ∧ ((eKind == (22 : Int)) = false → ((eKind == (23 : Int)) = true → K (Value.bool (decide (eA ≥ (1 : Int)) && decide (eC ≥ (1 : Int)))) H) ∧ ((eKind == (23 : Int)) = false → K (Value.bool (decide (eA ≥ (1 : Int)))) H)))))))))) ∧
 ((eKind == (30 : Int)) = false →
 ((eKind == (31 : Int)) = true → K (Value.bool true) H) ∧
 ((eKind == (31 : Int)) = false →
 ((eKind == (18 : Int)) = true → K (Value.bool (decide (eB ≥ (1 : Int)))) H) ∧
 ((eKind == (18 : Int)) = false →
 ((eKind == (9 : Int)) = true → ∃ (b27 : Bool), (decide (eA ≥ (1 : Int)) = true → Tr Try.prog (67 : Nat) #[Value.int IntKind.i64 eB] H fun (v27 : Value) (H'27 : Heap) => v27 = Value.bool b27 ∧ Ax.Sub H H'27) ∧ K (Value.bool (decide (eA ≥ (1 : Int)) && b27)) H) ∧
 ((eKind == (9 : Int)) = false →
 ((eKind == (14 : Int)) = true → K (Value.bool (decide (eA ≥ (1 : Int)) && (eC == (0 : Int) || eC == (1 : Int)))) H) ∧
 ((eKind == (14 : Int)) = false →
 ((eKind == (26 : Int)) = true → K (Value.bool (decide (eA ≥ (1 : Int)) && decide (eB ≥ (1 : Int)))) H) ∧
 ((eKind == (26 : Int)) = false →
 ((eKind == (28 : Int)) = true → K (Value.bool (decide (eA ≥ (1 : Int)) && decide (eC ≥ (0 : Int)) && decide (eC ≤ (4 : Int)))) H) ∧
 ((eKind == (28 : Int)) = false →
 ((eKind == (24 : Int)) = true → ((decide (eB < (1 : Int)) || decide (eB > (4 : Int))) = true → K (Value.bool false) H) ∧ ((decide (eB < (1 : Int)) || decide (eB > (4 : Int))) = false → K (Value.bool (decide (eA ≥ (1 : Int)) && decide (eC ≥ (1 : Int)))) H)) ∧
 ((eKind == (24 : Int)) = false → ((eKind == (22 : Int)) = true → ((eKind == (22 : Int)) = true → K (Value.bool (decide (eA ≥ (1 : Int)) && decide (eC ≥ (1 : Int)))) H) ∧ ((eKind == (22 : Int)) = false → K (Value.bool (decide (eA ≥ (1 : Int)))) H)) ∧ ((eKind == (22 : Int)) = false → ((eKind == (23 : Int)) = true → K (Value.bool (decide (eA ≥ (1 : Int)) && decide (eC ≥ (1 : Int)))) H) ∧ ((eKind == (23 : Int)) = false → K (Value.bool (decide (eA ≥ (1 : Int)))) H))))))))))))))))))))) ∧
 ((eKind == (3 : Int)) = false →
 ((eKind == (5 : Int)) = true → ∃ (b28 : Bool), (Tr Try.prog (67 : Nat) #[Value.int IntKind.i64 eA] H fun (v28 : Value) (H'28 : Heap) => v28 = Value.bool b28 ∧ Ax.Sub H H'28) ∧ K (Value.bool b28) H) ∧
 ((eKind == (5 : Int)) = false →
 ((eKind == (19 : Int)) = true →
 ((eKind == (19 : Int)) = true → ∃ (b29 : Bool), (Tr Try.prog (67 : Nat) #[Value.int IntKind.i64 eA] H fun (v29 : Value) (H'29 : Heap) => v29 = Value.bool b29 ∧ Ax.Sub H H'29) ∧ K (Value.bool (b29 && decide (eC ≥ (0 : Int)))) H) ∧
 ((eKind == (19 : Int)) = false →
 ((eKind == (10 : Int)) = true → K (Value.bool (decide (eA ≥ (0 : Int)) && decide (eA < (4 : Int)))) H) ∧
 ((eKind == (10 : Int)) = false →
 ((eKind == (4 : Int)) = true →
 ((eKind == (4 : Int)) = true → K (Value.bool (decide (eA ≥ (0 : Int)))) H) ∧
 ((eKind == (4 : Int)) = false →
 ((eKind == (11 : Int)) = true →
 ((eKind == (11 : Int)) = true → K (Value.bool true) H) ∧
 ((eKind == (11 : Int)) = false →
 ((eKind == (18 : Int)) = true → K (Value.bool (decide (eB ≥ (1 : Int)))) H) ∧
 ((eKind == (18 : Int)) = false →
 ((eKind == (9 : Int)) = true → ∃ (b30 : Bool), (decide (eA ≥ (1 : Int)) = true → Tr Try.prog (67 : Nat) #[Value.int IntKind.i64 eB] H fun (v30 : Value) (H'30 : Heap) => v30 = Value.bool b30 ∧ Ax.Sub H H'30) ∧ K (Value.bool (decide (eA ≥ (1 : Int)) && b30)) H) ∧
 ((eKind == (9 : Int)) = false →
 ((eKind == (14 : Int)) = true → K (Value.bool (decide (eA ≥ (1 : Int)) && (eC == (0 : Int) || eC == (1 : Int)))) H) ∧
 ((eKind == (14 : Int)) = false →
 ((eKind == (26 : Int)) = true → K (Value.bool (decide (eA ≥ (1 : Int)) && decide (eB ≥ (1 : Int)))) H) ∧
 ((eKind == (26 : Int)) = false →
 ((eKind == (28 : Int)) = true → K (Value.bool (decide (eA ≥ (1 : Int)) && decide (eC ≥ (0 : Int)) && decide (eC ≤ (4 : Int)))) H) ∧
 ((eKind == (28 : Int)) = false →
 ((eKind == (24 : Int)) = true → ((decide (eB < (1 : Int)) || decide (eB > (4 : Int))) = true → K (Value.bool false) H) ∧ ((decide (eB < (1 : Int)) || decide (eB > (4 : Int))) = false → K (Value.bool (decide (eA ≥ (1 : Int)) && decide (eC ≥ (1 : Int)))) H)) ∧
 ((eKind == (24 : Int)) = false → ((eKind == (22 : Int)) = true → ((eKind == (22 : Int)) = true → K (Value.bool (decide (eA ≥ (1 : Int)) && decide (eC ≥ (1 : Int)))) H) ∧ ((eKind == (22 : Int)) = false → K (Value.bool (decide (eA ≥ (1 : Int)))) H)) ∧ ((eKind == (22 : Int)) = false → ((eKind == (23 : Int)) = true → K (Value.bool (decide (eA ≥ (1 : Int)) && decide (eC ≥ (1 : Int)))) H) ∧ ((eKind == (23 : Int)) = false → K (Value.bool (decide (eA ≥ (1 : Int)))) H)))))))))) ∧
 ((eKind == (11 : Int)) = false →
 ((eKind == (15 : Int)) = true →
 ((eKind == (15 : Int)) = true → K (Value.bool true) H) ∧
 ((eKind == (15 : Int)) = false →
 ((eKind == (18 : Int)) = true → K (Value.bool (decide (eB ≥ (1 : Int)))) H) ∧
 ((eKind == (18 : Int)) = false →
 ((eKind == (9 : Int)) = true → ∃ (b31 : Bool), (decide (eA ≥ (1 : Int)) = true → Tr Try.prog (67 : Nat) #[Value.int IntKind.i64 eB] H fun (v31 : Value) (H'31 : Heap) => v31 = Value.bool b31 ∧ Ax.Sub H H'31) ∧ K (Value.bool (decide (eA ≥ (1 : Int)) && b31)) H) ∧
 ((eKind == (9 : Int)) = false →
 ((eKind == (14 : Int)) = true → K (Value.bool (decide (eA ≥ (1 : Int)) && (eC == (0 : Int) || eC == (1 : Int)))) H) ∧
 ((eKind == (14 : Int)) = false →
 ((eKind == (26 : Int)) = true → K (Value.bool (decide (eA ≥ (1 : Int)) && decide (eB ≥ (1 : Int)))) H) ∧
 ((eKind == (26 : Int)) = false →
 ((eKind == (28 : Int)) = true → K (Value.bool (decide (eA ≥ (1 : Int)) && decide (eC ≥ (0 : Int)) && decide (eC ≤ (4 : Int)))) H) ∧
 ((eKind == (28 : Int)) = false →
 ((eKind == (24 : Int)) = true → ((decide (eB < (1 : Int)) || decide (eB > (4 : Int))) = true → K (Value.bool false) H) ∧ ((decide (eB < (1 : Int)) || decide (eB > (4 : Int))) = false → K (Value.bool (decide (eA ≥ (1 : Int)) && decide (eC ≥ (1 : Int)))) H)) ∧
 ((eKind == (24 : Int)) = false → ((eKind == (22 : Int)) = true → ((eKind == (22 : Int)) = true → K (Value.bool (decide (eA ≥ (1 : Int)) && decide (eC ≥ (1 : Int)))) H) ∧ ((eKind == (22 : Int)) = false → K (Value.bool (decide (eA ≥ (1 : Int)))) H)) ∧ ((eKind == (22 : Int)) = false → ((eKind == (23 : Int)) = true → K (Value.bool (decide (eA ≥ (1 : Int)) && decide (eC ≥ (1 : Int)))) H) ∧ ((eKind == (23 : Int)) = false → K (Value.bool (decide (eA ≥ (1 : Int)))) H)))))))))) ∧
 ((eKind == (15 : Int)) = false →
 ((eKind == (16 : Int)) = true →
 ((eKind == (16 : Int)) = true → K (Value.bool true) H) ∧
 ((eKind == (16 : Int)) = false →
 ((eKind == (18 : Int)) = true → K (Value.bool (decide (eB ≥ (1 : Int)))) H) ∧
 ((eKind == (18 : Int)) = false →
 ((eKind == (9 : Int)) = true → ∃ (b32 : Bool), (decide (eA ≥ (1 : Int)) = true → Tr Try.prog (67 : Nat) #[Value.int IntKind.i64 eB] H fun (v32 : Value) (H'32 : Heap) => v32 = Value.bool b32 ∧ Ax.Sub H H'32) ∧ K (Value.bool (decide (eA ≥ (1 : Int)) && b32)) H) ∧
 ((eKind == (9 : Int)) = false →
 ((eKind == (14 : Int)) = true → K (Value.bool (decide (eA ≥ (1 : Int)) && (eC == (0 : Int) || eC == (1 : Int)))) H) ∧
 ((eKind == (14 : Int)) = false →
 ((eKind == (26 : Int)) = true → K (Value.bool (decide (eA ≥ (1 : Int)) && decide (eB ≥ (1 : Int)))) H) ∧
 ((eKind == (26 : Int)) = false →
 ((eKind == (28 : Int)) = true → K (Value.bool (decide (eA ≥ (1 : Int)) && decide (eC ≥ (0 : Int)) && decide (eC ≤ (4 : Int)))) H) ∧
 ((eKind == (28 : Int)) = false →
 ((eKind == (24 : Int)) = true → ((decide (eB < (1 : Int)) || decide (eB > (4 : Int))) = true → K (Value.bool false) H) ∧ ((decide (eB < (1 : Int)) || decide (eB > (4 : Int))) = false → K (Value.bool (decide (eA ≥ (1 : Int)) && decide (eC ≥ (1 : Int)))) H)) ∧
 ((eKind == (24 : Int)) = false → ((eKind == (22 : Int)) = true → ((eKind == (22 : Int)) = true → K (Value.bool (decide (eA ≥ (1 : Int)) && decide (eC ≥ (1 : Int)))) H) ∧ ((eKind == (22 : Int)) = false → K (Value.bool (decide (eA ≥ (1 : Int)))) H)) ∧ ((eKind == (22 : Int)) = false → ((eKind == (23 : Int)) = true → K (Value.bool (decide (eA ≥ (1 : Int)) && decide (eC ≥ (1 : Int)))) H) ∧ ((eKind == (23 : Int)) = false → K (Value.bool (decide (eA ≥ (1 : Int)))) H)))))))))) ∧
 ((eKind == (16 : Int)) = false →
 ((eKind == (17 : Int)) = true →
 ((eKind == (17 : Int)) = true → K (Value.bool true) H) ∧
 ((eKind == (17 : Int)) = false →
 ((eKind == (18 : Int)) = true → K (Value.bool (decide (eB ≥ (1 : Int)))) H) ∧
 ((eKind == (18 : Int)) = false →
 ((eKind == (9 : Int)) = true → ∃ (b33 : Bool), (decide (eA ≥ (1 : Int)) = true → Tr Try.prog (67 : Nat) #[Value.int IntKind.i64 eB] H fun (v33 : Value) (H'33 : Heap) => v33 = Value.bool b33 ∧ Ax.Sub H H'33) ∧ K (Value.bool (decide (eA ≥ (1 : Int)) && b33)) H) ∧
 ((eKind == (9 : Int)) = false →
 ((eKind == (14 : Int)) = true → K (Value.bool (decide (eA ≥ (1 : Int)) && (eC == (0 : Int) || eC == (1 : Int)))) H) ∧
 ((eKind == (14 : Int)) = false →
 ((eKind == (26 : Int)) = true → K (Value.bool (decide (eA ≥ (1 : Int)) && decide (eB ≥ (1 : Int)))) H) ∧
 ((eKind == (26 : Int)) = false →
 ((eKind == (28 : Int)) = true → K (Value.bool (decide (eA ≥ (1 : Int)) && decide (eC ≥ (0 : Int)) && decide (eC ≤ (4 : Int)))) H) ∧
 ((eKind == (28 : Int)) = false →
 ((eKind == (24 : Int)) = true → ((decide (eB < (1 : Int)) || decide (eB > (4 : Int))) = true → K (Value.bool false) H) ∧ ((decide (eB < (1 : Int)) || decide (eB > (4 : Int))) = false → K (Value.bool (decide (eA ≥ (1 : Int)) && decide (eC ≥ (1 : Int)))) H)) ∧
 ((eKind == (24 : Int)) = false → ((eKind == (22 : Int)) = true → ((eKind == (22 : Int)) = true → K (Value.bool (decide (eA ≥ (1 : Int)) && decide (eC ≥ (1 : Int)))) H) ∧ ((eKind == (22 : Int)) = false → K (Value.bool (decide (eA ≥ (1 : Int)))) H)) ∧ ((eKind == (22 : Int)) = false → ((eKind == (23 : Int)) = true → K (Value.bool (decide (eA ≥ (1 : Int)) && decide (eC ≥ (1 : Int)))) H) ∧ ((eKind == (23 : Int)) = false → K (Value.bool (decide (eA ≥ (1 : Int)))) H)))))))))) ∧
 ((eKind == (17 : Int)) = false →
 ((eKind == (30 : Int)) = true →
 ((eKind == (30 : Int)) = true → K (Value.bool true) H) ∧
 ((eKind == (30 : Int)) = false →
 ((eKind == (18 : Int)) = true → K (Value.bool (decide (eB ≥ (1 : Int)))) H) ∧
 ((eKind == (18 : Int)) = false →
 ((eKind == (9 : Int)) = true → ∃ (b34 : Bool), (decide (eA ≥ (1 : Int)) = true → Tr Try.prog (67 : Nat) #[Value.int IntKind.i64 eB] H fun (v34 : Value) (H'34 : Heap) => v34 = Value.bool b34 ∧ Ax.Sub H H'34) ∧ K (Value.bool (decide (eA ≥ (1 : Int)) && b34)) H) ∧
 ((eKind == (9 : Int)) = false →
 ((eKind == (14 : Int)) = true → K (Value.bool (decide (eA ≥ (1 : Int)) && (eC == (0 : Int) || eC == (1 : Int)))) H) ∧
 ((eKind == (14 : Int)) = false →
 ((eKind == (26 : Int)) = true → K (Value.bool (decide (eA ≥ (1 : Int)) && decide (eB ≥ (1 : Int)))) H) ∧
 ((eKind == (26 : Int)) = false →
 ((eKind == (28 : Int)) = true → K (Value.bool (decide (eA ≥ (1 : Int)) && decide (eC ≥ (0 : Int)) && decide (eC ≤ (4 : Int)))) H) ∧
 ((eKind == (28 : Int)) = false →
 ((eKind == (24 : Int)) = true → ((decide (eB < (1 : Int)) || decide (eB > (4 : Int))) = true → K (Value.bool false) H) ∧ ((decide (eB < (1 : Int)) || decide (eB > (4 : Int))) = false → K (Value.bool (decide (eA ≥ (1 : Int)) && decide (eC ≥ (1 : Int)))) H)) ∧
 ((eKind == (24 : Int)) = false → ((eKind == (22 : Int)) = true → ((eKind == (22 : Int)) = true → K (Value.bool (decide (eA ≥ (1 : Int)) && decide (eC ≥ (1 : Int)))) H) ∧ ((eKind == (22 : Int)) = false → K (Value.bool (decide (eA ≥ (1 : Int)))) H)) ∧ ((eKind == (22 : Int)) = false → ((eKind == (23 : Int)) = true → K (Value.bool (decide (eA ≥ (1 : Int)) && decide (eC ≥ (1 : Int)))) H) ∧ ((eKind == (23 : Int)) = false → K (Value.bool (decide (eA ≥ (1 : Int)))) H)))))))))) ∧
 ((eKind == (30 : Int)) = false →
 ((eKind == (31 : Int)) = true → K (Value.bool true) H) ∧
 ((eKind == (31 : Int)) = false →
 ((eKind == (18 : Int)) = true → K (Value.bool (decide (eB ≥ (1 : Int)))) H) ∧
 ((eKind == (18 : Int)) = false →
 ((eKind == (9 : Int)) = true → ∃ (b35 : Bool), (decide (eA ≥ (1 : Int)) = true → Tr Try.prog (67 : Nat) #[Value.int IntKind.i64 eB] H fun (v35 : Value) (H'35 : Heap) => v35 = Value.bool b35 ∧ Ax.Sub H H'35) ∧ K (Value.bool (decide (eA ≥ (1 : Int)) && b35)) H) ∧
 ((eKind == (9 : Int)) = false →
 ((eKind == (14 : Int)) = true → K (Value.bool (decide (eA ≥ (1 : Int)) && (eC == (0 : Int) || eC == (1 : Int)))) H) ∧
 ((eKind == (14 : Int)) = false →
 ((eKind == (26 : Int)) = true → K (Value.bool (decide (eA ≥ (1 : Int)) && decide (eB ≥ (1 : Int)))) H) ∧
 ((eKind == (26 : Int)) = false →
 ((eKind == (28 : Int)) = true → K (Value.bool (decide (eA ≥ (1 : Int)) && decide (eC ≥ (0 : Int)) && decide (eC ≤ (4 : Int)))) H) ∧
 ((eKind == (28 : Int)) = false →
 ((eKind == (24 : Int)) = true → ((decide (eB < (1 : Int)) || decide (eB > (4 : Int))) = true → K (Value.bool false) H) ∧ ((decide (eB < (1 : Int)) || decide (eB > (4 : Int))) = false → K (Value.bool (decide (eA ≥ (1 : Int)) && decide (eC ≥ (1 : Int)))) H)) ∧
 ((eKind == (24 : Int)) = false → ((eKind == (22 : Int)) = true → ((eKind == (22 : Int)) = true → K (Value.bool (decide (eA ≥ (1 : Int)) && decide (eC ≥ (1 : Int)))) H) ∧ ((eKind == (22 : Int)) = false → K (Value.bool (decide (eA ≥ (1 : Int)))) H)) ∧ ((eKind == (22 : Int)) = false → ((eKind == (23 : Int)) = true → K (Value.bool (decide (eA ≥ (1 : Int)) && decide (eC ≥ (1 : Int)))) H) ∧ ((eKind == (23 : Int)) = false → K (Value.bool (decide (eA ≥ (1 : Int)))) H)))))))))))))))) ∧
 ((eKind == (4 : Int)) = false →
 ((eKind == (20 : Int)) = true → K (Value.bool (decide (eA ≥ (0 : Int)))) H) ∧
 ((eKind == (20 : Int)) = false →
 ((eKind == (11 : Int)) = true →
 ((eKind == (11 : Int)) = true → K (Value.bool true) H) ∧
 ((eKind == (11 : Int)) = false →
 ((eKind == (18 : Int)) = true → K (Value.bool (decide (eB ≥ (1 : Int)))) H) ∧
 ((eKind == (18 : Int)) = false →
 ((eKind == (9 : Int)) = true → ∃ (b36 : Bool), (decide (eA ≥ (1 : Int)) = true → Tr Try.prog (67 : Nat) #[Value.int IntKind.i64 eB] H fun (v36 : Value) (H'36 : Heap) => v36 = Value.bool b36 ∧ Ax.Sub H H'36) ∧ K (Value.bool (decide (eA ≥ (1 : Int)) && b36)) H) ∧
 ((eKind == (9 : Int)) = false →
 ((eKind == (14 : Int)) = true → K (Value.bool (decide (eA ≥ (1 : Int)) && (eC == (0 : Int) || eC == (1 : Int)))) H) ∧
 ((eKind == (14 : Int)) = false →
 ((eKind == (26 : Int)) = true → K (Value.bool (decide (eA ≥ (1 : Int)) && decide (eB ≥ (1 : Int)))) H) ∧
 ((eKind == (26 : Int)) = false →
 ((eKind == (28 : Int)) = true → K (Value.bool (decide (eA ≥ (1 : Int)) && decide (eC ≥ (0 : Int)) && decide (eC ≤ (4 : Int)))) H) ∧
 ((eKind == (28 : Int)) = false →
 ((eKind == (24 : Int)) = true → ((decide (eB < (1 : Int)) || decide (eB > (4 : Int))) = true → K (Value.bool false) H) ∧ ((decide (eB < (1 : Int)) || decide (eB > (4 : Int))) = false → K (Value.bool (decide (eA ≥ (1 : Int)) && decide (eC ≥ (1 : Int)))) H)) ∧
 ((eKind == (24 : Int)) = false → ((eKind == (22 : Int)) = true → ((eKind == (22 : Int)) = true → K (Value.bool (decide (eA ≥ (1 : Int)) && decide (eC ≥ (1 : Int)))) H) ∧ ((eKind == (22 : Int)) = false → K (Value.bool (decide (eA ≥ (1 : Int)))) H)) ∧ ((eKind == (22 : Int)) = false → ((eKind == (23 : Int)) = true → K (Value.bool (decide (eA ≥ (1 : Int)) && decide (eC ≥ (1 : Int)))) H) ∧ ((eKind == (23 : Int)) = false → K (Value.bool (decide (eA ≥ (1 : Int)))) H)))))))))) ∧
 ((eKind == (11 : Int)) = false →
 ((eKind == (15 : Int)) = true →
 ((eKind == (15 : Int)) = true → K (Value.bool true) H) ∧
 ((eKind == (15 : Int)) = false →
 ((eKind == (18 : Int)) = true → K (Value.bool (decide (eB ≥ (1 : Int)))) H) ∧
 ((eKind == (18 : Int)) = false →
 ((eKind == (9 : Int)) = true → ∃ (b37 : Bool), (decide (eA ≥ (1 : Int)) = true → Tr Try.prog (67 : Nat) #[Value.int IntKind.i64 eB] H fun (v37 : Value) (H'37 : Heap) => v37 = Value.bool b37 ∧ Ax.Sub H H'37) ∧ K (Value.bool (decide (eA ≥ (1 : Int)) && b37)) H) ∧
 ((eKind == (9 : Int)) = false →
 ((eKind == (14 : Int)) = true → K (Value.bool (decide (eA ≥ (1 : Int)) && (eC == (0 : Int) || eC == (1 : Int)))) H) ∧
 ((eKind == (14 : Int)) = false →
 ((eKind == (26 : Int)) = true → K (Value.bool (decide (eA ≥ (1 : Int)) && decide (eB ≥ (1 : Int)))) H) ∧
 ((eKind == (26 : Int)) = false →
 ((eKind == (28 : Int)) = true → K (Value.bool (decide (eA ≥ (1 : Int)) && decide (eC ≥ (0 : Int)) && decide (eC ≤ (4 : Int)))) H) ∧
 ((eKind == (28 : Int)) = false →
 ((eKind == (24 : Int)) = true → ((decide (eB < (1 : Int)) || decide (eB > (4 : Int))) = true → K (Value.bool false) H) ∧ ((decide (eB < (1 : Int)) || decide (eB > (4 : Int))) = false → K (Value.bool (decide (eA ≥ (1 : Int)) && decide (eC ≥ (1 : Int)))) H)) ∧
 ((eKind == (24 : Int)) = false → ((eKind == (22 : Int)) = true → ((eKind == (22 : Int)) = true → K (Value.bool (decide (eA ≥ (1 : Int)) && decide (eC ≥ (1 : Int)))) H) ∧ ((eKind == (22 : Int)) = false → K (Value.bool (decide (eA ≥ (1 : Int)))) H)) ∧ ((eKind == (22 : Int)) = false → ((eKind == (23 : Int)) = true → K (Value.bool (decide (eA ≥ (1 : Int)) && decide (eC ≥ (1 : Int)))) H) ∧ ((eKind == (23 : Int)) = false → K (Value.bool (decide (eA ≥ (1 : Int)))) H)))))))))) ∧
 ((eKind == (15 : Int)) = false →
 ((eKind == (16 : Int)) = true →
 ((eKind == (16 : Int)) = true → K (Value.bool true) H) ∧
 ((eKind == (16 : Int)) = false →
 ((eKind == (18 : Int)) = true → K (Value.bool (decide (eB ≥ (1 : Int)))) H) ∧
 ((eKind == (18 : Int)) = false →
 ((eKind == (9 : Int)) = true → ∃ (b38 : Bool), (decide (eA ≥ (1 : Int)) = true → Tr Try.prog (67 : Nat) #[Value.int IntKind.i64 eB] H fun (v38 : Value) (H'38 : Heap) => v38 = Value.bool b38 ∧ Ax.Sub H H'38) ∧ K (Value.bool (decide (eA ≥ (1 : Int)) && b38)) H) ∧
 ((eKind == (9 : Int)) = false →
 ((eKind == (14 : Int)) = true → K (Value.bool (decide (eA ≥ (1 : Int)) && (eC == (0 : Int) || eC == (1 : Int)))) H) ∧
 ((eKind == (14 : Int)) = false →
 ((eKind == (26 : Int)) = true → K (Value.bool (decide (eA ≥ (1 : Int)) && decide (eB ≥ (1 : Int)))) H) ∧
 ((eKind == (26 : Int)) = false →
 ((eKind == (28 : Int)) = true → K (Value.bool (decide (eA ≥ (1 : Int)) && decide (eC ≥ (0 : Int)) && decide (eC ≤ (4 : Int)))) H) ∧
 ((eKind == (28 : Int)) = false →
 ((eKind == (24 : Int)) = true → ((decide (eB < (1 : Int)) || decide (eB > (4 : Int))) = true → K (Value.bool false) H) ∧ ((decide (eB < (1 : Int)) || decide (eB > (4 : Int))) = false → K (Value.bool (decide (eA ≥ (1 : Int)) && decide (eC ≥ (1 : Int)))) H)) ∧
 ((eKind == (24 : Int)) = false → ((eKind == (22 : Int)) = true → ((eKind == (22 : Int)) = true → K (Value.bool (decide (eA ≥ (1 : Int)) && decide (eC ≥ (1 : Int)))) H) ∧ ((eKind == (22 : Int)) = false → K (Value.bool (decide (eA ≥ (1 : Int)))) H)) ∧ ((eKind == (22 : Int)) = false → ((eKind == (23 : Int)) = true → K (Value.bool (decide (eA ≥ (1 : Int)) && decide (eC ≥ (1 : Int)))) H) ∧ ((eKind == (23 : Int)) = false → K (Value.bool (decide (eA ≥ (1 : Int)))) H)))))))))) ∧
 ((eKind == (16 : Int)) = false →
 ((eKind == (17 : Int)) = true →
 ((eKind == (17 : Int)) = true → K (Value.bool true) H) ∧
 ((eKind == (17 : Int)) = false →
 ((eKind == (18 : Int)) = true → K (Value.bool (decide (eB ≥ (1 : Int)))) H) ∧
 ((eKind == (18 : Int)) = false →
 ((eKind == (9 : Int)) = true → ∃ (b39 : Bool), (decide (eA ≥ (1 : Int)) = true → Tr Try.prog (67 : Nat) #[Value.int IntKind.i64 eB] H fun (v39 : Value) (H'39 : Heap) => v39 = Value.bool b39 ∧ Ax.Sub H H'39) ∧ K (Value.bool (decide (eA ≥ (1 : Int)) && b39)) H) ∧
 ((eKind == (9 : Int)) = false →
 ((eKind == (14 : Int)) = true → K (Value.bool (decide (eA ≥ (1 : Int)) && (eC == (0 : Int) || eC == (1 : Int)))) H) ∧
 ((eKind == (14 : Int)) = false →
 ((eKind == (26 : Int)) = true → K (Value.bool (decide (eA ≥ (1 : Int)) && decide (eB ≥ (1 : Int)))) H) ∧
 ((eKind == (26 : Int)) = false →
 ((eKind == (28 : Int)) = true → K (Value.bool (decide (eA ≥ (1 : Int)) && decide (eC ≥ (0 : Int)) && decide (eC ≤ (4 : Int)))) H) ∧
 ((eKind == (28 : Int)) = false →
 ((eKind == (24 : Int)) = true → ((decide (eB < (1 : Int)) || decide (eB > (4 : Int))) = true → K (Value.bool false) H) ∧ ((decide (eB < (1 : Int)) || decide (eB > (4 : Int))) = false → K (Value.bool (decide (eA ≥ (1 : Int)) && decide (eC ≥ (1 : Int)))) H)) ∧
 ((eKind == (24 : Int)) = false → ((eKind == (22 : Int)) = true → ((eKind == (22 : Int)) = true → K (Value.bool (decide (eA ≥ (1 : Int)) && decide (eC ≥ (1 : Int)))) H) ∧ ((eKind == (22 : Int)) = false → K (Value.bool (decide (eA ≥ (1 : Int)))) H)) ∧ ((eKind == (22 : Int)) = false → ((eKind == (23 : Int)) = true → K (Value.bool (decide (eA ≥ (1 : Int)) && decide (eC ≥ (1 : Int)))) H) ∧ ((eKind == (23 : Int)) = false → K (Value.bool (decide (eA ≥ (1 : Int)))) H)))))))))) ∧
 ((eKind == (17 : Int)) = false →
 ((eKind == (30 : Int)) = true →
 ((eKind == (30 : Int)) = true → K (Value.bool true) H) ∧
 ((eKind == (30 : Int)) = false →
 ((eKind == (18 : Int)) = true → K (Value.bool (decide (eB ≥ (1 : Int)))) H) ∧
 ((eKind == (18 : Int)) = false →
 ((eKind == (9 : Int)) = true → ∃ (b40 : Bool), (decide (eA ≥ (1 : Int)) = true → Tr Try.prog (67 : Nat) #[Value.int IntKind.i64 eB] H fun (v40 : Value) (H'40 : Heap) => v40 = Value.bool b40 ∧ Ax.Sub H H'40) ∧ K (Value.bool (decide (eA ≥ (1 : Int)) && b40)) H) ∧
 ((eKind == (9 : Int)) = false →
 ((eKind == (14 : Int)) = true → K (Value.bool (decide (eA ≥ (1 : Int)) && (eC == (0 : Int) || eC == (1 : Int)))) H) ∧
 ((eKind == (14 : Int)) = false →
 ((eKind == (26 : Int)) = true → K (Value.bool (decide (eA ≥ (1 : Int)) && decide (eB ≥ (1 : Int)))) H) ∧
 ((eKind == (26 : Int)) = false →
 ((eKind == (28 : Int)) = true → K (Value.bool (decide (eA ≥ (1 : Int)) && decide (eC ≥ (0 : Int)) && decide (eC ≤ (4 : Int)))) H) ∧
 ((eKind == (28 : Int)) = false →
 ((eKind == (24 : Int)) = true → ((decide (eB < (1 : Int)) || decide (eB > (4 : Int))) = true → K (Value.bool false) H) ∧ ((decide (eB < (1 : Int)) || decide (eB > (4 : Int))) = false → K (Value.bool (decide (eA ≥ (1 : Int)) && decide (eC ≥ (1 : Int)))) H)) ∧
 ((eKind == (24 : Int)) = false → ((eKind == (22 : Int)) = true → ((eKind == (22 : Int)) = true → K (Value.bool (decide (eA ≥ (1 : Int)) && decide (eC ≥ (1 : Int)))) H) ∧ ((eKind == (22 : Int)) = false → K (Value.bool (decide (eA ≥ (1 : Int)))) H)) ∧ ((eKind == (22 : Int)) = false → ((eKind == (23 : Int)) = true → K (Value.bool (decide (eA ≥ (1 : Int)) && decide (eC ≥ (1 : Int)))) H) ∧ ((eKind == (23 : Int)) = false → K (Value.bool (decide (eA ≥ (1 : Int)))) H)))))))))) ∧
 ((eKind == (30 : Int)) = false →
 ((eKind == (31 : Int)) = true → K (Value.bool true) H) ∧
 ((eKind == (31 : Int)) = false →
 ((eKind == (18 : Int)) = true → K (Value.bool (decide (eB ≥ (1 : Int)))) H) ∧
 ((eKind == (18 : Int)) = false →
 ((eKind == (9 : Int)) = true → ∃ (b41 : Bool), (decide (eA ≥ (1 : Int)) = true → Tr Try.prog (67 : Nat) #[Value.int IntKind.i64 eB] H fun (v41 : Value) (H'41 : Heap) => v41 = Value.bool b41 ∧ Ax.Sub H H'41) ∧ K (Value.bool (decide (eA ≥ (1 : Int)) && b41)) H) ∧
 ((eKind == (9 : Int)) = false →
 ((eKind == (14 : Int)) = true → K (Value.bool (decide (eA ≥ (1 : Int)) && (eC == (0 : Int) || eC == (1 : Int)))) H) ∧
 ((eKind == (14 : Int)) = false →
 ((eKind == (26 : Int)) = true → K (Value.bool (decide (eA ≥ (1 : Int)) && decide (eB ≥ (1 : Int)))) H) ∧
 ((eKind == (26 : Int)) = false →
 ((eKind == (28 : Int)) = true → K (Value.bool (decide (eA ≥ (1 : Int)) && decide (eC ≥ (0 : Int)) && decide (eC ≤ (4 : Int)))) H) ∧
 ((eKind == (28 : Int)) = false →
 ((eKind == (24 : Int)) = true → ((decide (eB < (1 : Int)) || decide (eB > (4 : Int))) = true → K (Value.bool false) H) ∧ ((decide (eB < (1 : Int)) || decide (eB > (4 : Int))) = false → K (Value.bool (decide (eA ≥ (1 : Int)) && decide (eC ≥ (1 : Int)))) H)) ∧
 ((eKind == (24 : Int)) = false → ((eKind == (22 : Int)) = true → ((eKind == (22 : Int)) = true → K (Value.bool (decide (eA ≥ (1 : Int)) && decide (eC ≥ (1 : Int)))) H) ∧ ((eKind == (22 : Int)) = false → K (Value.bool (decide (eA ≥ (1 : Int)))) H)) ∧ ((eKind == (22 : Int)) = false → ((eKind == (23 : Int)) = true → K (Value.bool (decide (eA ≥ (1 : Int)) && decide (eC ≥ (1 : Int)))) H) ∧ ((eKind == (23 : Int)) = false → K (Value.bool (decide (eA ≥ (1 : Int)))) H))))))))))))))))))) ∧
 ((eKind == (19 : Int)) = false →
 ((eKind == (21 : Int)) = true → ∃ (b42 : Bool), (Tr Try.prog (67 : Nat) #[Value.int IntKind.i64 eA] H fun (v42 : Value) (H'42 : Heap) => v42 = Value.bool b42 ∧ Ax.Sub H H'42) ∧ K (Value.bool (b42 && decide (eC ≥ (0 : Int)))) H) ∧
 ((eKind == (21 : Int)) = false →
 ((eKind == (10 : Int)) = true → K (Value.bool (decide (eA ≥ (0 : Int)) && decide (eA < (4 : Int)))) H) ∧
 ((eKind == (10 : Int)) = false →
 ((eKind == (4 : Int)) = true →
 ((eKind == (4 : Int)) = true → K (Value.bool (decide (eA ≥ (0 : Int)))) H) ∧
 ((eKind == (4 : Int)) = false →
 ((eKind == (11 : Int)) = true →
 ((eKind == (11 : Int)) = true → K (Value.bool true) H) ∧
 ((eKind == (11 : Int)) = false →
 ((eKind == (18 : Int)) = true → K (Value.bool (decide (eB ≥ (1 : Int)))) H) ∧
 ((eKind == (18 : Int)) = false →
 ((eKind == (9 : Int)) = true → ∃ (b43 : Bool), (decide (eA ≥ (1 : Int)) = true → Tr Try.prog (67 : Nat) #[Value.int IntKind.i64 eB] H fun (v43 : Value) (H'43 : Heap) => v43 = Value.bool b43 ∧ Ax.Sub H H'43) ∧ K (Value.bool (decide (eA ≥ (1 : Int)) && b43)) H) ∧
 ((eKind == (9 : Int)) = false →
 ((eKind == (14 : Int)) = true → K (Value.bool (decide (eA ≥ (1 : Int)) && (eC == (0 : Int) || eC == (1 : Int)))) H) ∧
 ((eKind == (14 : Int)) = false →
 ((eKind == (26 : Int)) = true → K (Value.bool (decide (eA ≥ (1 : Int)) && decide (eB ≥ (1 : Int)))) H) ∧
 ((eKind == (26 : Int)) = false →
 ((eKind == (28 : Int)) = true → K (Value.bool (decide (eA ≥ (1 : Int)) && decide (eC ≥ (0 : Int)) && decide (eC ≤ (4 : Int)))) H) ∧
 ((eKind == (28 : Int)) = false →
 ((eKind == (24 : Int)) = true → ((decide (eB < (1 : Int)) || decide (eB > (4 : Int))) = true → K (Value.bool false) H) ∧ ((decide (eB < (1 : Int)) || decide (eB > (4 : Int))) = false → K (Value.bool (decide (eA ≥ (1 : Int)) && decide (eC ≥ (1 : Int)))) H)) ∧
 ((eKind == (24 : Int)) = false → ((eKind == (22 : Int)) = true → ((eKind == (22 : Int)) = true → K (Value.bool (decide (eA ≥ (1 : Int)) && decide (eC ≥ (1 : Int)))) H) ∧ ((eKind == (22 : Int)) = false → K (Value.bool (decide (eA ≥ (1 : Int)))) H)) ∧ ((eKind == (22 : Int)) = false → ((eKind == (23 : Int)) = true → K (Value.bool (decide (eA ≥ (1 : Int)) && decide (eC ≥ (1 : Int)))) H) ∧ ((eKind == (23 : Int)) = false → K (Value.bool (decide (eA ≥ (1 : Int)))) H)))))))))) ∧
 ((eKind == (11 : Int)) = false →
 ((eKind == (15 : Int)) = true →
 ((eKind == (15 : Int)) = true → K (Value.bool true) H) ∧
 ((eKind == (15 : Int)) = false →
 ((eKind == (18 : Int)) = true → K (Value.bool (decide (eB ≥ (1 : Int)))) H) ∧
 ((eKind == (18 : Int)) = false →
 ((eKind == (9 : Int)) = true → ∃ (b44 : Bool), (decide (eA ≥ (1 : Int)) = true → Tr Try.prog (67 : Nat) #[Value.int IntKind.i64 eB] H fun (v44 : Value) (H'44 : Heap) => v44 = Value.bool b44 ∧ Ax.Sub H H'44) ∧ K (Value.bool (decide (eA ≥ (1 : Int)) && b44)) H) ∧
 ((eKind == (9 : Int)) = false →
 ((eKind == (14 : Int)) = true → K (Value.bool (decide (eA ≥ (1 : Int)) && (eC == (0 : Int) || eC == (1 : Int)))) H) ∧
 ((eKind == (14 : Int)) = false →
 ((eKind == (26 : Int)) = true → K (Value.bool (decide (eA ≥ (1 : Int)) && decide (eB ≥ (1 : Int)))) H) ∧
 ((eKind == (26 : Int)) = false →
 ((eKind == (28 : Int)) = true → K (Value.bool (decide (eA ≥ (1 : Int)) && decide (eC ≥ (0 : Int)) && decide (eC ≤ (4 : Int)))) H) ∧
 ((eKind == (28 : Int)) = false →
 ((eKind == (24 : Int)) = true → ((decide (eB < (1 : Int)) || decide (eB > (4 : Int))) = true → K (Value.bool false) H) ∧ ((decide (eB < (1 : Int)) || decide (eB > (4 : Int))) = false → K (Value.bool (decide (eA ≥ (1 : Int)) && decide (eC ≥ (1 : Int)))) H)) ∧
 ((eKind == (24 : Int)) = false → ((eKind == (22 : Int)) = true → ((eKind == (22 : Int)) = true → K (Value.bool (decide (eA ≥ (1 : Int)) && decide (eC ≥ (1 : Int)))) H) ∧ ((eKind == (22 : Int)) = false → K (Value.bool (decide (eA ≥ (1 : Int)))) H)) ∧ ((eKind == (22 : Int)) = false → ((eKind == (23 : Int)) = true → K (Value.bool (decide (eA ≥ (1 : Int)) && decide (eC ≥ (1 : Int)))) H) ∧ ((eKind == (23 : Int)) = false → K (Value.bool (decide (eA ≥ (1 : Int)))) H)))))))))) ∧
 ((eKind == (15 : Int)) = false →
 ((eKind == (16 : Int)) = true →
 ((eKind == (16 : Int)) = true → K (Value.bool true) H) ∧
 ((eKind == (16 : Int)) = false →
 ((eKind == (18 : Int)) = true → K (Value.bool (decide (eB ≥ (1 : Int)))) H) ∧
 ((eKind == (18 : Int)) = false →
 ((eKind == (9 : Int)) = true → ∃ (b45 : Bool), (decide (eA ≥ (1 : Int)) = true → Tr Try.prog (67 : Nat) #[Value.int IntKind.i64 eB] H fun (v45 : Value) (H'45 : Heap) => v45 = Value.bool b45 ∧ Ax.Sub H H'45) ∧ K (Value.bool (decide (eA ≥ (1 : Int)) && b45)) H) ∧
 ((eKind == (9 : Int)) = false →
 ((eKind == (14 : Int)) = true → K (Value.bool (decide (eA ≥ (1 : Int)) && (eC == (0 : Int) || eC == (1 : Int)))) H) ∧
 ((eKind == (14 : Int)) = false →
 ((eKind == (26 : Int)) = true → K (Value.bool (decide (eA ≥ (1 : Int)) && decide (eB ≥ (1 : Int)))) H) ∧
 ((eKind == (26 : Int)) = false →
 ((eKind == (28 : Int)) = true → K (Value.bool (decide (eA ≥ (1 : Int)) && decide (eC ≥ (0 : Int)) && decide (eC ≤ (4 : Int)))) H) ∧
 ((eKind == (28 : Int)) = false →
 ((eKind == (24 : Int)) = true → ((decide (eB < (1 : Int)) || decide (eB > (4 : Int))) = true → K (Value.bool false) H) ∧ ((decide (eB < (1 : Int)) || decide (eB > (4 : Int))) = false → K (Value.bool (decide (eA ≥ (1 : Int)) && decide (eC ≥ (1 : Int)))) H)) ∧
 ((eKind == (24 : Int)) = false → ((eKind == (22 : Int)) = true → ((eKind == (22 : Int)) = true → K (Value.bool (decide (eA ≥ (1 : Int)) && decide (eC ≥ (1 : Int)))) H) ∧ ((eKind == (22 : Int)) = false → K (Value.bool (decide (eA ≥ (1 : Int)))) H)) ∧ ((eKind == (22 : Int)) = false → ((eKind == (23 : Int)) = true → K (Value.bool (decide (eA ≥ (1 : Int)) && decide (eC ≥ (1 : Int)))) H) ∧ ((eKind == (23 : Int)) = false → K (Value.bool (decide (eA ≥ (1 : Int)))) H)))))))))) ∧
 ((eKind == (16 : Int)) = false →
 ((eKind == (17 : Int)) = true →
 ((eKind == (17 : Int)) = true → K (Value.bool true) H) ∧
 ((eKind == (17 : Int)) = false →
 ((eKind == (18 : Int)) = true → K (Value.bool (decide (eB ≥ (1 : Int)))) H) ∧
 ((eKind == (18 : Int)) = false →
 ((eKind == (9 : Int)) = true → ∃ (b46 : Bool), (decide (eA ≥ (1 : Int)) = true → Tr Try.prog (67 : Nat) #[Value.int IntKind.i64 eB] H fun (v46 : Value) (H'46 : Heap) => v46 = Value.bool b46 ∧ Ax.Sub H H'46) ∧ K (Value.bool (decide (eA ≥ (1 : Int)) && b46)) H) ∧
 ((eKind == (9 : Int)) = false →
 ((eKind == (14 : Int)) = true → K (Value.bool (decide (eA ≥ (1 : Int)) && (eC == (0 : Int) || eC == (1 : Int)))) H) ∧
 ((eKind == (14 : Int)) = false →
 ((eKind == (26 : Int)) = true → K (Value.bool (decide (eA ≥ (1 : Int)) && decide (eB ≥ (1 : Int)))) H) ∧
 ((eKind == (26 : Int)) = false →
 ((eKind == (28 : Int)) = true → K (Value.bool (decide (eA ≥ (1 : Int)) && decide (eC ≥ (0 : Int)) && decide (eC ≤ (4 : Int)))) H) ∧
 ((eKind == (28 : Int)) = false →
 ((eKind == (24 : Int)) = true → ((decide (eB < (1 : Int)) || decide (eB > (4 : Int))) = true → K (Value.bool false) H) ∧ ((decide (eB < (1 : Int)) || decide (eB > (4 : Int))) = false → K (Value.bool (decide (eA ≥ (1 : Int)) && decide (eC ≥ (1 : Int)))) H)) ∧
 ((eKind == (24 : Int)) = false → ((eKind == (22 : Int)) = true → ((eKind == (22 : Int)) = true → K (Value.bool (decide (eA ≥ (1 : Int)) && decide (eC ≥ (1 : Int)))) H) ∧ ((eKind == (22 : Int)) = false → K (Value.bool (decide (eA ≥ (1 : Int)))) H)) ∧ ((eKind == (22 : Int)) = false → ((eKind == (23 : Int)) = true → K (Value.bool (decide (eA ≥ (1 : Int)) && decide (eC ≥ (1 : Int)))) H) ∧ ((eKind == (23 : Int)) = false → K (Value.bool (decide (eA ≥ (1 : Int)))) H)))))))))) ∧
 ((eKind == (17 : Int)) = false →
 ((eKind == (30 : Int)) = true →
 ((eKind == (30 : Int)) = true → K (Value.bool true) H) ∧
 ((eKind == (30 : Int)) = false →
 ((eKind == (18 : Int)) = true → K (Value.bool (decide (eB ≥ (1 : Int)))) H) ∧
 ((eKind == (18 : Int)) = false →
 ((eKind == (9 : Int)) = true → ∃ (b47 : Bool), (decide (eA ≥ (1 : Int)) = true → Tr Try.prog (67 : Nat) #[Value.int IntKind.i64 eB] H fun (v47 : Value) (H'47 : Heap) => v47 = Value.bool b47 ∧ Ax.Sub H H'47) ∧ K (Value.bool (decide (eA ≥ (1 : Int)) && b47)) H) ∧
 ((eKind == (9 : Int)) = false →
 ((eKind == (14 : Int)) = true → K (Value.bool (decide (eA ≥ (1 : Int)) && (eC == (0 : Int) || eC == (1 : Int)))) H) ∧
 ((eKind == (14 : Int)) = false →
 ((eKind == (26 : Int)) = true → K (Value.bool (decide (eA ≥ (1 : Int)) && decide (eB ≥ (1 : Int)))) H) ∧
 ((eKind == (26 : Int)) = false →
 ((eKind == (28 : Int)) = true → K (Value.bool (decide (eA ≥ (1 : Int)) && decide (eC ≥ (0 : Int)) && decide (eC ≤ (4 : Int)))) H) ∧
 ((eKind == (28 : Int)) = false →
 ((eKind == (24 : Int)) = true → ((decide (eB < (1 : Int)) || decide (eB > (4 : Int))) = true → K (Value.bool false) H) ∧ ((decide (eB < (1 : Int)) || decide (eB > (4 : Int))) = false → K (Value.bool (decide (eA ≥ (1 : Int)) && decide (eC ≥ (1 : Int)))) H)) ∧
 ((eKind == (24 : Int)) = false → ((eKind == (22 : Int)) = true → ((eKind == (22 : Int)) = true → K (Value.bool (decide (eA ≥ (1 : Int)) && decide (eC ≥ (1 : Int)))) H) ∧ ((eKind == (22 : Int)) = false → K (Value.bool (decide (eA ≥ (1 : Int)))) H)) ∧ ((eKind == (22 : Int)) = false → ((eKind == (23 : Int)) = true → K (Value.bool (decide (eA ≥ (1 : Int)) && decide (eC ≥ (1 : Int)))) H) ∧ ((eKind == (23 : Int)) = false → K (Value.bool (decide (eA ≥ (1 : Int)))) H)))))))))) ∧
 ((eKind == (30 : Int)) = false →
 ((eKind == (31 : Int)) = true → K (Value.bool true) H) ∧
 ((eKind == (31 : Int)) = false →
 ((eKind == (18 : Int)) = true → K (Value.bool (decide (eB ≥ (1 : Int)))) H) ∧
 ((eKind == (18 : Int)) = false →
 ((eKind == (9 : Int)) = true → ∃ (b48 : Bool), (decide (eA ≥ (1 : Int)) = true → Tr Try.prog (67 : Nat) #[Value.int IntKind.i64 eB] H fun (v48 : Value) (H'48 : Heap) => v48 = Value.bool b48 ∧ Ax.Sub H H'48) ∧ K (Value.bool (decide (eA ≥ (1 : Int)) && b48)) H) ∧
 ((eKind == (9 : Int)) = false →
 ((eKind == (14 : Int)) = true → K (Value.bool (decide (eA ≥ (1 : Int)) && (eC == (0 : Int) || eC == (1 : Int)))) H) ∧
 ((eKind == (14 : Int)) = false →
 ((eKind == (26 : Int)) = true → K (Value.bool (decide (eA ≥ (1 : Int)) && decide (eB ≥ (1 : Int)))) H) ∧
 ((eKind == (26 : Int)) = false →
 ((eKind == (28 : Int)) = true → K (Value.bool (decide (eA ≥ (1 : Int)) && decide (eC ≥ (0 : Int)) && decide (eC ≤ (4 : Int)))) H) ∧
 ((eKind == (28 : Int)) = false →
 ((eKind == (24 : Int)) = true → ((decide (eB < (1 : Int)) || decide (eB > (4 : Int))) = true → K (Value.bool false) H) ∧ ((decide (eB < (1 : Int)) || decide (eB > (4 : Int))) = false → K (Value.bool (decide (eA ≥ (1 : Int)) && decide (eC ≥ (1 : Int)))) H)) ∧
 ((eKind == (24 : Int)) = false → ((eKind == (22 : Int)) = true → ((eKind == (22 : Int)) = true → K (Value.bool (decide (eA ≥ (1 : Int)) && decide (eC ≥ (1 : Int)))) H) ∧ ((eKind == (22 : Int)) = false → K (Value.bool (decide (eA ≥ (1 : Int)))) H)) ∧ ((eKind == (22 : Int)) = false → ((eKind == (23 : Int)) = true → K (Value.bool (decide (eA ≥ (1 : Int)) && decide (eC ≥ (1 : Int)))) H) ∧ ((eKind == (23 : Int)) = false → K (Value.bool (decide (eA ≥ (1 : Int)))) H)))))))))))))))) ∧
 ((eKind == (4 : Int)) = false →
 ((eKind == (20 : Int)) = true → K (Value.bool (decide (eA ≥ (0 : Int)))) H) ∧
 ((eKind == (20 : Int)) = false →
 ((eKind == (11 : Int)) = true →
 ((eKind == (11 : Int)) = true → K (Value.bool true) H) ∧
 ((eKind == (11 : Int)) = false →
 ((eKind == (18 : Int)) = true → K (Value.bool (decide (eB ≥ (1 : Int)))) H) ∧
 ((eKind == (18 : Int)) = false →
 ((eKind == (9 : Int)) = true → ∃ (b49 : Bool), (decide (eA ≥ (1 : Int)) = true → Tr Try.prog (67 : Nat) #[Value.int IntKind.i64 eB] H fun (v49 : Value) (H'49 : Heap) => v49 = Value.bool b49 ∧ Ax.Sub H H'49) ∧ K (Value.bool (decide (eA ≥ (1 : Int)) && b49)) H) ∧
 ((eKind == (9 : Int)) = false →
 ((eKind == (14 : Int)) = true → K (Value.bool (decide (eA ≥ (1 : Int)) && (eC == (0 : Int) || eC == (1 : Int)))) H) ∧
 ((eKind == (14 : Int)) = false →
 ((eKind == (26 : Int)) = true → K (Value.bool (decide (eA ≥ (1 : Int)) && decide (eB ≥ (1 : Int)))) H) ∧
 ((eKind == (26 : Int)) = false →
 ((eKind == (28 : Int)) = true → K (Value.bool (decide (eA ≥ (1 : Int)) && decide (eC ≥ (0 : Int)) && decide (eC ≤ (4 : Int)))) H) ∧
 ((eKind == (28 : Int)) = false →
 ((eKind == (24 : Int)) = true → ((decide (eB < (1 : Int)) || decide (eB > (4 : Int))) = true → K (Value.bool false) H) ∧ ((decide (eB < (1 : Int)) || decide (eB > (4 : Int))) = false → K (Value.bool (decide (eA ≥ (1 : Int)) && decide (eC ≥ (1 : Int)))) H)) ∧
 ((eKind == (24 : Int)) = false → ((eKind == (22 : Int)) = true → ((eKind == (22 : Int)) = true → K (Value.bool (decide (eA ≥ (1 : Int)) && decide (eC ≥ (1 : Int)))) H) ∧ ((eKind == (22 : Int)) = false → K (Value.bool (decide (eA ≥ (1 : Int)))) H)) ∧ ((eKind == (22 : Int)) = false → ((eKind == (23 : Int)) = true → K (Value.bool (decide (eA ≥ (1 : Int)) && decide (eC ≥ (1 : Int)))) H) ∧ ((eKind == (23 : Int)) = false → K (Value.bool (decide (eA ≥ (1 : Int)))) H)))))))))) ∧
 ((eKind == (11 : Int)) = false →
 ((eKind == (15 : Int)) = true →
 ((eKind == (15 : Int)) = true → K (Value.bool true) H) ∧
 ((eKind == (15 : Int)) = false →
 ((eKind == (18 : Int)) = true → K (Value.bool (decide (eB ≥ (1 : Int)))) H) ∧
 ((eKind == (18 : Int)) = false →
 ((eKind == (9 : Int)) = true → ∃ (b50 : Bool), (decide (eA ≥ (1 : Int)) = true → Tr Try.prog (67 : Nat) #[Value.int IntKind.i64 eB] H fun (v50 : Value) (H'50 : Heap) => v50 = Value.bool b50 ∧ Ax.Sub H H'50) ∧ K (Value.bool (decide (eA ≥ (1 : Int)) && b50)) H) ∧
 ((eKind == (9 : Int)) = false →
 ((eKind == (14 : Int)) = true → K (Value.bool (decide (eA ≥ (1 : Int)) && (eC == (0 : Int) || eC == (1 : Int)))) H) ∧
 ((eKind == (14 : Int)) = false →
 ((eKind == (26 : Int)) = true → K (Value.bool (decide (eA ≥ (1 : Int)) && decide (eB ≥ (1 : Int)))) H) ∧
 ((eKind == (26 : Int)) = false →
 ((eKind == (28 : Int)) = true → K (Value.bool (decide (eA ≥ (1 : Int)) && decide (eC ≥ (0 : Int)) && decide (eC ≤ (4 : Int)))) H) ∧
 ((eKind == (28 : Int)) = false →
 ((eKind == (24 : Int)) = true → ((decide (eB < (1 : Int)) || decide (eB > (4 : Int))) = true → K (Value.bool false) H) ∧ ((decide (eB < (1 : Int)) || decide (eB > (4 : Int))) = false → K (Value.bool (decide (eA ≥ (1 : Int)) && decide (eC ≥ (1 : Int)))) H)) ∧
 ((eKind == (24 : Int)) = false → ((eKind == (22 : Int)) = true → ((eKind == (22 : Int)) = true → K (Value.bool (decide (eA ≥ (1 : Int)) && decide (eC ≥ (1 : Int)))) H) ∧ ((eKind == (22 : Int)) = false → K (Value.bool (decide (eA ≥ (1 : Int)))) H)) ∧ ((eKind == (22 : Int)) = false → ((eKind == (23 : Int)) = true → K (Value.bool (decide (eA ≥ (1 : Int)) && decide (eC ≥ (1 : Int)))) H) ∧ ((eKind == (23 : Int)) = false → K (Value.bool (decide (eA ≥ (1 : Int)))) H)))))))))) ∧
 ((eKind == (15 : Int)) = false →
 ((eKind == (16 : Int)) = true →
 ((eKind == (16 : Int)) = true → K (Value.bool true) H) ∧
 ((eKind == (16 : Int)) = false →
 ((eKind == (18 : Int)) = true → K (Value.bool (decide (eB ≥ (1 : Int)))) H) ∧
 ((eKind == (18 : Int)) = false →
 ((eKind == (9 : Int)) = true → ∃ (b51 : Bool), (decide (eA ≥ (1 : Int)) = true → Tr Try.prog (67 : Nat) #[Value.int IntKind.i64 eB] H fun (v51 : Value) (H'51 : Heap) => v51 = Value.bool b51 ∧ Ax.Sub H H'51) ∧ K (Value.bool (decide (eA ≥ (1 : Int)) && b51)) H) ∧
 ((eKind == (9 : Int)) = false →
 ((eKind == (14 : Int)) = true → K (Value.bool (decide (eA ≥ (1 : Int)) && (eC == (0 : Int) || eC == (1 : Int)))) H) ∧
 ((eKind == (14 : Int)) = false →
 ((eKind == (26 : Int)) = true → K (Value.bool (decide (eA ≥ (1 : Int)) && decide (eB ≥ (1 : Int)))) H) ∧
 ((eKind == (26 : Int)) = false →
 ((eKind == (28 : Int)) = true → K (Value.bool (decide (eA ≥ (1 : Int)) && decide (eC ≥ (0 : Int)) && decide (eC ≤ (4 : Int)))) H) ∧
 ((eKind == (28 : Int)) = false →
 ((eKind == (24 : Int)) = true → ((decide (eB < (1 : Int)) || decide (eB > (4 : Int))) = true → K (Value.bool false) H) ∧ ((decide (eB < (1 : Int)) || decide (eB > (4 : Int))) = false → K (Value.bool (decide (eA ≥ (1 : Int)) && decide (eC ≥ (1 : Int)))) H)) ∧
 ((eKind == (24 : Int)) = false → ((eKind == (22 : Int)) = true → ((eKind == (22 : Int)) = true → K (Value.bool (decide (eA ≥ (1 : Int)) && decide (eC ≥ (1 : Int)))) H) ∧ ((eKind == (22 : Int)) = false → K (Value.bool (decide (eA ≥ (1 : Int)))) H)) ∧ ((eKind == (22 : Int)) = false → ((eKind == (23 : Int)) = true → K (Value.bool (decide (eA ≥ (1 : Int)) && decide (eC ≥ (1 : Int)))) H) ∧ ((eKind == (23 : Int)) = false → K (Value.bool (decide (eA ≥ (1 : Int)))) H)))))))))) ∧
 ((eKind == (16 : Int)) = false →
 ((eKind == (17 : Int)) = true →
 ((eKind == (17 : Int)) = true → K (Value.bool true) H) ∧
 ((eKind == (17 : Int)) = false →
 ((eKind == (18 : Int)) = true → K (Value.bool (decide (eB ≥ (1 : Int)))) H) ∧
 ((eKind == (18 : Int)) = false →
 ((eKind == (9 : Int)) = true → ∃ (b52 : Bool), (decide (eA ≥ (1 : Int)) = true → Tr Try.prog (67 : Nat) #[Value.int IntKind.i64 eB] H fun (v52 : Value) (H'52 : Heap) => v52 = Value.bool b52 ∧ Ax.Sub H H'52) ∧ K (Value.bool (decide (eA ≥ (1 : Int)) && b52)) H) ∧
 ((eKind == (9 : Int)) = false →
 ((eKind == (14 : Int)) = true → K (Value.bool (decide (eA ≥ (1 : Int)) && (eC == (0 : Int) || eC == (1 : Int)))) H) ∧
 ((eKind == (14 : Int)) = false →
 ((eKind == (26 : Int)) = true → K (Value.bool (decide (eA ≥ (1 : Int)) && decide (eB ≥ (1 : Int)))) H) ∧
 ((eKind == (26 : Int)) = false →
 ((eKind == (28 : Int)) = true → K (Value.bool (decide (eA ≥ (1 : Int)) && decide (eC ≥ (0 : Int)) && decide (eC ≤ (4 : Int)))) H) ∧
 ((eKind == (28 : Int)) = false →
 ((eKind == (24 : Int)) = true → ((decide (eB < (1 : Int)) || decide (eB > (4 : Int))) = true → K (Value.bool false) H) ∧ ((decide (eB < (1 : Int)) || decide (eB > (4 : Int))) = false → K (Value.bool (decide (eA ≥ (1 : Int)) && decide (eC ≥ (1 : Int)))) H)) ∧
 ((eKind == (24 : Int)) = false → ((eKind == (22 : Int)) = true → ((eKind == (22 : Int)) = true → K (Value.bool (decide (eA ≥ (1 : Int)) && decide (eC ≥ (1 : Int)))) H) ∧ ((eKind == (22 : Int)) = false → K (Value.bool (decide (eA ≥ (1 : Int)))) H)) ∧ ((eKind == (22 : Int)) = false → ((eKind == (23 : Int)) = true → K (Value.bool (decide (eA ≥ (1 : Int)) && decide (eC ≥ (1 : Int)))) H) ∧ ((eKind == (23 : Int)) = false → K (Value.bool (decide (eA ≥ (1 : Int)))) H)))))))))) ∧
 ((eKind == (17 : Int)) = false →
 ((eKind == (30 : Int)) = true →
 ((eKind == (30 : Int)) = true → K (Value.bool true) H) ∧
 ((eKind == (30 : Int)) = false →
 ((eKind == (18 : Int)) = true → K (Value.bool (decide (eB ≥ (1 : Int)))) H) ∧
 ((eKind == (18 : Int)) = false →
 ((eKind == (9 : Int)) = true → ∃ (b53 : Bool), (decide (eA ≥ (1 : Int)) = true → Tr Try.prog (67 : Nat) #[Value.int IntKind.i64 eB] H fun (v53 : Value) (H'53 : Heap) => v53 = Value.bool b53 ∧ Ax.Sub H H'53) ∧ K (Value.bool (decide (eA ≥ (1 : Int)) && b53)) H) ∧
 ((eKind == (9 : Int)) = false →
 ((eKind == (14 : Int)) = true → K (Value.bool (decide (eA ≥ (1 : Int)) && (eC == (0 : Int) || eC == (1 : Int)))) H) ∧
 ((eKind == (14 : Int)) = false →
 ((eKind == (26 : Int)) = true → K (Value.bool (decide (eA ≥ (1 : Int)) && decide (eB ≥ (1 : Int)))) H) ∧
 ((eKind == (26 : Int)) = false →
 ((eKind == (28 : Int)) = true → K (Value.bool (decide (eA ≥ (1 : Int)) && decide (eC ≥ (0 : Int)) && decide (eC ≤ (4 : Int)))) H) ∧
 ((eKind == (28 : Int)) = false →
 ((eKind == (24 : Int)) = true → ((decide (eB < (1 : Int)) || decide (eB > (4 : Int))) = true → K (Value.bool false) H) ∧ ((decide (eB < (1 : Int)) || decide (eB > (4 : Int))) = false → K (Value.bool (decide (eA ≥ (1 : Int)) && decide (eC ≥ (1 : Int)))) H)) ∧
 ((eKind == (24 : Int)) = false → ((eKind == (22 : Int)) = true → ((eKind == (22 : Int)) = true → K (Value.bool (decide (eA ≥ (1 : Int)) && decide (eC ≥ (1 : Int)))) H) ∧ ((eKind == (22 : Int)) = false → K (Value.bool (decide (eA ≥ (1 : Int)))) H)) ∧ ((eKind == (22 : Int)) = false → ((eKind == (23 : Int)) = true → K (Value.bool (decide (eA ≥ (1 : Int)) && decide (eC ≥ (1 : Int)))) H) ∧ ((eKind == (23 : Int)) = false → K (Value.bool (decide (eA ≥ (1 : Int)))) H)))))))))) ∧
 ((eKind == (30 : Int)) = false →
 ((eKind == (31 : Int)) = true → K (Value.bool true) H) ∧
 ((eKind == (31 : Int)) = false →
 ((eKind == (18 : Int)) = true → K (Value.bool (decide (eB ≥ (1 : Int)))) H) ∧
 ((eKind == (18 : Int)) = false →
 ((eKind == (9 : Int)) = true → ∃ (b54 : Bool), (decide (eA ≥ (1 : Int)) = true → Tr Try.prog (67 : Nat) #[Value.int IntKind.i64 eB] H fun (v54 : Value) (H'54 : Heap) => v54 = Value.bool b54 ∧ Ax.Sub H H'54) ∧ K (Value.bool (decide (eA ≥ (1 : Int)) && b54)) H) ∧
 ((eKind == (9 : Int)) = false →
 ((eKind == (14 : Int)) = true → K (Value.bool (decide (eA ≥ (1 : Int)) && (eC == (0 : Int) || eC == (1 : Int)))) H) ∧
 ((eKind == (14 : Int)) = false →
 ((eKind == (26 : Int)) = true → K (Value.bool (decide (eA ≥ (1 : Int)) && decide (eB ≥ (1 : Int)))) H) ∧
 ((eKind == (26 : Int)) = false →
 ((eKind == (28 : Int)) = true → K (Value.bool (decide (eA ≥ (1 : Int)) && decide (eC ≥ (0 : Int)) && decide (eC ≤ (4 : Int)))) H) ∧
 ((eKind == (28 : Int)) = false →
 ((eKind == (24 : Int)) = true → ((decide (eB < (1 : Int)) || decide (eB > (4 : Int))) = true → K (Value.bool false) H) ∧ ((decide (eB < (1 : Int)) || decide (eB > (4 : Int))) = false → K (Value.bool (decide (eA ≥ (1 : Int)) && decide (eC ≥ (1 : Int)))) H)) ∧
 ((eKind == (24 : Int)) = false → ((eKind == (22 : Int)) = true → ((eKind == (22 : Int)) = true → K (Value.bool (decide (eA ≥ (1 : Int)) && decide (eC ≥ (1 : Int)))) H) ∧ ((eKind == (22 : Int)) = false → K (Value.bool (decide (eA ≥ (1 : Int)))) H)) ∧ ((eKind == (22 : Int)) = false → ((eKind == (23 : Int)) = true → K (Value.bool (decide (eA ≥ (1 : Int)) && decide (eC ≥ (1 : Int)))) H) ∧ ((eKind == (23 : Int)) = false → K (Value.bool (decide (eA ≥ (1 : Int)))) H))))))))))))))))))))))
theorem v47 {eId : Int} {eTime : Int} {eKind : Int} {eA : Int} {eB : Int} {eC : Int} {eD : Int} {eE : Int} {eF : Int} {H : Heap} {K : Value → Heap → Prop} (h : F47 eId eTime eKind eA eB eC eD eE eF H K) : Tr Try.prog 47 #[.agg #[.int .i64 eId, .int .i64 eTime, .int .i64 eKind, .int .i64 eA, .int .i64 eB, .int .i64 eC, .int .i64 eD, .int .i64 eE, .int .i64 eF]] H K :=
  tr_of_eq (C := c47) Try.func47 (show vcFn c47 Try.f47 [.agg #[.int .i64 eId, .int .i64 eTime, .int .i64 eKind, .int .i64 eA, .int .i64 eB, .int .i64 eC, .int .i64 eD, .int .i64 eE, .int .i64 eF]] H K = F47 eId eTime eKind eA eB eC eD eE eF H K by kernel_rfl) h
noncomputable def c67 : Cx := { P := Try.prog, res := [], pub := [], loops := [], quiet := [] }
def F67 (n : Int) (H : Heap) (K : Value → Heap → Prop) : Prop :=
 K (Value.bool (decide (n ≥ (0 : Int)) && decide (n < (8 : Int)))) H
theorem v67 {n : Int} {H : Heap} {K : Value → Heap → Prop} (h : F67 n H K) : Tr Try.prog 67 #[.int .i64 n] H K :=
  tr_of_eq (C := c67) Try.func67 (show vcFn c67 Try.f67 [.int .i64 n] H K = F67 n H K by kernel_rfl) h
noncomputable def c59 : Cx := { P := Try.prog, res := [], pub := [], loops := [], quiet := [] }
def F59 (kind : Int) (H : Heap) (K : Value → Heap → Prop) : Prop :=
 K (Value.bool (decide (kind ≥ (15 : Int)) && decide (kind ≤ (18 : Int)) || kind == (30 : Int) || kind == (31 : Int))) H
theorem v59 {kind : Int} {H : Heap} {K : Value → Heap → Prop} (h : F59 kind H K) : Tr Try.prog 59 #[.int .i64 kind] H K :=
  tr_of_eq (C := c59) Try.func59 (show vcFn c59 Try.f59 [.int .i64 kind] H K = F59 kind H K by kernel_rfl) h
noncomputable def c63 : Cx := { P := Try.prog, res := [], pub := [], loops := [], quiet := [] }
def F63 (kind : Int) (H : Heap) (K : Value → Heap → Prop) : Prop :=
 K (Value.bool (decide (kind ≥ (3 : Int)) && decide (kind ≤ (18 : Int)))) H
theorem v63 {kind : Int} {H : Heap} {K : Value → Heap → Prop} (h : F63 kind H K) : Tr Try.prog 63 #[.int .i64 kind] H K :=
  tr_of_eq (C := c63) Try.func63 (show vcFn c63 Try.f63 [.int .i64 kind] H K = F63 kind H K by kernel_rfl) h
noncomputable def c19 : Cx := { P := Try.prog, res := [], pub := [], loops := [], quiet := [] }
def F19 (kind : Int) (H : Heap) (K : Value → Heap → Prop) : Prop :=
 K (Value.bool (decide (kind ≥ (3 : Int)) && decide (kind ≤ (18 : Int)))) H
theorem v19 {kind : Int} {H : Heap} {K : Value → Heap → Prop} (h : F19 kind H K) : Tr Try.prog 19 #[.int .i64 kind] H K :=
  tr_of_eq (C := c19) Try.func19 (show vcFn c19 Try.f19 [.int .i64 kind] H K = F19 kind H K by kernel_rfl) h
noncomputable def c20 : Cx := { P := Try.prog, res := [], pub := [], loops := [], quiet := [] }
def F20 (kind : Int) (H : Heap) (K : Value → Heap → Prop) : Prop :=
 K (Value.bool (decide (kind ≥ (15 : Int)) && decide (kind ≤ (18 : Int)) || kind == (30 : Int) || kind == (31 : Int))) H
theorem v20 {kind : Int} {H : Heap} {K : Value → Heap → Prop} (h : F20 kind H K) : Tr Try.prog 20 #[.int .i64 kind] H K :=
  tr_of_eq (C := c20) Try.func20 (show vcFn c20 Try.f20 [.int .i64 kind] H K = F20 kind H K by kernel_rfl) h
end Go.Proofs.Ytjmdoiakcakfoaa
set_option maxRecDepth 100000
namespace Go.Proofs.Ytjmdoiakcakfoaa
open Go.Ax
theorem kinds {k : Int} (h : ¬ (k < 1 ∨ k > 31)) : k = 1 ∨ k = 2 ∨ k = 3 ∨ k = 4 ∨ k = 5 ∨ k = 6 ∨ k = 7 ∨ k = 8 ∨ k = 9 ∨ k = 10 ∨ k = 11 ∨ k = 12 ∨ k = 13 ∨ k = 14 ∨ k = 15 ∨ k = 16 ∨ k = 17 ∨ k = 18 ∨ k = 19 ∨ k = 20 ∨ k = 21 ∨ k = 22 ∨ k = 23 ∨ k = 24 ∨ k = 25 ∨ k = 26 ∨ k = 27 ∨ k = 28 ∨ k = 29 ∨ k = 30 ∨ k = 31 := by omega
theorem f20 (kind : Int) (H : Heap) (K : Value → Heap → Prop) (h : K (.int .i64 (fieldsM kind)) H) : F45 kind H K := by
  by_cases hk : kind < 1 ∨ kind > 31
  · have e : fieldsM kind = -1 := by unfold fieldsM; rw [if_pos hk]
    rw [e] at h
    have n : ∀ m : Int, 1 ≤ m → m ≤ 31 → (kind == m) = false := fun m h1 h2 => by simp; omega
    have o : (decide (kind < 1) || decide (kind > 31)) = true := by simpa using hk
    unfold F45
    repeat first | exact h | refine ct o ?_ | refine cf (n _ (by decide) (by decide)) ?_
  · rcases kinds hk with rfl | rfl | rfl | rfl | rfl | rfl | rfl | rfl | rfl | rfl | rfl | rfl | rfl | rfl | rfl | rfl | rfl | rfl | rfl | rfl | rfl | rfl | rfl | rfl | rfl | rfl | rfl | rfl | rfl | rfl | rfl
    all_goals
      unfold F45
      repeat first | exact h | refine ct rfl ?_ | refine cf rfl ?_
theorem t45 (kind : Int) (H : Heap) : Tr Try.prog 45 #[.int .i64 kind] H (fun v H' => v = .int .i64 (fieldsM kind) ∧ Sub H H') := v45 (f20 _ _ _ ⟨rfl, Sub.refl _⟩)
theorem t63 (kind : Int) (H : Heap) : Tr Try.prog 63 #[.int .i64 kind] H (fun v H' => v = .bool (cmdM kind) ∧ Sub H H') := by apply v63; unfold F63; exact ⟨rfl, Sub.refl _⟩
theorem t19 (kind : Int) (H : Heap) : Tr Try.prog 19 #[.int .i64 kind] H (fun v H' => v = .bool (cmdM kind) ∧ Sub H H') := by apply v19; unfold F19; exact ⟨rfl, Sub.refl _⟩
theorem t59 (kind : Int) (H : Heap) : Tr Try.prog 59 #[.int .i64 kind] H (fun v H' => v = .bool (closeM kind) ∧ Sub H H') := by apply v59; unfold F59; exact ⟨rfl, Sub.refl _⟩
theorem t20 (kind : Int) (H : Heap) : Tr Try.prog 20 #[.int .i64 kind] H (fun v H' => v = .bool (closeM kind) ∧ Sub H H') := by apply v20; unfold F20; exact ⟨rfl, Sub.refl _⟩
def nameM (n : Int) : Bool := decide (n ≥ 0) && decide (n < 8)
theorem t67 (n : Int) (H : Heap) : Tr Try.prog 67 #[.int .i64 n] H (fun v H' => v = .bool (nameM n) ∧ Sub H H') := by apply v67; unfold F67; exact ⟨rfl, Sub.refl _⟩
theorem t46 (x : Ev) (H : Heap) : Tr Try.prog 46 #[x.val] H (fun v H' => v = .agg #[.int .i64 x.a, .int .i64 x.b, .int .i64 x.c, .int .i64 x.d, .int .i64 x.e, .int .i64 x.f] ∧ H' = H) := by
  apply v46; unfold F46; exact ⟨rfl, rfl⟩
def restM (kind a b c d e f : Int) : Bool := numOk kind 0 a && numOk kind 1 b && numOk kind 2 c && numOk kind 3 d && numOk kind 4 e && numOk kind 5 f
structure Zeros (n a b c d e f : Int) : Prop where
  a : ¬ 0 < n → a = 0
  b : ¬ 1 < n → b = 0
  c : ¬ 2 < n → c = 0
  d : ¬ 3 < n → d = 0
  e : ¬ 4 < n → e = 0
  f : ¬ 5 < n → f = 0
theorem f42 (i t kind a b c d e f : Int) (H : Heap) (K : Value → Heap → Prop) (hk : ¬ (kind < 1 ∨ kind > 31)) (hz : Zeros (fieldsM kind) a b c d e f)
    (h : K (.bool (restM kind a b c d e f)) H) : F47 i t kind a b c d e f H K := by
  obtain ⟨za, zb, zc, zd, ze, zf⟩ := hz
  rcases kinds hk with rfl | rfl | rfl | rfl | rfl | rfl | rfl | rfl | rfl | rfl | rfl | rfl | rfl | rfl | rfl | rfl | rfl | rfl | rfl | rfl | rfl | rfl | rfl | rfl | rfl | rfl | rfl | rfl | rfl | rfl | rfl
  all_goals
    unfold F47
    repeat' first | refine ct rfl ?_ | refine cf rfl ?_ | refine ⟨_, t67 _ _, ?_⟩ | refine ⟨_, fun _ => t67 _ _, ?_⟩ | refine ⟨fun h1 => ?_, fun h1 => ?_⟩ | fail
    all_goals
      refine Eq.mp (congrArg (fun b => K (.bool b) H) ?_) h
      rw [Bool.eq_iff_iff]
      try simp at h1
      simp [fieldsM, tabF] at za zb zc zd ze zf
      simp [restM, numOk, fieldsM, tabF, spanM, nameM]
      try omega
theorem t47 (x : Ev) (hk : ¬ (x.kind < 1 ∨ x.kind > 31)) (hz : Zeros (fieldsM x.kind) x.a x.b x.c x.d x.e x.f) (H : Heap) :
    Tr Try.prog 47 #[x.val] H (fun v H' => v = .bool (restM x.kind x.a x.b x.c x.d x.e x.f) ∧ Sub H H') := by
  exact v47 (f42 _ _ _ _ _ _ _ _ _ _ _ hk hz ⟨rfl, Sub.refl _⟩)
theorem valid_eq (x : Ev) : validM x = (headOk x && restM x.kind x.a x.b x.c x.d x.e x.f) := rfl
theorem rest_all (kind : Int) {a b c d e f : Int} : restM kind a b c d e f = true ↔ ∀ (k : Nat) (v : Int), [a, b, c, d, e, f][k]? = some v → numOk kind k v = true := by
  unfold restM
  simp only [Bool.and_eq_true]
  constructor
  · rintro ⟨⟨⟨⟨⟨h0, h1⟩, h2⟩, h3⟩, h4⟩, h5⟩ k v hv
    match k, hv with
    | 0, hv => simp at hv; subst hv; exact h0
    | 1, hv => simp at hv; subst hv; exact h1
    | 2, hv => simp at hv; subst hv; exact h2
    | 3, hv => simp at hv; subst hv; exact h3
    | 4, hv => simp at hv; subst hv; exact h4
    | 5, hv => simp at hv; subst hv; exact h5
    | k + 6, hv => simp at hv
  · intro h
    exact ⟨⟨⟨⟨⟨h 0 a rfl, h 1 b rfl⟩, h 2 c rfl⟩, h 3 d rfl⟩, h 4 e rfl⟩, h 5 f rfl⟩
theorem rest_not {kind : Int} {a b c d e f : Int} {k : Nat} {v : Int} (h : [a, b, c, d, e, f][k]? = some v) (hn : numOk kind k v = false) : restM kind a b c d e f = false := by
  cases hr : restM kind a b c d e f with
  | false => rfl
  | true => have := (rest_all kind).1 hr k v h; rw [hn] at this; cases this
theorem head_false {x : Ev} (h : (decide (fieldsM x.kind < 0) || decide (x.id < 1) || decide (x.id > 256) || decide (x.time < 0) || decide (x.time > 1099511627776)) = true) : validM x = false := by
  rw [valid_eq]; unfold headOk; rw [h]; rfl
theorem head_true {x : Ev} (h : (decide (fieldsM x.kind < 0) || decide (x.id < 1) || decide (x.id > 256) || decide (x.time < 0) || decide (x.time > 1099511627776)) = false) : validM x = restM x.kind x.a x.b x.c x.d x.e x.f := by
  rw [valid_eq]; unfold headOk; rw [h]; rfl
structure RV (x : Ev) (p : Nat → Int → Prop) (i : Int) (H H1 : Heap) : Prop where
  heap : H1 = H
  k : ∃ k : Nat, i = k ∧ k ≤ 6 ∧ ∀ j v, j < k → x.nums[j]? = some v → p j v
theorem RV.zero {x : Ev} {p : Nat → Int → Prop} {H : Heap} : RV x p 0 H H := ⟨rfl, 0, rfl, by omega, fun j v hj => absurd hj (by omega)⟩
theorem RV.next {x : Ev} {p : Nat → Int → Prop} {H H1 : Heap} {k : Nat} {v : Int} (r : RV x p k H H1) (hk : k < 6) (hv : x.nums[k]? = some v) (h : p k v) :
    RV x p (IntKind.i64.wrap ((k : Int) + 1)) H H1 ∧ (6 - IntKind.i64.wrap ((k : Int) + 1)).toNat < (6 - (k : Int)).toNat := by
  rw [wrapi (by omega) (by omega)]
  obtain ⟨k', hk', _, hp⟩ := r.k
  have : k' = k := by omega
  subst this
  refine ⟨⟨r.heap, k' + 1, by omega, by omega, fun j u hj hu => ?_⟩, by omega⟩
  by_cases hjk : j = k'
  · subst hjk; rw [hv] at hu; cases hu; exact h
  · exact hp j u (by omega) hu
theorem nums_arr (x : Ev) {k : Nat} (hk : k < 6) : ∃ v, x.nums[k]? = some v ∧ arrAt [.int .i64 x.a, .int .i64 x.b, .int .i64 x.c, .int .i64 x.d, .int .i64 x.e, .int .i64 x.f] 6 k 1 [.int .i64 v] := by
  match k, hk with
  | 0, _ => exact ⟨x.a, rfl, by decide, by decide, rfl⟩
  | 1, _ => exact ⟨x.b, rfl, by decide, by decide, rfl⟩
  | 2, _ => exact ⟨x.c, rfl, by decide, by decide, rfl⟩
  | 3, _ => exact ⟨x.d, rfl, by decide, by decide, rfl⟩
  | 4, _ => exact ⟨x.e, rfl, by decide, by decide, rfl⟩
  | 5, _ => exact ⟨x.f, rfl, by decide, by decide, rfl⟩
  | k + 6, h => exact absurd h (by omega)
theorem t27 (x : Ev) (H : Heap) : Tr Try.prog 27 #[x.val] H (fun v H' => v = .bool (validM x) ∧ Sub H H') := by
  apply v27; unfold F27
  refine ⟨_, t45 _ H, fun h => ⟨by rw [head_false h], Sub.refl _⟩, fun h => ?_⟩
  rw [head_true h]
  refine (t46 x H).mono fun v H' hv => ?_
  obtain ⟨rfl, rfl⟩ := hv
  refine ⟨_, _, _, _, _, _, rfl, fun i H1 => RV x (fun k v => ¬ (k : Int) < fieldsM x.kind → v = 0) i H' H1, fun i _ => (6 - i).toNat, RV.zero, fun i H1 r => ?_⟩
  have hH := r.heap; subst hH
  obtain ⟨k, rfl, hk, hp⟩ := r.k
  refine ⟨fun hlt => ?_, fun hge => ?_⟩
  · have hlt := of_decide_eq_true hlt
    obtain ⟨v, hv, ha⟩ := nums_arr x (k := k) (by omega)
    refine ⟨v, ha, fun hb => ⟨?_, Sub.refl _⟩, fun hb => RV.next r (by omega) hv fun hn => ?_⟩
    · simp at hb
      rw [rest_not hv (by unfold numOk; rw [if_neg (by omega)]; simpa using hb.2)]
    · simp at hb; exact hb (by omega)
  · have hge := of_decide_eq_false hge
    have hz : Zeros (fieldsM x.kind) x.a x.b x.c x.d x.e x.f := ⟨hp 0 _ (by omega) rfl, hp 1 _ (by omega) rfl, hp 2 _ (by omega) rfl, hp 3 _ (by omega) rfl, hp 4 _ (by omega) rfl, hp 5 _ (by omega) rfl⟩
    have hk : ¬ (x.kind < 1 ∨ x.kind > 31) := by
      rw [← fields_neg]; simp at h; omega
    exact ⟨_, t47 x hk hz H1, rfl, Sub.refl _⟩
end Go.Proofs.Ytjmdoiakcakfoaa
set_option maxRecDepth 100000
namespace Go.Proofs.Ytjmdoiakcakfoaa
open Go.Ax
structure HasEvs (H : Heap) (A : Option Addr) (n : Nat) (l : List Ev) : Prop where
  len : n = l.length
  at_ : ∀ i x, l[i]? = some x → ∃ a, A = some a ∧ At H (a.add (i * 9)) x.cells
theorem HasEvs.sub {H H' : Heap} {A : Option Addr} {n : Nat} {l : List Ev} (h : HasEvs H A n l) (k : Sub H H') : HasEvs H' A n l :=
  ⟨h.len, fun i x e => let ⟨a, ha, hat⟩ := h.at_ i x e; ⟨a, ha, hat.sub k⟩⟩
theorem flat_get : ∀ (l : List Ev) (i : Nat) (x : Ev) (j : Nat) (v : Value), l[i]? = some x → x.cells[j]? = some v → (l.flatMap Ev.cells)[i * 9 + j]? = some v
  | y :: l, 0, x, j, v, h, hv => by
    simp at h; subst h
    rw [List.flatMap_cons, List.getElem?_append_left (by have := get_lt hv; omega)]
    rw [Nat.zero_mul, Nat.zero_add]; exact hv
  | y :: l, i + 1, x, j, v, h, hv => by
    have e : (i + 1) * 9 + j = y.cells.length + (i * 9 + j) := by have : y.cells.length = 9 := rfl; omega
    rw [List.flatMap_cons, e, List.getElem?_append_right (by omega)]
    have e2 : y.cells.length + (i * 9 + j) - y.cells.length = i * 9 + j := by omega
    rw [e2]
    exact flat_get l i x j v (by simpa using h) hv
theorem flat_len (l : List Ev) : (l.flatMap Ev.cells).length = l.length * 9 := by
  induction l with
  | nil => rfl
  | cons x l ih => rw [List.flatMap_cons, List.length_append, ih]; have : x.cells.length = 9 := rfl; simp; omega
theorem OwnS.evs {H H1 : Heap} {A : Option Addr} {n c : Nat} {l : List Ev} (h : OwnS H H1 A n c 9 (l.flatMap Ev.cells)) : HasEvs H1 A n l := by
  refine ⟨by have := h.len; rw [flat_len] at this; omega, fun i x hx => ?_⟩
  rcases h.src with e | ⟨a, ha, hat⟩
  · have : l.length = 0 := by have := flat_len l; rw [e] at this; simp only [List.length_nil] at this; omega
    have := get_lt hx; omega
  · obtain ⟨c0, t, fz, h1, h2, h3⟩ := hat.out
    have d := at_drop (i * 9) hat
    obtain ⟨c1, t1, f1, g1, g2, g3⟩ := d.out
    refine ⟨a, ha, ⟨⟨c1, t1, f1, g1, g2, fun j v hv => g3 j v ?_⟩⟩⟩
    rw [List.getElem?_drop]; exact flat_get l i x j v hx hv
def Ev.beq (x y : Ev) : Bool := x.id == y.id && (x.time == y.time && (x.kind == y.kind && (x.a == y.a && (x.b == y.b && (x.c == y.c && (x.d == y.d && (x.e == y.e && (x.f == y.f && true))))))))
end Go.Proofs.Ytjmdoiakcakfoaa
set_option maxRecDepth 100000
namespace Go.Ax
structure SlH where
  (A : Option Addr) (n c : Nat)
def SlH.v (h : SlH) : Value := .slice h.A h.n h.c
def SlH.blk (h : SlH) : Option Nat := h.A.map Addr.block
structure SlOk (H : Heap) (h : SlH) (sz : Nat) (cs : List Value) : Prop where
  len : cs.length = h.n * sz
  cap : h.n ≤ h.c
  at_ : (h.A = none ∧ h.n = 0 ∧ h.c = 0) ∨ ∃ b off cur T, h.A = some ⟨b, off, none⟩ ∧ H b = some (.cells cur T (0, 0)) ∧ off + h.c * sz ≤ cur.size ∧ ∀ (j : Nat) (v : Value), cs[j]? = some v → cur[off + j]? = some v
theorem SlOk.src {H : Heap} {h : SlH} {sz : Nat} {cs : List Value} (k : SlOk H h sz cs) : Src H h.A cs := by
  rcases k.at_ with ⟨a1, a2, a3⟩ | ⟨b, off, cur, T, a1, a2, a3, a4⟩
  · left
    have := k.len
    rw [a2, Nat.zero_mul] at this
    exact List.length_eq_zero_iff.1 this
  · exact .inr ⟨_, a1, ⟨⟨cur, T, (0, 0), a2, rfl, a4⟩⟩⟩
theorem SlOk.mono {H H' : Heap} {h : SlH} {sz : Nat} {cs : List Value} (k : SlOk H h sz cs) (e : ∀ b, h.blk = some b → H' b = H b) : SlOk H' h sz cs := by
  refine ⟨k.len, k.cap, ?_⟩
  rcases k.at_ with a | ⟨b, off, cur, T, a1, a2, a3, a4⟩
  · exact .inl a
  · exact .inr ⟨b, off, cur, T, a1, by rw [e b (by unfold SlH.blk; rw [a1]; rfl)]; exact a2, a3, a4⟩
theorem SlOk.sub {H H' : Heap} {h : SlH} {sz : Nat} {cs : List Value} (k : SlOk H h sz cs) (e : Sub H H') : SlOk H' h sz cs := by
  refine ⟨k.len, k.cap, ?_⟩
  rcases k.at_ with a | ⟨b, off, cur, T, a1, a2, a3, a4⟩
  · exact .inl a
  · exact .inr ⟨b, off, cur, T, a1, e.sub _ _ a2, a3, a4⟩
def intsC (l : List Int) : List Value := l.map (Value.int .i64)
structure HasL (H : Heap) (h : SlH) (l : List Int) : Prop where
  len : h.n = l.length
  src : Src H h.A (intsC l)
theorem HasL.sub {H H' : Heap} {h : SlH} {l : List Int} (k : HasL H h l) (e : Sub H H') : HasL H' h l := by
  refine ⟨k.len, ?_⟩
  rcases k.src with a | ⟨a, h1, h2⟩
  · exact .inl a
  · exact .inr ⟨a, h1, h2.sub e⟩
theorem HasL.nil (H : Heap) (c : Nat) : HasL H ⟨none, 0, c⟩ [] := ⟨rfl, .inl rfl⟩
def dif (F G : Heap) : Heap := fun i => if (G i).isSome = true then none else F i
theorem dif_sub {F G : Heap} : Sub (dif F G) F := ⟨fun i o h => by
  unfold dif at h
  split at h
  · cases h
  · exact h⟩
theorem dif_eq {F F' G G' : Heap} (h : ∀ i, (G i).isSome = false → F' i = F i ∧ (G' i).isSome = false) : Sub (dif F G) (dif F' G') := ⟨fun i o k => by
  unfold dif at k ⊢
  split at k
  · cases k
  · rename_i e
    have q := h i (by simpa using e)
    rw [if_neg (by rw [q.2]; simp), q.1]; exact k⟩
def cellsV (n : Nat) (l : List Int) : List Value := (List.range n).map fun i => Value.int .i64 (l[i]?.getD 0)
theorem cellsV_set {n : Nat} {l : List Int} {k : Nat} {x : Int} (hl : l.length = n) (hk : k < n) : (cellsV n l).set k (.int .i64 x) = cellsV n (l.set k x) := by
  apply List.ext_getElem?
  intro i
  unfold cellsV
  rw [List.getElem?_set]
  by_cases h : k = i
  · subst h
    rw [if_pos rfl]
    simp [hk, hl]
  · rw [if_neg h]
    rcases Nat.lt_or_ge i n with hi | hi
    · simp [hi, h, List.getElem?_set]
    · simp [Nat.not_lt.2 hi]
end Go.Ax
namespace Go.Proofs.Ytjmdoiakcakfoaa
open Go.Ax
def thrC (z : Thr × SlH) : List Value := [.int .i64 z.1.func, .int .i64 z.1.pc, .int .i64 z.1.scope, z.2.v, .int .i64 z.1.arg, .int .i64 z.1.future, .int .i64 z.1.update, .int .i64 z.1.waits, .int .i64 z.1.signal]
def futC (f : Fut) : List Value := [.int .i64 f.kind, .int .i64 f.event, .int .i64 f.scope, .bool f.done, .int .i64 f.value, .int .i64 f.status]
def scpC (c : Scp) : List Value := [.int .i64 c.parent, .bool c.cancelled]
def mCells (pf po : SlH) (sl : Nat → SlH) (ex : Value) (s : VS) : List Value :=
  [pf.v, po.v] ++ cellsV 16 s.vars ++ cellsV 4 s.attrs ++ [.int .i64 s.now, (sl 0).v, (sl 1).v, (sl 2).v, (sl 3).v, .bool s.over, (sl 4).v, .bool s.cancel, .int .i64 s.count, .int .i64 s.fuel, (sl 5).v, .int .u64 s.draws, ex, .bool s.drift]
def szC (c : Nat) : Nat := if c = 0 then 9 else if c = 1 then 6 else if c = 2 then 2 else if c = 3 then 1 else if c = 4 then 9 else if c = 5 then 9 else 1
def contC (sl : Nat → SlH) (st : List SlH) (s : VS) (c : Nat) : List Value :=
  if c = 0 then (s.threads.zip st).flatMap thrC else if c = 1 then s.futures.flatMap futC else if c = 2 then s.scopes.flatMap scpC else
  if c = 3 then (List.range 8).map (fun k => (sl (6 + k)).v) else if c = 4 then s.updates.flatMap Ev.cells else if c = 5 then s.made.flatMap Ev.cells else intsC (s.signals[c - 6]?.getD [])
structure ExpOk (F G H : Heap) (m : Nat) (sl : Nat → SlH) (ex : Value) (e : Option (List Ev)) : Prop where
  none_ : e = none → ex = .nilFunc
  some_ : ∀ l, e = some l → ∃ xb A n c T, ex = .func (.func 60) #[] #[.pointer (some ⟨xb, 0, none⟩)] ∧ H xb = some (.cells #[.slice A n c] T (0, 0)) ∧ F xb = none ∧ xb ≠ m ∧ (∀ c, c < 14 → (sl c).blk ≠ some xb) ∧ (n = l.length ∧ n ≤ c) ∧ Src (dif F G) A (l.flatMap Ev.cells)
structure VMX (G H : Heap) (m : Nat) (pf po : SlH) (sl : Nat → SlH) (F : Heap) (ex : Value) (st : List SlH) (s : VS) : Prop where
  gf : Sub G F
  fh : Sub F H
  fm : F m = none
  hm : H m = some (.cells ⟨mCells pf po sl ex s⟩ 89 (0, 0))
  own : ∀ c, c < 14 → ∀ b, (sl c).blk = some b → F b = none ∧ b ≠ m
  inj : ∀ c c' b, c < 14 → c' < 14 → (sl c).blk = some b → (sl c').blk = some b → c = c'
  ok : ∀ c, c < 14 → SlOk H (sl c) (szC c) (contC sl st s c)
  stl : st.length = s.threads.length
  stk : ∀ (j : Nat) (t : Thr) (h : SlH), s.threads[j]? = some t → st[j]? = some h → HasL (dif F G) h t.stack
  vars : s.vars.length = 16
  attrs : s.attrs.length = 4
  sigs : s.signals.length = 8
  exp : ExpOk F G H m sl ex s.expect
theorem src_sub {H H' : Heap} {A : Option Addr} {cs : List Value} (h : Src H A cs) (k : Sub H H') : Src H' A cs := by
  rcases h with a | ⟨a, h1, h2⟩
  · exact .inl a
  · exact .inr ⟨a, h1, h2.sub k⟩
theorem VMX.frame {G G' H H' : Heap} {m : Nat} {pf po : SlH} {sl : Nat → SlH} {F F' : Heap} {ex : Value} {st : List SlH} {s : VS} (h : VMX G H m pf po sl F ex st s)
    (gf : Sub G' F') (fh : Sub F' H') (fn : ∀ b, F b = none → (H b).isSome = true → F' b = none ∧ H' b = H b) (hd : Sub (dif F G) (dif F' G')) : VMX G' H' m pf po sl F' ex st s := by
  have hm' := fn m h.fm (by rw [h.hm]; rfl)
  have slb : ∀ c, c < 14 → ∀ b, (sl c).blk = some b → F' b = none ∧ H' b = H b := fun c hc b hb => by
    refine fn b (h.own c hc b hb).1 ?_
    rcases (h.ok c hc).at_ with a | ⟨b', off, cur, T, a1, a2, a3, a4⟩
    · unfold SlH.blk at hb; rw [a.1] at hb; cases hb
    · unfold SlH.blk at hb; rw [a1] at hb; cases hb; rw [a2]; rfl
  refine ⟨gf, fh, hm'.1, by rw [hm'.2]; exact h.hm, fun c hc b hb => ⟨(slb c hc b hb).1, (h.own c hc b hb).2⟩, h.inj, fun c hc => (h.ok c hc).mono fun b hb => (slb c hc b hb).2, h.stl, fun j t q h1 h2 => (h.stk j t q h1 h2).sub hd, h.vars, h.attrs, h.sigs, h.exp.none_, fun l hl => ?_⟩
  obtain ⟨xb, A, n, c, T, e1, e2, e3, e4, e5, e6, e7⟩ := h.exp.some_ l hl
  have q := fn xb e3 (by rw [e2]; rfl)
  exact ⟨xb, A, n, c, T, e1, by rw [q.2]; exact e2, q.1, e4, e5, e6, src_sub e7 hd⟩
theorem VMX.turn {G H : Heap} {m : Nat} {pf po : SlH} {sl : Nat → SlH} {F : Heap} {ex : Value} {st : List SlH} {s : VS} (h : VMX G H m pf po sl F ex st s) {b : Nat} {o : Obj} (hb : G b = some o) (y : Obj) : VMX (G.upd b y) (H.upd b y) m pf po sl (F.upd b y) ex st s := by
  have hF := h.gf.sub _ _ hb
  have up : ∀ {X Y : Heap}, Sub X Y → Sub (X.upd b y) (Y.upd b y) := fun k => ⟨fun i x hx => by
    by_cases e : i = b
    · subst e; rw [Heap.upd_same] at hx ⊢; exact hx
    · rw [Heap.upd_other e] at hx ⊢; exact k.sub i x hx⟩
  refine h.frame (up h.gf) (up h.fh) (fun b' hn _ => ?_) (dif_eq fun i hi => ?_)
  · have hne : b' ≠ b := fun e => by subst e; rw [hF] at hn; cases hn
    exact ⟨by rw [Heap.upd_other hne]; exact hn, Heap.upd_other hne⟩
  · have hne : i ≠ b := fun e => by subst e; rw [hb] at hi; cases hi
    exact ⟨Heap.upd_other hne, by rw [Heap.upd_other hne]; exact hi⟩
theorem VMX.ext {G H : Heap} {m : Nat} {pf po : SlH} {sl : Nat → SlH} {F : Heap} {ex : Value} {st : List SlH} {s : VS} (h : VMX G H m pf po sl F ex st s) {b : Nat} (hb : H b = none) (o : Obj) : VMX (G.upd b o) (H.upd b o) m pf po sl (F.upd b o) ex st s := by
  have hF := none_below h.fh hb
  have hG := none_below h.gf hF
  have up : ∀ {X Y : Heap}, Sub X Y → Sub (X.upd b o) (Y.upd b o) := fun k => ⟨fun i x hx => by
    by_cases e : i = b
    · subst e; rw [Heap.upd_same] at hx ⊢; exact hx
    · rw [Heap.upd_other e] at hx ⊢; exact k.sub i x hx⟩
  refine h.frame (up h.gf) (up h.fh) (fun b' hn hs => ?_) ⟨fun i x k => ?_⟩
  · have hne : b' ≠ b := fun e => by subst e; rw [hb] at hs; cases hs
    exact ⟨by rw [Heap.upd_other hne]; exact hn, Heap.upd_other hne⟩
  · unfold dif at k ⊢
    split at k
    · cases k
    · rename_i e
      have hne : i ≠ b := fun q => by subst q; rw [hF] at k; cases k
      rw [Heap.upd_other hne, if_neg e, Heap.upd_other hne]; exact k
theorem VMX.weaken {G G0 H : Heap} {m : Nat} {pf po : SlH} {sl : Nat → SlH} {F : Heap} {ex : Value} {st : List SlH} {s : VS} (h : VMX G H m pf po sl F ex st s) (k : Sub G0 G) : VMX G0 H m pf po sl F ex st s := by
  refine h.frame (k.trans h.gf) h.fh (fun b hn _ => ⟨hn, rfl⟩) (dif_eq fun i hi => ⟨rfl, ?_⟩)
  cases e : G0 i with
  | none => rfl
  | some o => rw [k.sub _ _ e] at hi; cases hi
theorem VMX.grow {G H H' : Heap} {m : Nat} {pf po : SlH} {sl : Nat → SlH} {F : Heap} {ex : Value} {st : List SlH} {s : VS} (h : VMX G H m pf po sl F ex st s) (k : Sub H H') : VMX G H' m pf po sl F ex st s := by
  refine h.frame h.gf (h.fh.trans k) (fun b hn hs => ⟨hn, ?_⟩) ⟨fun _ _ h => h⟩
  obtain ⟨o, ho⟩ := Option.isSome_iff_exists.1 hs
  rw [ho, k.sub _ _ ho]
theorem VMX.cell {G H : Heap} {m : Nat} {pf po : SlH} {sl : Nat → SlH} {F : Heap} {ex : Value} {st : List SlH} {s : VS} (h : VMX G H m pf po sl F ex st s) {k : Nat} {v : Value} (hv : (mCells pf po sl ex s)[k]? = some v) : At H ((⟨m, 0, none⟩ : Addr).add k) [v] := by
  refine ⟨⟨_, _, _, by rw [add_block]; exact h.hm, add_spot _ _, fun j u hj => ?_⟩⟩
  rw [add_off]
  cases j with
  | succ j => simp at hj
  | zero => simp at hj; subst hj; simpa using hv
theorem VMX.set {G H : Heap} {m : Nat} {pf po : SlH} {sl : Nat → SlH} {F : Heap} {ex : Value} {st : List SlH} {s : VS} (h : VMX G H m pf po sl F ex st s) (s' : VS)
    (e1 : s'.threads = s.threads) (e2 : s'.futures = s.futures) (e3 : s'.scopes = s.scopes) (e4 : s'.signals = s.signals) (e5 : s'.updates = s.updates) (e6 : s'.made = s.made) (e7 : s'.expect = s.expect) (e8 : s'.vars.length = 16) (e9 : s'.attrs.length = 4) :
    VMX G (H.upd m (.cells ⟨mCells pf po sl ex s'⟩ 89 (0, 0))) m pf po sl F ex st s' := by
  have ne : ∀ c, c < 14 → ∀ b, (sl c).blk = some b → b ≠ m := fun c hc b hb => (h.own c hc b hb).2
  have ec : ∀ c, contC sl st s' c = contC sl st s c := fun c => by unfold contC; rw [e1, e2, e3, e4, e5, e6]
  refine ⟨h.gf, ⟨fun i o ho => ?_⟩, h.fm, Heap.upd_same, h.own, h.inj, fun c hc => ?_, by rw [e1]; exact h.stl, by rw [e1]; exact h.stk, e8, e9, by rw [e4]; exact h.sigs, ⟨fun q => h.exp.none_ (by rw [← e7]; exact q), fun l hl => ?_⟩⟩
  · rw [Heap.upd_other (fun e => by subst e; rw [h.fm] at ho; cases ho)]; exact h.fh.sub _ _ ho
  · rw [ec]; exact (h.ok c hc).mono fun b hb => Heap.upd_other (ne c hc b hb)
  · rw [e7] at hl
    obtain ⟨xb, A, n, c, T, q1, q2, q3, q4, q5, q6, q7⟩ := h.exp.some_ l hl
    exact ⟨xb, A, n, c, T, q1, by rw [Heap.upd_other q4]; exact q2, q3, q4, q5, q6, q7⟩
end Go.Proofs.Ytjmdoiakcakfoaa
set_option maxRecDepth 100000
namespace Go.Proofs.Ytjmdoiakcakfoaa
open Go.Ax
section
variable {G H : Heap} {m : Nat} {pf po : SlH} {sl : Nat → SlH} {F : Heap} {ex : Value} {st : List SlH} {s : VS}
structure Free (F H : Heap) (m : Nat) (sl : Nat → SlH) (ex : Value) (c b : Nat) : Prop where
  f : F b = none
  m : b ≠ m
  sl : ∀ c', c' < 14 → (sl c').blk = some b → c' = c
  x : ∀ (xb : Nat), ex = .func (.func 60) #[] #[.pointer (some ⟨xb, 0, none⟩)] → xb ≠ b
theorem VMX.free_own (h : VMX G H m pf po sl F ex st s) {c b : Nat} (hc : c < 14) (hb : (sl c).blk = some b) : Free F H m sl ex c b := by
  refine ⟨(h.own c hc b hb).1, (h.own c hc b hb).2, fun c' hc' hb' => h.inj c' c b hc' hc hb' hb, fun xb e => ?_⟩
  cases he : s.expect with
  | none => rw [h.exp.none_ he] at e; cases e
  | some l =>
    obtain ⟨xb', A, n, k, T, q1, -, -, -, q5, -⟩ := h.exp.some_ l he
    rw [q1] at e
    injection e with _ _ e
    simp at e
    subst e
    intro e2; subst e2; exact q5 c hc hb
theorem VMX.free_new (h : VMX G H m pf po sl F ex st s) {c b : Nat} (hb : H b = none) : Free F H m sl ex c b := by
  refine ⟨none_below h.fh hb, fun e => (by subst e; rw [h.hm] at hb; cases hb), fun c' hc' hb' => ?_, fun xb e => ?_⟩
  · rcases (h.ok c' hc').at_ with a | ⟨b', off, cur, T, a1, a2, _⟩
    · unfold SlH.blk at hb'; rw [a.1] at hb'; cases hb'
    · unfold SlH.blk at hb'; rw [a1] at hb'; cases hb'; rw [hb] at a2; cases a2
  · cases he : s.expect with
    | none => rw [h.exp.none_ he] at e; cases e
    | some l =>
      obtain ⟨xb', A, n, k, T, q1, q2, -⟩ := h.exp.some_ l he
      rw [q1] at e
      injection e with _ _ e
      simp at e
      subst e
      intro e2; subst e2; rw [hb] at q2; cases q2
structure Ready (F H : Heap) (m : Nat) (sl : Nat → SlH) (ex : Value) (c : Nat) (hn : SlH) (cs : List Value) : Prop where
  ok : SlOk H hn (szC c) cs
  free : ∀ b, hn.blk = some b → Free F H m sl ex c b
theorem VMX.app (h : VMX G H m pf po sl F ex st s) {c : Nat} (hc : c < 14) {e : TypeId} {bytes : Nat} {new : List Value} {k : Nat} (hk : new.length = k * szC c) (h1 : allOne new = true) (hb : ((sl c).n + k) * bytes ≤ 140737488355328) (hl : (sl c).n + k ≤ 9223372036854775807)
    {K : Option Addr → Nat → Nat → Heap → Prop} (q : ∀ A' c' H', VMX G H' m pf po sl F ex st s → Ready F H' m sl ex c ⟨A', (sl c).n + k, c'⟩ (contC sl st s c ++ new) → K A' ((sl c).n + k) c' H') :
    appC e (szC c) bytes H (sl c).A (sl c).n (sl c).c new k K := by
  have ok := h.ok c hc
  refine ⟨⟨contC sl st s c, ok.src, ok.len, hk, h1, hb, hl, fun hcap => ?_, fun hcap b cap rest hbn hle hr => ?_⟩⟩
  · rcases ok.at_ with ⟨a1, a2, a3⟩ | ⟨b, off, cur, T, a1, a2, a3, a4⟩
    · left
      have k0 : k = 0 := by omega
      subst k0
      have hn : new = [] := List.length_eq_zero_iff.1 (by omega)
      subst hn
      refine ⟨rfl, q _ _ _ h ⟨⟨by rw [List.append_nil]; simpa using ok.len, hcap, .inl ⟨a1, by simp only; omega, a3⟩⟩, fun b hb => ?_⟩⟩
      unfold SlH.blk at hb; simp only at hb; rw [a1] at hb; cases hb
    · right
      have hsz : (off + (sl c).n * szC c) + new.length ≤ cur.size := by
        have : ((sl c).n + k) * szC c ≤ (sl c).c * szC c := Nat.mul_le_mul_right _ hcap
        rw [Nat.add_mul] at this
        omega
      have hblk : (sl c).blk = some b := by unfold SlH.blk; rw [a1]; rfl
      have fr := h.free_own hc hblk
      have hlen := ok.len
      have old : ∀ j v, (contC sl st s c)[j]? = some v → (splice cur (off + (sl c).n * szC c) new)[off + j]? = some v := fun j v hv => by
        rw [splice_get hsz, if_pos (by have := get_lt hv; omega)]; exact a4 j v hv
      refine ⟨⟨b, off, none⟩, cur, T, a1, rfl, a2, hsz, q _ _ _ ?_ ⟨⟨?_, hcap, .inr ⟨b, off, _, T, a1, Heap.upd_same, ?_, fun j v hv => ?_⟩⟩, fun b' hb' => ?_⟩⟩
      · refine ⟨h.gf, ⟨fun i o ho => ?_⟩, h.fm, by rw [Heap.upd_other (fun e => fr.m e.symm)]; exact h.hm, h.own, h.inj, fun c' hc' => ?_, h.stl, h.stk, h.vars, h.attrs, h.sigs, h.exp.none_, fun l hl => ?_⟩
        · rw [Heap.upd_other (fun e => by subst e; rw [fr.f] at ho; cases ho)]; exact h.fh.sub _ _ ho
        · by_cases hcc : c' = c
          · subst hcc
            exact ⟨ok.len, ok.cap, .inr ⟨b, off, _, T, a1, Heap.upd_same, by rw [splice_size hsz]; exact a3, old⟩⟩
          · exact (h.ok c' hc').mono fun b' hb' => Heap.upd_other fun e => by subst e; exact hcc (fr.sl c' hc' hb')
        · obtain ⟨xb, A, n, c2, T2, q1, q2, q3, q4, q5, q6, q7⟩ := h.exp.some_ l hl
          exact ⟨xb, A, n, c2, T2, q1, by rw [Heap.upd_other (fr.x xb q1)]; exact q2, q3, q4, q5, q6, q7⟩
      · rw [List.length_append, hlen, hk, Nat.add_mul]
      · rw [splice_size hsz]; exact a3
      · by_cases hj : j < (sl c).n * szC c
        · rw [List.getElem?_append_left (by omega)] at hv
          exact old j v hv
        · have hlt := get_lt hv
          rw [List.length_append] at hlt
          rw [List.getElem?_append_right (by omega), hlen] at hv
          rw [splice_get hsz, if_neg (by omega), if_pos (by omega)]
          rw [← hv]; congr 1; omega
      · unfold SlH.blk at hb'; simp only at hb'; rw [a1] at hb'; cases hb'
        exact ⟨fr.f, fr.m, fr.sl, fr.x⟩
  · have h' := h.grow (Sub.upd_new (o := .cells ⟨contC sl st s c ++ new ++ rest⟩ e (0, 0)) hbn)
    have fr := h.free_new (c := c) hbn
    refine q _ _ _ h' ⟨⟨by rw [List.length_append, ok.len, hk, Nat.add_mul], hle, .inr ⟨b, 0, _, e, rfl, Heap.upd_same, ?_, fun j v hv => ?_⟩⟩, fun b' hb' => ?_⟩
    · simp only [List.size_toArray, List.length_append, ok.len, hk, hr]
      rw [← Nat.add_mul, ← Nat.add_mul]
      have : (sl c).n + k + (cap - ((sl c).n + k)) = cap := by omega
      rw [this]; simp
    · have hj := get_lt hv
      simp only [List.getElem?_toArray, Nat.zero_add]
      rw [List.getElem?_append_left hj]; exact hv
    · unfold SlH.blk at hb'; simp only at hb'; cases hb'
      exact ⟨fr.f, fr.m, fr.sl, fr.x⟩
def setH (sl : Nat → SlH) (c : Nat) (hn : SlH) : Nat → SlH := fun i => if i = c then hn else sl i
theorem VMX.setSl (h : VMX G H m pf po sl F ex st s) {c : Nat} (hc : c < 14) {hn : SlH} {cs : List Value} (r : Ready F H m sl ex c hn cs) (s' : VS) (st' : List SlH)
    (e0 : contC (setH sl c hn) st' s' c = cs) (ec : ∀ c', c' < 14 → c' ≠ c → contC (setH sl c hn) st' s' c' = contC sl st s c') (e7 : s'.expect = s.expect) (e8 : s'.vars.length = 16) (e9 : s'.attrs.length = 4) (e10 : s'.signals.length = 8)
    (e11 : st'.length = s'.threads.length) (e12 : ∀ (j : Nat) (t : Thr) (q : SlH), s'.threads[j]? = some t → st'[j]? = some q → HasL (dif F G) q t.stack) :
    VMX G (H.upd m (.cells ⟨mCells pf po (setH sl c hn) ex s'⟩ 89 (0, 0))) m pf po (setH sl c hn) F ex st' s' := by
  have get : ∀ c', setH sl c hn c' = if c' = c then hn else sl c' := fun _ => rfl
  refine ⟨h.gf, ⟨fun i o ho => ?_⟩, h.fm, Heap.upd_same, fun c' hc' b hb => ?_, fun c1 c2 b hc1 hc2 h1 h2 => ?_, fun c' hc' => ?_, e11, e12, e8, e9, e10, ⟨fun q => h.exp.none_ (by rw [← e7]; exact q), fun l hl => ?_⟩⟩
  · rw [Heap.upd_other (fun e => by subst e; rw [h.fm] at ho; cases ho)]; exact h.fh.sub _ _ ho
  · rw [get] at hb
    split at hb
    · exact ⟨(r.free b hb).f, (r.free b hb).m⟩
    · exact h.own c' hc' b hb
  · rw [get] at h1 h2
    split at h1
    · rename_i q1
      split at h2
      · rename_i q2; rw [q1, q2]
      · rw [q1]; exact ((r.free b h1).sl c2 hc2 h2).symm
    · split at h2
      · rename_i q2; rw [q2]; exact (r.free b h2).sl c1 hc1 h1
      · exact h.inj c1 c2 b hc1 hc2 h1 h2
  · by_cases hcc : c' = c
    · subst hcc
      rw [e0, get, if_pos rfl]
      exact r.ok.mono fun b hb => Heap.upd_other (r.free b hb).m
    · rw [ec c' hc' hcc, get, if_neg hcc]
      exact (h.ok c' hc').mono fun b hb => Heap.upd_other (h.own c' hc' b hb).2
  · rw [e7] at hl
    obtain ⟨xb, A, n, k, T, q1, q2, q3, q4, q5, q6, q7⟩ := h.exp.some_ l hl
    refine ⟨xb, A, n, k, T, q1, by rw [Heap.upd_other q4]; exact q2, q3, q4, fun c' hc' hb => ?_, q6, q7⟩
    rw [get] at hb
    split at hb
    · exact (r.free xb hb).x xb q1 rfl
    · exact q5 c' hc' hb
theorem VMX.put (h : VMX G H m pf po sl F ex st s) {c : Nat} (hc : c < 14) {a : Addr} (ha : (sl c).A = some a) {k : Nat} {v : Value} (hk : k < (contC sl st s c).length) (s' : VS)
    (e0 : contC sl st s' c = (contC sl st s c).set k v) (ec : ∀ c', c' < 14 → c' ≠ c → contC sl st s' c' = contC sl st s c') (em : mCells pf po sl ex s' = mCells pf po sl ex s) (e1 : s'.threads = s.threads) (e7 : s'.expect = s.expect) (e8 : s'.vars.length = 16) (e9 : s'.attrs.length = 4) (e10 : s'.signals.length = 8)
    {Q : Heap → Prop} (q : ∀ H', VMX G H' m pf po sl F ex st s' → Q H') :
    ∃ (cur : Array Value) (T : TypeId), H (a.add k).block = some (.cells cur T (0, 0)) ∧ (a.add k).spot = none ∧ (a.add k).off + [v].length ≤ cur.size ∧ ∀ H1, H1 = H.upd (a.add k).block (.cells (splice cur (a.add k).off [v]) T (0, 0)) → Q H1 := by
  have ok := h.ok c hc
  have hlen := ok.len
  rcases ok.at_ with ⟨a1, _⟩ | ⟨b, off, cur, T, a1, a2, a3, a4⟩
  · rw [a1] at ha; cases ha
  · rw [a1] at ha; cases ha
    have b0 : ((⟨b, off, none⟩ : Addr).add k).block = b := by unfold Addr.add; split <;> rfl
    have o0 : ((⟨b, off, none⟩ : Addr).add k).off = off + k := by unfold Addr.add; split <;> simp_all
    have s0 : ((⟨b, off, none⟩ : Addr).add k).spot = none := by unfold Addr.add; split <;> rfl
    rw [b0, o0, s0]
    have hcap : (sl c).n * szC c ≤ (sl c).c * szC c := Nat.mul_le_mul_right _ ok.cap
    have hsz : off + k + [v].length ≤ cur.size := by show off + k + 1 ≤ _; omega
    have hblk : (sl c).blk = some b := by unfold SlH.blk; rw [a1]; rfl
    have fr := h.free_own hc hblk
    refine ⟨cur, T, a2, rfl, hsz, fun H1 e => q H1 ?_⟩
    subst e
    refine ⟨h.gf, ⟨fun i o ho => ?_⟩, h.fm, by rw [Heap.upd_other (fun e => fr.m e.symm), em]; exact h.hm, h.own, h.inj, fun c' hc' => ?_, by rw [e1]; exact h.stl, by rw [e1]; exact h.stk, e8, e9, e10, ⟨fun q => h.exp.none_ (by rw [← e7]; exact q), fun l hl => ?_⟩⟩
    · rw [Heap.upd_other (fun e => by subst e; rw [fr.f] at ho; cases ho)]; exact h.fh.sub _ _ ho
    · by_cases hcc : c' = c
      · subst hcc
        rw [e0]
        refine ⟨by rw [List.length_set]; exact hlen, ok.cap, .inr ⟨b, off, _, T, a1, Heap.upd_same, by rw [splice_size hsz]; exact a3, fun j u hu => ?_⟩⟩
        rw [splice_get hsz]
        rw [List.getElem?_set] at hu
        by_cases hj : k = j
        · subst hj
          rw [if_pos rfl, if_pos hk] at hu
          rw [if_neg (by omega), if_pos (by show off + k < off + k + 1; omega)]
          have : off + k - (off + k) = 0 := by omega
          rw [this]; exact hu
        · rw [if_neg hj] at hu
          have := a4 j u hu
          by_cases hlt : off + j < off + k
          · rw [if_pos hlt]; exact this
          · rw [if_neg hlt, if_neg (by show ¬ off + j < off + k + 1; omega)]; exact this
      · rw [ec c' hc' hcc]
        exact (h.ok c' hc').mono fun b' hb' => Heap.upd_other fun e => by subst e; exact hcc (fr.sl c' hc' hb')
    · rw [e7] at hl
      obtain ⟨xb, A, n, c2, T2, q1, q2, q3, q4, q5, q6, q7⟩ := h.exp.some_ l hl
      exact ⟨xb, A, n, c2, T2, q1, by rw [Heap.upd_other (fr.x xb q1)]; exact q2, q3, q4, q5, q6, q7⟩
end
end Go.Proofs.Ytjmdoiakcakfoaa
set_option maxRecDepth 100000
set_option linter.unusedVariables false
namespace Go.Proofs.Ytjmdoiakcakfoaa
open Go.Ax
noncomputable def c28 : Cx := { P := Try.prog, res := [], pub := [], loops := [], quiet := [], asm := true }
def F28 (eId : Int) (eTime : Int) (eKind : Int) (eA : Int) (eB : Int) (eC : Int) (eD : Int) (eE : Int) (eF : Int) (H : Heap) (K : Value → Heap → Prop) : Prop :=
 ((eKind == (16 : Int)) = true → K (Value.bool (eA == (-4 : Int))) H) ∧ ((eKind == (16 : Int)) = false → K (Value.bool (eKind == (1 : Int) || decide (eKind ≥ (19 : Int)))) H)
theorem v28 {eId : Int} {eTime : Int} {eKind : Int} {eA : Int} {eB : Int} {eC : Int} {eD : Int} {eE : Int} {eF : Int} {H : Heap} {K : Value → Heap → Prop} (h : F28 eId eTime eKind eA eB eC eD eE eF H K) : Tr Try.prog 28 #[.agg #[.int .i64 eId, .int .i64 eTime, .int .i64 eKind, .int .i64 eA, .int .i64 eB, .int .i64 eC, .int .i64 eD, .int .i64 eE, .int .i64 eF]] H K :=
  tr_of_eq (C := c28) Try.func28 (show vcFn c28 Try.f28 [.agg #[.int .i64 eId, .int .i64 eTime, .int .i64 eKind, .int .i64 eA, .int .i64 eB, .int .i64 eC, .int .i64 eD, .int .i64 eE, .int .i64 eF]] H K = F28 eId eTime eKind eA eB eC eD eE eF H K by kernel_rfl) h
noncomputable def c29 : Cx := { P := Try.prog, res := [], pub := [], loops := [], quiet := [], asm := true }
def F29 (m : Option Addr) (i : Int) (v : Int) (status : Int) (H : Heap) (K : Value → Heap → Prop) : Prop :=
 ∃ (a : Addr),
 (decide (i ≥ (0 : Int)) = true → m = some a) ∧
 ∃ (A : Option Addr),
 ∃ (n : Nat),
 ∃ (c : Nat),
 (decide (i ≥ (0 : Int)) = true → At H ((a.add (nat_lit 2)).add (nat_lit 22)) [Value.slice A n c]) ∧
 ∃ (a1 : Addr),
 (decide (i ≥ (0 : Int)) = true → A = some a1 ∧ (0 : Int) ≤ i ∧ i < (↑n : Int)) ∧
 ∃ (b : Bool),
 (decide (i ≥ (0 : Int)) = true → At H ((a1.add (i.toNat * nat_lit 6)).add (nat_lit 3)) [Value.bool b]) ∧
 ((decide (i ≥ (0 : Int)) && !b) = true →
 ∃ (a2 : Addr),
 m = some a2 ∧
 ∃ (A1 : Option Addr),
 ∃ (n1 : Nat),
 ∃ (c1 : Nat),
 At H ((a2.add (nat_lit 2)).add (nat_lit 22)) [Value.slice A1 n1 c1] ∧
 ∃ (a3 : Addr),
 (A1 = some a3 ∧ (0 : Int) ≤ i ∧ i < (↑n1 : Int)) ∧
 ∃ (a4 : Addr),
 some (a3.add (i.toNat * nat_lit 6)) = some a4 ∧
 ∃ (c2 : Array Value),
 ∃ (T : TypeId),
 H (a4.add (nat_lit 3)).block = some (Obj.cells c2 T) ∧
 (a4.add (nat_lit 3)).spot = none ∧
 (a4.add (nat_lit 3)).off + [Value.bool true].length ≤ c2.size ∧
 ∀ (H1 : Heap),
 H1 = H.upd (a4.add (nat_lit 3)).block (Obj.cells (splice c2 (a4.add (nat_lit 3)).off [Value.bool true]) T) →
 ∃ (a5 : Addr),
 some (a3.add (i.toNat * nat_lit 6)) = some a5 ∧
 ∃ (c3 : Array Value),
 ∃ (T1 : TypeId),
 H1 (a5.add (nat_lit 4)).block = some (Obj.cells c3 T1) ∧
 (a5.add (nat_lit 4)).spot = none ∧
 (a5.add (nat_lit 4)).off + [Value.int IntKind.i64 v].length ≤ c3.size ∧
 ∀ (H11 : Heap),
 H11 = H1.upd (a5.add (nat_lit 4)).block (Obj.cells (splice c3 (a5.add (nat_lit 4)).off [Value.int IntKind.i64 v]) T1) →
 ∃ (a6 : Addr), some (a3.add (i.toNat * nat_lit 6)) = some a6 ∧ ∃ (c4 : Array Value), ∃ (T2 : TypeId), H11 (a6.add (nat_lit 5)).block = some (Obj.cells c4 T2) ∧ (a6.add (nat_lit 5)).spot = none ∧ (a6.add (nat_lit 5)).off + [Value.int IntKind.i64 status].length ≤ c4.size ∧ ∀ (H12 : Heap), H12 = H11.upd (a6.add (nat_lit 5)).block (Obj.cells (splice c4 (a6.add (nat_lit 5)).off [Value.int IntKind.i64 status]) T2) → K (Value.tuple #[]) H12) ∧
 ((decide (i ≥ (0 : Int)) && !b) = false → K (Value.tuple #[]) H)
theorem v29 {m : Option Addr} {i : Int} {v : Int} {status : Int} {H : Heap} {K : Value → Heap → Prop} (h : F29 m i v status H K) : Tr Try.prog 29 #[.pointer m, .int .i64 i, .int .i64 v, .int .i64 status] H K :=
  tr_of_eq (C := c29) Try.func29 (show vcFn c29 Try.f29 [.pointer m, .int .i64 i, .int .i64 v, .int .i64 status] H K = F29 m i v status H K by kernel_rfl) h
noncomputable def c30 : Cx := { P := Try.prog, res := [], pub := [], loops := [⟨2, [(13, .int .i64)], [4, 5, 6, 14, 15, 16, 17, 18, 19, 20, 21, 22, 23, 24, 25, 26, 27, 28], []⟩], quiet := [], asm := true }
def F30 (m : Option Addr) (id : Int) (H : Heap) (K : Value → Heap → Prop) : Prop :=
 ∃ (a : Addr),
 m = some a ∧
 ∃ (A : Option Addr),
 ∃ (n : Nat),
 ∃ (c : Nat),
 At H ((a.add (nat_lit 2)).add (nat_lit 22)) [Value.slice A n c] ∧
 ∃ (Rel : Int → Heap → Prop),
 ∃ (mu : Int → Heap → Nat),
 Rel (0 : Int) H ∧
 ∀ (x : Int) (H1 : Heap),
 Rel x H1 →
 (decide (x < (↑n : Int)) = true →
 ∃ (a1 : Addr), (A = some a1 ∧ (0 : Int) ≤ x ∧ x < (↑n : Int)) ∧ ∃ (x1 : Int), ∃ (x2 : Int), ∃ (x3 : Int), ∃ (b : Bool), ∃ (x4 : Int), ∃ (x5 : Int), At H1 (a1.add (x.toNat * nat_lit 6)) [Value.int IntKind.i64 x1, Value.int IntKind.i64 x2, Value.int IntKind.i64 x3, Value.bool b, Value.int IntKind.i64 x4, Value.int IntKind.i64 x5] ∧ ((x2 != (0 : Int) && x2 == id) = true → K (Value.int IntKind.i64 x) H1) ∧ ((x2 != (0 : Int) && x2 == id) = false → Rel (IntKind.i64.wrap (x + (1 : Int))) H1 ∧ mu (IntKind.i64.wrap (x + (1 : Int))) H1 < mu x H1)) ∧
 (decide (x < (↑n : Int)) = false → K (Value.int IntKind.i64 (-1 : Int)) H1)
theorem v30 {m : Option Addr} {id : Int} {H : Heap} {K : Value → Heap → Prop} (h : F30 m id H K) : Tr Try.prog 30 #[.pointer m, .int .i64 id] H K :=
  tr_of_eq (C := c30) Try.func30 (show vcFn c30 Try.f30 [.pointer m, .int .i64 id] H K = F30 m id H K by kernel_rfl) h
noncomputable def c50 : Cx := { P := Try.prog, res := [], pub := [], loops := [], quiet := [], asm := true }
def F50 (m : Option Addr) (tFunc : Int) (tAt : Int) (tScope : Int) (tStackA : Option Addr) (tStackn tStackc : Nat) (tArg : Int) (tFuture : Int) (tUpdate : Int) (tWaits : Int) (tSignal : Int) (H : Heap) (K : Value → Heap → Prop) : Prop :=
 (decide (tWaits ≥ (0 : Int)) = true → ∃ (a : Addr), m = some a ∧ ∃ (A : Option Addr), ∃ (n : Nat), ∃ (c : Nat), At H ((a.add (nat_lit 2)).add (nat_lit 22)) [Value.slice A n c] ∧ ∃ (a1 : Addr), (A = some a1 ∧ (0 : Int) ≤ tWaits ∧ tWaits < (↑n : Int)) ∧ ∃ (b : Bool), At H ((a1.add (tWaits.toNat * nat_lit 6)).add (nat_lit 3)) [Value.bool b] ∧ K (Value.bool b) H) ∧
 (decide (tWaits ≥ (0 : Int)) = false → (decide (tSignal ≥ (0 : Int)) = true → ∃ (a2 : Addr), m = some a2 ∧ ∃ (A1 : Option Addr), ∃ (n1 : Nat), ∃ (c1 : Nat), At H ((a2.add (nat_lit 2)).add (nat_lit 24)) [Value.slice A1 n1 c1] ∧ ∃ (a3 : Addr), (A1 = some a3 ∧ (0 : Int) ≤ tSignal ∧ tSignal < (↑n1 : Int)) ∧ ∃ (A2 : Option Addr), ∃ (n2 : Nat), ∃ (c2 : Nat), At H (a3.add (tSignal.toNat * nat_lit 1)) [Value.slice A2 n2 c2] ∧ K (Value.bool (decide ((↑n2 : Int) > (0 : Int)))) H) ∧ (decide (tSignal ≥ (0 : Int)) = false → K (Value.bool true) H))
theorem v50 {m : Option Addr} {tFunc : Int} {tAt : Int} {tScope : Int} {tStackA : Option Addr} {tStackn tStackc : Nat} {tArg : Int} {tFuture : Int} {tUpdate : Int} {tWaits : Int} {tSignal : Int} {H : Heap} {K : Value → Heap → Prop} (h : F50 m tFunc tAt tScope tStackA tStackn tStackc tArg tFuture tUpdate tWaits tSignal H K) : Tr Try.prog 50 #[.pointer m, .agg #[.int .i64 tFunc, .int .i64 tAt, .int .i64 tScope, .slice tStackA tStackn tStackc, .int .i64 tArg, .int .i64 tFuture, .int .i64 tUpdate, .int .i64 tWaits, .int .i64 tSignal]] H K :=
  tr_of_eq (C := c50) Try.func50 (show vcFn c50 Try.f50 [.pointer m, .agg #[.int .i64 tFunc, .int .i64 tAt, .int .i64 tScope, .slice tStackA tStackn tStackc, .int .i64 tArg, .int .i64 tFuture, .int .i64 tUpdate, .int .i64 tWaits, .int .i64 tSignal]] H K = F50 m tFunc tAt tScope tStackA tStackn tStackc tArg tFuture tUpdate tWaits tSignal H K by kernel_rfl) h
noncomputable def c52 : Cx := { P := Try.prog, res := [], pub := [], loops := [], quiet := [], draws := [⟨6, [], [], false, true⟩], asm := true }
def F52 (r : Option Addr) (H : Heap) (K : Value → Heap → Prop) : Prop :=
 ∃ (a : Addr),
 r = some a ∧
 ∃ (v : Option Addr),
 At H (a.add (nat_lit 1)) [Value.pointer v] ∧
 ∃ (a1 : Addr),
 v = some a1 ∧
 ∃ (A : Option Addr),
 ∃ (n : Nat),
 ∃ (c : Nat),
 At H (a1.add (nat_lit 3)) [Value.slice A n c] ∧
 (((↑n : Int) == (0 : Int)) = true → ∃ (a2 : Addr), r = some a2 ∧ ∃ (c1 : Array Value), ∃ (T : TypeId), H (a2.add (nat_lit 2)).block = some (Obj.cells c1 T) ∧ (a2.add (nat_lit 2)).spot = none ∧ (a2.add (nat_lit 2)).off + [Value.bool true].length ≤ c1.size ∧ ∀ (H1 : Heap), H1 = H.upd (a2.add (nat_lit 2)).block (Obj.cells (splice c1 (a2.add (nat_lit 2)).off [Value.bool true]) T) → K (Value.int IntKind.i64 (0 : Int)) H1) ∧
 (((↑n : Int) == (0 : Int)) = false →
 ∃ (a3 : Addr),
 r = some a3 ∧
 ∃ (v1 : Option Addr),
 At H (a3.add (nat_lit 1)) [Value.pointer v1] ∧
 ∃ (a4 : Addr),
 v1 = some a4 ∧
 ∃ (A1 : Option Addr),
 ∃ (n1 : Nat),
 ∃ (c2 : Nat),
 At H (a4.add (nat_lit 3)) [Value.slice A1 n1 c2] ∧
 ∃ (a5 : Addr),
 (A1 = some a5 ∧ (0 : Int) ≤ IntKind.i64.wrap ((↑n : Int) - (1 : Int)) ∧ IntKind.i64.wrap ((↑n : Int) - (1 : Int)) < (↑n1 : Int)) ∧
 ∃ (x : Int),
 At H (a5.add ((IntKind.i64.wrap ((↑n : Int) - (1 : Int))).toNat * nat_lit 1)) [Value.int IntKind.i64 x] ∧
 ∃ (a6 : Addr),
 r = some a6 ∧
 ∃ (a7 : Addr),
 r = some a7 ∧
 (∃ (v2 : Option Addr),
 At H (a6.add (nat_lit 1)) [Value.pointer v2] ∧
 ∃ (v3 : Option Addr),
 At H (a7.add (nat_lit 1)) [Value.pointer v3] ∧
 ∃ (a8 : Addr),
 v3 = some a8 ∧
 ∃ (A2 : Option Addr),
 ∃ (n2 : Nat),
 ∃ (c3 : Nat),
 At H (a8.add (nat_lit 3)) [Value.slice A2 n2 c3] ∧
 ((0 : Int) ≤ IntKind.i64.wrap ((↑n : Int) - (1 : Int)) ∧ IntKind.i64.wrap ((↑n : Int) - (1 : Int)) ≤ (↑c3 : Int)) ∧
 ∃ (a9 : Addr),
 v2 = some a9 ∧
 ∃ (c4 : Array Value),
 ∃ (T1 : TypeId),
 H (a9.add (nat_lit 3)).block = some (Obj.cells c4 T1) ∧
 (a9.add (nat_lit 3)).spot = none ∧
 (a9.add (nat_lit 3)).off + [Value.slice (if c3 = (0 : Nat) then A2 else Option.map (fun (x : Addr) => x.add ((0 : Nat) * nat_lit 1)) A2) ((IntKind.i64.wrap ((↑n : Int) - (1 : Int))).toNat - (0 : Nat)) (c3 - (0 : Nat))].length ≤ c4.size ∧
 ∀ (H11 : Heap), H11 = H.upd (a9.add (nat_lit 3)).block (Obj.cells (splice c4 (a9.add (nat_lit 3)).off [Value.slice (if c3 = (0 : Nat) then A2 else Option.map (fun (x : Addr) => x.add ((0 : Nat) * nat_lit 1)) A2) ((IntKind.i64.wrap ((↑n : Int) - (1 : Int))).toNat - (0 : Nat)) (c3 - (0 : Nat))]) T1) → K (Value.int IntKind.i64 x) H11) ∧
 ∃ (v4 : Option Addr),
 At H (a7.add (nat_lit 1)) [Value.pointer v4] ∧
 ∃ (a10 : Addr),
 v4 = some a10 ∧
 (∃ (v5 : Option Addr),
 At H (a6.add (nat_lit 1)) [Value.pointer v5] ∧
 ∃ (A3 : Option Addr),
 ∃ (n3 : Nat),
 ∃ (c5 : Nat),
 At H (a10.add (nat_lit 3)) [Value.slice A3 n3 c5] ∧
 ((0 : Int) ≤ IntKind.i64.wrap ((↑n : Int) - (1 : Int)) ∧ IntKind.i64.wrap ((↑n : Int) - (1 : Int)) ≤ (↑c5 : Int)) ∧
 ∃ (a11 : Addr),
 v5 = some a11 ∧
 ∃ (c6 : Array Value),
 ∃ (T2 : TypeId),
 H (a11.add (nat_lit 3)).block = some (Obj.cells c6 T2) ∧
 (a11.add (nat_lit 3)).spot = none ∧
 (a11.add (nat_lit 3)).off + [Value.slice (if c5 = (0 : Nat) then A3 else Option.map (fun (x : Addr) => x.add ((0 : Nat) * nat_lit 1)) A3) ((IntKind.i64.wrap ((↑n : Int) - (1 : Int))).toNat - (0 : Nat)) (c5 - (0 : Nat))].length ≤ c6.size ∧
 ∀ (H12 : Heap), H12 = H.upd (a11.add (nat_lit 3)).block (Obj.cells (splice c6 (a11.add (nat_lit 3)).off [Value.slice (if c5 = (0 : Nat) then A3 else Option.map (fun (x : Addr) => x.add ((0 : Nat) * nat_lit 1)) A3) ((IntKind.i64.wrap ((↑n : Int) - (1 : Int))).toNat - (0 : Nat)) (c5 - (0 : Nat))]) T2) → K (Value.int IntKind.i64 x) H12) ∧
 ∃ (A4 : Option Addr),
 ∃ (n4 : Nat),
 ∃ (c7 : Nat),
 At H (a10.add (nat_lit 3)) [Value.slice A4 n4 c7] ∧
 ((0 : Int) ≤ IntKind.i64.wrap ((↑n : Int) - (1 : Int)) ∧ IntKind.i64.wrap ((↑n : Int) - (1 : Int)) ≤ (↑c7 : Int)) ∧
 ∃ (v6 : Option Addr),
 At H (a6.add (nat_lit 1)) [Value.pointer v6] ∧
 ∃ (a12 : Addr),
 v6 = some a12 ∧
 ∃ (c8 : Array Value),
 ∃ (T3 : TypeId),
 H (a12.add (nat_lit 3)).block = some (Obj.cells c8 T3) ∧
 (a12.add (nat_lit 3)).spot = none ∧
 (a12.add (nat_lit 3)).off + [Value.slice (if c7 = (0 : Nat) then A4 else Option.map (fun (x : Addr) => x.add ((0 : Nat) * nat_lit 1)) A4) ((IntKind.i64.wrap ((↑n : Int) - (1 : Int))).toNat - (0 : Nat)) (c7 - (0 : Nat))].length ≤ c8.size ∧
 ∀ (H13 : Heap), H13 = H.upd (a12.add (nat_lit 3)).block (Obj.cells (splice c8 (a12.add (nat_lit 3)).off [Value.slice (if c7 = (0 : Nat) then A4 else Option.map (fun (x : Addr) => x.add ((0 : Nat) * nat_lit 1)) A4) ((IntKind.i64.wrap ((↑n : Int) - (1 : Int))).toNat - (0 : Nat)) (c7 - (0 : Nat))]) T3) → K (Value.int IntKind.i64 x) H13)
theorem v52 {r : Option Addr} {H : Heap} {K : Value → Heap → Prop} (h : F52 r H K) : Tr Try.prog 52 #[.pointer r] H K :=
  tr_of_eq (C := c52) Try.func52 (show vcFn c52 Try.f52 [.pointer r] H K = F52 r H K by kernel_rfl) h
noncomputable def c68 : Cx := { P := Try.prog, res := [], pub := [], loops := [⟨1, [(1, .int .i64)], [4, 5, 6, 7, 8, 9, 10, 11, 12, 13, 14, 15, 16, 17, 18, 19, 20, 21, 22, 23, 24], []⟩], quiet := [], asm := true }
def F68 (m : Option Addr) (s : Int) (H : Heap) (K : Value → Heap → Prop) : Prop :=
 ∃ (Rel : Int → Heap → Prop),
 ∃ (mu : Int → Heap → Nat),
 Rel s H ∧
 ∀ (x : Int) (H1 : Heap),
 Rel x H1 →
 (decide (x ≥ (0 : Int)) = true →
 ∃ (a : Addr),
 m = some a ∧
 ∃ (A : Option Addr),
 ∃ (n : Nat),
 ∃ (c : Nat),
 At H1 ((a.add (nat_lit 2)).add (nat_lit 23)) [Value.slice A n c] ∧
 ∃ (a1 : Addr), (A = some a1 ∧ (0 : Int) ≤ x ∧ x < (↑n : Int)) ∧ ∃ (b : Bool), At H1 ((a1.add (x.toNat * nat_lit 2)).add (nat_lit 1)) [Value.bool b] ∧ (b = true → K (Value.bool true) H1) ∧ (b = false → ∃ (a2 : Addr), m = some a2 ∧ ∃ (A1 : Option Addr), ∃ (n1 : Nat), ∃ (c1 : Nat), At H1 ((a2.add (nat_lit 2)).add (nat_lit 23)) [Value.slice A1 n1 c1] ∧ ∃ (a3 : Addr), (A1 = some a3 ∧ (0 : Int) ≤ x ∧ x < (↑n1 : Int)) ∧ ∃ (x1 : Int), At H1 ((a3.add (x.toNat * nat_lit 2)).add (nat_lit 0)) [Value.int IntKind.i64 x1] ∧ Rel x1 H1 ∧ mu x1 H1 < mu x H1)) ∧
 (decide (x ≥ (0 : Int)) = false → K (Value.bool false) H1)
theorem v68 {m : Option Addr} {s : Int} {H : Heap} {K : Value → Heap → Prop} (h : F68 m s H K) : Tr Try.prog 68 #[.pointer m, .int .i64 s] H K :=
  tr_of_eq (C := c68) Try.func68 (show vcFn c68 Try.f68 [.pointer m, .int .i64 s] H K = F68 m s H K by kernel_rfl) h
noncomputable def c69 : Cx := { P := Try.prog, res := [], pub := [], loops := [], quiet := [59, 79], draws := [⟨1, [3, 9], [0], true, true⟩, ⟨12, [5], [], false, true⟩], asm := true, dyn := [40] }
def F69 (m : Option Addr) (eId : Int) (eTime : Int) (eKind : Int) (eA : Int) (eB : Int) (eC : Int) (eD : Int) (eE : Int) (eF : Int) (H : Heap) (K : Value → Heap → Prop) : Prop :=
 ∃ (Hs : Heap),
 Ax.Sub Hs H ∧
 ∃ (a : Addr),
 m = some a ∧
 ∃ (a1 : Addr),
 m = some a1 ∧
 ∃ (x : Int),
 At Hs (a.add (nat_lit 30)) [Value.int IntKind.i64 x] ∧
 ∃ (x1 : Int),
 At Hs ((a1.add (nat_lit 2)).add (nat_lit 20)) [Value.int IntKind.i64 x1] ∧
 Ax.Sub Hs H ∧
 Ax.Sub Hs H ∧
 ∃ (b : Bool),
 ((IntKind.i64.wrap (x + (1 : Int)) == (256 : Int)) = true → Tr Try.prog (59 : Nat) #[Value.int IntKind.i64 eKind] H fun (v : Value) (H' : Heap) => v = Value.bool b ∧ Ax.Sub H H') ∧
 ((IntKind.i64.wrap (x + (1 : Int)) == (256 : Int) && !b) = true → Tr Try.prog (70 : Nat) #[Value.pointer m, Value.int IntKind.i64 (-4 : Int)] H fun (v1 : Value) (H'1 : Heap) => v1 = Value.tuple #[] ∧ K (Value.tuple #[Value.int IntKind.i64 (0 : Int), Value.bool false]) H'1) ∧
 ((IntKind.i64.wrap (x + (1 : Int)) == (256 : Int) && !b) = false →
 ∃ (a2 : Addr),
 m = some a2 ∧
 ∃ (v2 : Value),
 At H (a2.add (nat_lit 34)) [v2] ∧
 ∃ (b1 : Bool),
 fnNil v2 b1 ∧
 ((!b1) = true →
 ∃ (a3 : Addr),
 m = some a3 ∧
 ∃ (v3 : Value),
 At H (a3.add (nat_lit 34)) [v3] ∧
 ∃ (g : Nat),
 ∃ (all : List Value),
 isFn Try.prog v3 [] g all ∧
 Tr Try.prog g { toList := all } H fun (v4 : Value) (H'2 : Heap) =>
 ∃ (x2 : Int),
 ∃ (x3 : Int),
 ∃ (x4 : Int),
 ∃ (x5 : Int),
 ∃ (x6 : Int),
 ∃ (x7 : Int),
 ∃ (x8 : Int),
 ∃ (x9 : Int),
 ∃ (x10 : Int),
 ∃ (b2 : Bool),
 v4 = Value.tuple #[Value.agg #[Value.int IntKind.i64 x2, Value.int IntKind.i64 x3, Value.int IntKind.i64 x4, Value.int IntKind.i64 x5, Value.int IntKind.i64 x6, Value.int IntKind.i64 x7, Value.int IntKind.i64 x8, Value.int IntKind.i64 x9, Value.int IntKind.i64 x10], Value.bool b2] ∧
 ∃ (b3 : Bool),
 ((!!b2) = true →
 Tr Try.prog (79 : Nat)
 #[Value.agg #[Value.int IntKind.i64 (IntKind.i64.wrap (x + (1 : Int))), Value.int IntKind.i64 x1, Value.int IntKind.i64 eKind, Value.int IntKind.i64 eA, Value.int IntKind.i64 eB, Value.int IntKind.i64 eC, Value.int IntKind.i64 eD, Value.int IntKind.i64 eE, Value.int IntKind.i64 eF],
 Value.agg #[Value.int IntKind.i64 x2, Value.int IntKind.i64 x3, Value.int IntKind.i64 x4, Value.int IntKind.i64 x5, Value.int IntKind.i64 x6, Value.int IntKind.i64 x7, Value.int IntKind.i64 x8, Value.int IntKind.i64 x9, Value.int IntKind.i64 x10]]
 H'2 fun (v5 : Value) (H'3 : Heap) => v5 = Value.bool b3 ∧ Ax.Sub H'2 H'3) ∧
 ((!b2 || !b3) = true →
 ∃ (a4 : Addr),
 m = some a4 ∧
 ∃ (c : Array Value),
 ∃ (T : TypeId),
 H'2 (a4.add (nat_lit 35)).block = some (Obj.cells c T) ∧
 (a4.add (nat_lit 35)).spot = none ∧
 (a4.add (nat_lit 35)).off + [Value.bool true].length ≤ c.size ∧
 ∀ (H1 : Heap),
 H1 = H'2.upd (a4.add (nat_lit 35)).block (Obj.cells (splice c (a4.add (nat_lit 35)).off [Value.bool true]) T) →
 ∃ (a5 : Addr),
 m = some a5 ∧
 ∃ (c1 : Array Value),
 ∃ (T1 : TypeId), H1 ((a5.add (nat_lit 2)).add (nat_lit 25)).block = some (Obj.cells c1 T1) ∧ ((a5.add (nat_lit 2)).add (nat_lit 25)).spot = none ∧ ((a5.add (nat_lit 2)).add (nat_lit 25)).off + [Value.bool true].length ≤ c1.size ∧ ∀ (H11 : Heap), H11 = H1.upd ((a5.add (nat_lit 2)).add (nat_lit 25)).block (Obj.cells (splice c1 ((a5.add (nat_lit 2)).add (nat_lit 25)).off [Value.bool true]) T1) → K (Value.tuple #[Value.int IntKind.i64 (0 : Int), Value.bool false]) H11) ∧
 ((!b2 || !b3) = false →
 ∃ (a6 : Addr),
 m = some a6 ∧
 ∃ (x11 : Int),
 At H'2 (a6.add (nat_lit 30)) [Value.int IntKind.i64 x11] ∧
 ∃ (a7 : Addr),
 m = some a7 ∧
 ∃ (c2 : Array Value),
 ∃ (T2 : TypeId),
 H'2 (a7.add (nat_lit 30)).block = some (Obj.cells c2 T2) ∧
 (a7.add (nat_lit 30)).spot = none ∧
 (a7.add (nat_lit 30)).off + [Value.int IntKind.i64 (IntKind.i64.wrap (x11 + (1 : Int)))].length ≤ c2.size ∧
 ∀ (H12 : Heap),
 H12 = H'2.upd (a7.add (nat_lit 30)).block (Obj.cells (splice c2 (a7.add (nat_lit 30)).off [Value.int IntKind.i64 (IntKind.i64.wrap (x11 + (1 : Int)))]) T2) →
 ∃ (a8 : Addr),
 m = some a8 ∧
 (∃ (A : Option Addr),
 ∃ (n : Nat),
 ∃ (c3 : Nat),
 At H12 (a8.add (nat_lit 32)) [Value.slice A n c3] ∧
 appC (23 : Nat) (nat_lit 9) (nat_lit 72) H12 A n c3 [Value.int IntKind.i64 x2, Value.int IntKind.i64 x3, Value.int IntKind.i64 x4, Value.int IntKind.i64 x5, Value.int IntKind.i64 x6, Value.int IntKind.i64 x7, Value.int IntKind.i64 x8, Value.int IntKind.i64 x9, Value.int IntKind.i64 x10] (1 : Nat) fun (A' : Option Addr) (n' c' : Nat) (H'4 : Heap) =>
 ∃ (a9 : Addr),
 m = some a9 ∧
 ∃ (c4 : Array Value),
 ∃ (T3 : TypeId),
 H'4 (a9.add (nat_lit 32)).block = some (Obj.cells c4 T3) ∧
 (a9.add (nat_lit 32)).spot = none ∧
 (a9.add (nat_lit 32)).off + [Value.slice A' n' c'].length ≤ c4.size ∧
 ∀ (H13 : Heap),
 H13 = H'4.upd (a9.add (nat_lit 32)).block (Obj.cells (splice c4 (a9.add (nat_lit 32)).off [Value.slice A' n' c']) T3) →
 ∃ (b4 : Bool),
 (Tr Try.prog (59 : Nat) #[Value.int IntKind.i64 x4] H13 fun (v6 : Value) (H'5 : Heap) => v6 = Value.bool b4 ∧ Ax.Sub H13 H'5) ∧
 (b4 = true →
 ∃ (a10 : Addr),
 m = some a10 ∧
 ∃ (c5 : Array Value),
 ∃ (T4 : TypeId),
 H13 ((a10.add (nat_lit 2)).add (nat_lit 25)).block = some (Obj.cells c5 T4) ∧
 ((a10.add (nat_lit 2)).add (nat_lit 25)).spot = none ∧ ((a10.add (nat_lit 2)).add (nat_lit 25)).off + [Value.bool true].length ≤ c5.size ∧ ∀ (H14 : Heap), H14 = H13.upd ((a10.add (nat_lit 2)).add (nat_lit 25)).block (Obj.cells (splice c5 ((a10.add (nat_lit 2)).add (nat_lit 25)).off [Value.bool true]) T4) → K (Value.tuple #[Value.int IntKind.i64 x2, Value.bool true]) H14) ∧
 (b4 = false → K (Value.tuple #[Value.int IntKind.i64 x2, Value.bool true]) H13)) ∧
 ∃ (A1 : Option Addr),
 ∃ (n1 : Nat),
 ∃ (c6 : Nat),
 At H12 (a8.add (nat_lit 32)) [Value.slice A1 n1 c6] ∧
 appC (23 : Nat) (nat_lit 9) (nat_lit 72) H12 A1 n1 c6 [Value.int IntKind.i64 x2, Value.int IntKind.i64 x3, Value.int IntKind.i64 x4, Value.int IntKind.i64 x5, Value.int IntKind.i64 x6, Value.int IntKind.i64 x7, Value.int IntKind.i64 x8, Value.int IntKind.i64 x9, Value.int IntKind.i64 x10] (1 : Nat) fun (A'1 : Option Addr) (n'1 c'1 : Nat) (H'6 : Heap) =>
 ∃ (a11 : Addr),
 m = some a11 ∧
 ∃ (c7 : Array Value),
 ∃ (T5 : TypeId),
 H'6 (a11.add (nat_lit 32)).block = some (Obj.cells c7 T5) ∧
 (a11.add (nat_lit 32)).spot = none ∧
 (a11.add (nat_lit 32)).off + [Value.slice A'1 n'1 c'1].length ≤ c7.size ∧
 ∀ (H15 : Heap),
 H15 = H'6.upd (a11.add (nat_lit 32)).block (Obj.cells (splice c7 (a11.add (nat_lit 32)).off [Value.slice A'1 n'1 c'1]) T5) →
 ∃ (b5 : Bool),
 (Tr Try.prog (59 : Nat) #[Value.int IntKind.i64 x4] H15 fun (v7 : Value) (H'7 : Heap) => v7 = Value.bool b5 ∧ Ax.Sub H15 H'7) ∧
 (b5 = true →
 ∃ (a12 : Addr),
 m = some a12 ∧
 ∃ (c8 : Array Value),
 ∃ (T6 : TypeId),
 H15 ((a12.add (nat_lit 2)).add (nat_lit 25)).block = some (Obj.cells c8 T6) ∧
 ((a12.add (nat_lit 2)).add (nat_lit 25)).spot = none ∧ ((a12.add (nat_lit 2)).add (nat_lit 25)).off + [Value.bool true].length ≤ c8.size ∧ ∀ (H16 : Heap), H16 = H15.upd ((a12.add (nat_lit 2)).add (nat_lit 25)).block (Obj.cells (splice c8 ((a12.add (nat_lit 2)).add (nat_lit 25)).off [Value.bool true]) T6) → K (Value.tuple #[Value.int IntKind.i64 x2, Value.bool true]) H16) ∧
 (b5 = false → K (Value.tuple #[Value.int IntKind.i64 x2, Value.bool true]) H15))) ∧
 ((!b1) = false →
 ∃ (a13 : Addr),
 m = some a13 ∧
 ∃ (x12 : Int),
 At H (a13.add (nat_lit 30)) [Value.int IntKind.i64 x12] ∧
 ∃ (a14 : Addr),
 m = some a14 ∧
 ∃ (c9 : Array Value),
 ∃ (T7 : TypeId),
 H (a14.add (nat_lit 30)).block = some (Obj.cells c9 T7) ∧
 (a14.add (nat_lit 30)).spot = none ∧
 (a14.add (nat_lit 30)).off + [Value.int IntKind.i64 (IntKind.i64.wrap (x12 + (1 : Int)))].length ≤ c9.size ∧
 ∀ (H17 : Heap),
 H17 = H.upd (a14.add (nat_lit 30)).block (Obj.cells (splice c9 (a14.add (nat_lit 30)).off [Value.int IntKind.i64 (IntKind.i64.wrap (x12 + (1 : Int)))]) T7) →
 ∃ (a15 : Addr),
 m = some a15 ∧
 (∃ (A2 : Option Addr),
 ∃ (n2 : Nat),
 ∃ (c10 : Nat),
 At H17 (a15.add (nat_lit 32)) [Value.slice A2 n2 c10] ∧
 appC (23 : Nat) (nat_lit 9) (nat_lit 72) H17 A2 n2 c10 [Value.int IntKind.i64 (IntKind.i64.wrap (x + (1 : Int))), Value.int IntKind.i64 x1, Value.int IntKind.i64 eKind, Value.int IntKind.i64 eA, Value.int IntKind.i64 eB, Value.int IntKind.i64 eC, Value.int IntKind.i64 eD, Value.int IntKind.i64 eE, Value.int IntKind.i64 eF] (1 : Nat) fun (A'2 : Option Addr) (n'2 c'2 : Nat) (H'8 : Heap) =>
 ∃ (a16 : Addr),
 m = some a16 ∧
 ∃ (c11 : Array Value),
 ∃ (T8 : TypeId),
 H'8 (a16.add (nat_lit 32)).block = some (Obj.cells c11 T8) ∧
 (a16.add (nat_lit 32)).spot = none ∧
 (a16.add (nat_lit 32)).off + [Value.slice A'2 n'2 c'2].length ≤ c11.size ∧
 ∀ (H18 : Heap),
 H18 = H'8.upd (a16.add (nat_lit 32)).block (Obj.cells (splice c11 (a16.add (nat_lit 32)).off [Value.slice A'2 n'2 c'2]) T8) →
 ∃ (b6 : Bool),
 (Tr Try.prog (59 : Nat) #[Value.int IntKind.i64 eKind] H18 fun (v8 : Value) (H'9 : Heap) => v8 = Value.bool b6 ∧ Ax.Sub H18 H'9) ∧
 (b6 = true →
 ∃ (a17 : Addr),
 m = some a17 ∧
 ∃ (c12 : Array Value),
 ∃ (T9 : TypeId),
 H18 ((a17.add (nat_lit 2)).add (nat_lit 25)).block = some (Obj.cells c12 T9) ∧
 ((a17.add (nat_lit 2)).add (nat_lit 25)).spot = none ∧ ((a17.add (nat_lit 2)).add (nat_lit 25)).off + [Value.bool true].length ≤ c12.size ∧ ∀ (H19 : Heap), H19 = H18.upd ((a17.add (nat_lit 2)).add (nat_lit 25)).block (Obj.cells (splice c12 ((a17.add (nat_lit 2)).add (nat_lit 25)).off [Value.bool true]) T9) → K (Value.tuple #[Value.int IntKind.i64 (IntKind.i64.wrap (x + (1 : Int))), Value.bool true]) H19) ∧
 (b6 = false → K (Value.tuple #[Value.int IntKind.i64 (IntKind.i64.wrap (x + (1 : Int))), Value.bool true]) H18)) ∧
 ∃ (A3 : Option Addr),
 ∃ (n3 : Nat),
 ∃ (c13 : Nat),
 At H17 (a15.add (nat_lit 32)) [Value.slice A3 n3 c13] ∧
 appC (23 : Nat) (nat_lit 9) (nat_lit 72) H17 A3 n3 c13 [Value.int IntKind.i64 (IntKind.i64.wrap (x + (1 : Int))), Value.int IntKind.i64 x1, Value.int IntKind.i64 eKind, Value.int IntKind.i64 eA, Value.int IntKind.i64 eB, Value.int IntKind.i64 eC, Value.int IntKind.i64 eD, Value.int IntKind.i64 eE, Value.int IntKind.i64 eF] (1 : Nat) fun (A'3 : Option Addr) (n'3 c'3 : Nat) (H'10 : Heap) =>
 ∃ (a18 : Addr),
 m = some a18 ∧
 ∃ (c14 : Array Value),
 ∃ (T10 : TypeId),
 H'10 (a18.add (nat_lit 32)).block = some (Obj.cells c14 T10) ∧
 (a18.add (nat_lit 32)).spot = none ∧
 (a18.add (nat_lit 32)).off + [Value.slice A'3 n'3 c'3].length ≤ c14.size ∧
 ∀ (H110 : Heap),
 H110 = H'10.upd (a18.add (nat_lit 32)).block (Obj.cells (splice c14 (a18.add (nat_lit 32)).off [Value.slice A'3 n'3 c'3]) T10) →
 ∃ (b7 : Bool),
 (Tr Try.prog (59 : Nat) #[Value.int IntKind.i64 eKind] H110 fun (v9 : Value) (H'11 : Heap) => v9 = Value.bool b7 ∧ Ax.Sub H110 H'11) ∧
 (b7 = true →
 ∃ (a19 : Addr),
 m = some a19 ∧
 ∃ (c15 : Array Value),
 ∃ (T11 : TypeId),
 H110 ((a19.add (nat_lit 2)).add (nat_lit 25)).block = some (Obj.cells c15 T11) ∧
 ((a19.add (nat_lit 2)).add (nat_lit 25)).spot = none ∧ ((a19.add (nat_lit 2)).add (nat_lit 25)).off + [Value.bool true].length ≤ c15.size ∧ ∀ (H111 : Heap), H111 = H110.upd ((a19.add (nat_lit 2)).add (nat_lit 25)).block (Obj.cells (splice c15 ((a19.add (nat_lit 2)).add (nat_lit 25)).off [Value.bool true]) T11) → K (Value.tuple #[Value.int IntKind.i64 (IntKind.i64.wrap (x + (1 : Int))), Value.bool true]) H111) ∧
 (b7 = false → K (Value.tuple #[Value.int IntKind.i64 (IntKind.i64.wrap (x + (1 : Int))), Value.bool true]) H110)))
theorem v69 {m : Option Addr} {eId : Int} {eTime : Int} {eKind : Int} {eA : Int} {eB : Int} {eC : Int} {eD : Int} {eE : Int} {eF : Int} {H : Heap} {K : Value → Heap → Prop} (h : F69 m eId eTime eKind eA eB eC eD eE eF H K) : Tr Try.prog 69 #[.pointer m, .agg #[.int .i64 eId, .int .i64 eTime, .int .i64 eKind, .int .i64 eA, .int .i64 eB, .int .i64 eC, .int .i64 eD, .int .i64 eE, .int .i64 eF]] H K :=
  tr_of_eq (C := c69) Try.func69 (show vcFn c69 Try.f69 [.pointer m, .agg #[.int .i64 eId, .int .i64 eTime, .int .i64 eKind, .int .i64 eA, .int .i64 eB, .int .i64 eC, .int .i64 eD, .int .i64 eE, .int .i64 eF]] H K = F69 m eId eTime eKind eA eB eC eD eE eF H K by kernel_rfl) h
noncomputable def c70 : Cx := { P := Try.prog, res := [], pub := [], loops := [], quiet := [], asm := true }
def F70 (m : Option Addr) (c : Int) (H : Heap) (K : Value → Heap → Prop) : Prop :=
 Tr Try.prog (69 : Nat) #[Value.pointer m, Value.agg #[Value.int IntKind.i64 (0 : Int), Value.int IntKind.i64 (0 : Int), Value.int IntKind.i64 (16 : Int), Value.int IntKind.i64 c, Value.int IntKind.i64 (0 : Int), Value.int IntKind.i64 (0 : Int), Value.int IntKind.i64 (0 : Int), Value.int IntKind.i64 (0 : Int), Value.int IntKind.i64 (0 : Int)]] H fun (v : Value) (H' : Heap) => ∃ (x : Int), ∃ (b : Bool), v = Value.tuple #[Value.int IntKind.i64 x, Value.bool b] ∧ K (Value.tuple #[]) H'
theorem v70 {m : Option Addr} {c : Int} {H : Heap} {K : Value → Heap → Prop} (h : F70 m c H K) : Tr Try.prog 70 #[.pointer m, .int .i64 c] H K :=
  tr_of_eq (C := c70) Try.func70 (show vcFn c70 Try.f70 [.pointer m, .int .i64 c] H K = F70 m c H K by kernel_rfl) h
noncomputable def c72 : Cx := { P := Try.prog, res := [], pub := [], loops := [], quiet := [], draws := [⟨0, [3], [], true, true⟩], asm := true }
def F72 (r : Option Addr) (lA : Option Addr) (ln lc : Nat) (H : Heap) (K : Value → Heap → Prop) : Prop :=
 ∃ (Hs : Heap),
 Ax.Sub Hs H ∧
 ∃ (a : Addr),
 r = some a ∧
 ∃ (a1 : Addr),
 r = some a1 ∧
 ∃ (v : Option Addr),
 At Hs (a.add (nat_lit 1)) [Value.pointer v] ∧
 ∃ (v1 : Option Addr),
 At H (a1.add (nat_lit 1)) [Value.pointer v1] ∧
 Ax.Sub Hs H ∧
 ∃ (a2 : Addr),
 v1 = some a2 ∧
 ∃ (A : Option Addr),
 ∃ (n : Nat),
 ∃ (c : Nat),
 At H (a2.add (nat_lit 3)) [Value.slice A n c] ∧
 Ax.Sub Hs H ∧
 appS (2 : Nat) (nat_lit 1) (nat_lit 8) H A n c lA ln fun (A' : Option Addr) (n' c' : Nat) (H' : Heap) =>
 Ax.Sub Hs H' ∧
 ∃ (a3 : Addr),
 v = some a3 ∧
 ∃ (c1 : Array Value),
 ∃ (T : TypeId),
 H' (a3.add (nat_lit 3)).block = some (Obj.cells c1 T) ∧
 (a3.add (nat_lit 3)).spot = none ∧
 (a3.add (nat_lit 3)).off + [Value.slice A' n' c'].length ≤ c1.size ∧
 ∀ (H1 : Heap),
 H1 = H'.upd (a3.add (nat_lit 3)).block (Obj.cells (splice c1 (a3.add (nat_lit 3)).off [Value.slice A' n' c']) T) →
 Ax.Sub Hs H1 ∧
 ∃ (a4 : Addr),
 r = some a4 ∧
 ∃ (v2 : Option Addr),
 At H1 (a4.add (nat_lit 1)) [Value.pointer v2] ∧
 ∃ (a5 : Addr),
 v2 = some a5 ∧
 ∃ (A1 : Option Addr),
 ∃ (n1 : Nat),
 ∃ (c2 : Nat),
 At H1 (a5.add (nat_lit 3)) [Value.slice A1 n1 c2] ∧
 (decide ((↑n1 : Int) > (32 : Int)) = true → ∃ (a6 : Addr), r = some a6 ∧ ∃ (c3 : Array Value), ∃ (T1 : TypeId), H1 (a6.add (nat_lit 2)).block = some (Obj.cells c3 T1) ∧ (a6.add (nat_lit 2)).spot = none ∧ (a6.add (nat_lit 2)).off + [Value.bool true].length ≤ c3.size ∧ ∀ (H11 : Heap), H11 = H1.upd (a6.add (nat_lit 2)).block (Obj.cells (splice c3 (a6.add (nat_lit 2)).off [Value.bool true]) T1) → K (Value.tuple #[]) H11) ∧ (decide ((↑n1 : Int) > (32 : Int)) = false → K (Value.tuple #[]) H1)
theorem v72 {r : Option Addr} {lA : Option Addr} {ln lc : Nat} {H : Heap} {K : Value → Heap → Prop} (h : F72 r lA ln lc H K) : Tr Try.prog 72 #[.pointer r, .slice lA ln lc] H K :=
  tr_of_eq (C := c72) Try.func72 (show vcFn c72 Try.f72 [.pointer r, .slice lA ln lc] H K = F72 r lA ln lc H K by kernel_rfl) h
noncomputable def c73 : Cx := { P := Try.prog, res := [], pub := [], loops := [], quiet := [], asm := true }
def F73 (is0 : Bool) (H : Heap) (K : Value → Heap → Prop) : Prop :=
 (is0 = true → K (Value.int IntKind.i64 (1 : Int)) H) ∧ (is0 = false → K (Value.int IntKind.i64 (0 : Int)) H)
theorem v73 {is0 : Bool} {H : Heap} {K : Value → Heap → Prop} (h : F73 is0 H K) : Tr Try.prog 73 #[.bool is0] H K :=
  tr_of_eq (C := c73) Try.func73 (show vcFn c73 Try.f73 [.bool is0] H K = F73 is0 H K by kernel_rfl) h
noncomputable def c74 : Cx := { P := Try.prog, res := [], pub := [], loops := [], quiet := [73], asm := true }
def F74 (op : Int) (a : Int) (b : Int) (H : Heap) (K : Value → Heap → Prop) : Prop :=
 ((op == (5 : Int)) = true → K (Value.int IntKind.i64 (IntKind.i64.wrap (a + b))) H) ∧
 ((op == (5 : Int)) = false →
 ((op == (6 : Int)) = true → K (Value.int IntKind.i64 (IntKind.i64.wrap (a - b))) H) ∧
 ((op == (6 : Int)) = false →
 ((op == (7 : Int)) = true → K (Value.int IntKind.i64 (IntKind.i64.wrap (a * b))) H) ∧
 ((op == (7 : Int)) = false →
 ((op == (10 : Int)) = true → ∃ (x : Int), (Tr Try.prog (73 : Nat) #[Value.bool (a == b)] H fun (v : Value) (H' : Heap) => v = Value.int IntKind.i64 x ∧ Ax.Sub H H') ∧ K (Value.int IntKind.i64 x) H) ∧
 ((op == (10 : Int)) = false → ((op == (11 : Int)) = true → ∃ (x1 : Int), (Tr Try.prog (73 : Nat) #[Value.bool (decide (a < b))] H fun (v1 : Value) (H'1 : Heap) => v1 = Value.int IntKind.i64 x1 ∧ Ax.Sub H H'1) ∧ K (Value.int IntKind.i64 x1) H) ∧ ((op == (11 : Int)) = false → ((b == (0 : Int)) = true → K (Value.int IntKind.i64 (0 : Int)) H) ∧ ((b == (0 : Int)) = false → ((op == (8 : Int)) = true → b ≠ (0 : Int) ∧ K (Value.int IntKind.i64 (IntKind.i64.wrap (a.tdiv b))) H) ∧ ((op == (8 : Int)) = false → b ≠ (0 : Int) ∧ K (Value.int IntKind.i64 (a.tmod b)) H)))))))
theorem v74 {op : Int} {a : Int} {b : Int} {H : Heap} {K : Value → Heap → Prop} (h : F74 op a b H K) : Tr Try.prog 74 #[.int .i64 op, .int .i64 a, .int .i64 b] H K :=
  tr_of_eq (C := c74) Try.func74 (show vcFn c74 Try.f74 [.int .i64 op, .int .i64 a, .int .i64 b] H K = F74 op a b H K by kernel_rfl) h
noncomputable def c79 : Cx := { P := Try.prog, res := [], pub := [], loops := [], quiet := [], asm := true }
def F79 (eId : Int) (eTime : Int) (eKind : Int) (eA : Int) (eB : Int) (eC : Int) (eD : Int) (eE : Int) (eF : Int) (wantId : Int) (wantTime : Int) (wantKind : Int) (wantA : Int) (wantB : Int) (wantC : Int) (wantD : Int) (wantE : Int) (wantF : Int) (H : Heap) (K : Value → Heap → Prop) : Prop :=
 ((eKind == (11 : Int)) = true → K (Value.bool (eId == wantId && (eTime == wantTime && (eKind == wantKind && (wantA == wantA && (eB == wantB && (eC == wantC && (eD == wantD && (eE == wantE && (eF == wantF && true)))))))))) H) ∧
 ((eKind == (11 : Int)) = false → ((eKind == (18 : Int)) = true → K (Value.bool (eId == wantId && (eTime == wantTime && (eKind == wantKind && (eA == wantA && (wantB == wantB && (eC == wantC && (eD == wantD && (eE == wantE && (eF == wantF && true)))))))))) H) ∧ ((eKind == (18 : Int)) = false → K (Value.bool (eId == wantId && (eTime == wantTime && (eKind == wantKind && (eA == wantA && (eB == wantB && (eC == wantC && (eD == wantD && (eE == wantE && (eF == wantF && true)))))))))) H))
theorem v79 {eId : Int} {eTime : Int} {eKind : Int} {eA : Int} {eB : Int} {eC : Int} {eD : Int} {eE : Int} {eF : Int} {wantId : Int} {wantTime : Int} {wantKind : Int} {wantA : Int} {wantB : Int} {wantC : Int} {wantD : Int} {wantE : Int} {wantF : Int} {H : Heap} {K : Value → Heap → Prop} (h : F79 eId eTime eKind eA eB eC eD eE eF wantId wantTime wantKind wantA wantB wantC wantD wantE wantF H K) : Tr Try.prog 79 #[.agg #[.int .i64 eId, .int .i64 eTime, .int .i64 eKind, .int .i64 eA, .int .i64 eB, .int .i64 eC, .int .i64 eD, .int .i64 eE, .int .i64 eF], .agg #[.int .i64 wantId, .int .i64 wantTime, .int .i64 wantKind, .int .i64 wantA, .int .i64 wantB, .int .i64 wantC, .int .i64 wantD, .int .i64 wantE, .int .i64 wantF]] H K :=
  tr_of_eq (C := c79) Try.func79 (show vcFn c79 Try.f79 [.agg #[.int .i64 eId, .int .i64 eTime, .int .i64 eKind, .int .i64 eA, .int .i64 eB, .int .i64 eC, .int .i64 eD, .int .i64 eE, .int .i64 eF], .agg #[.int .i64 wantId, .int .i64 wantTime, .int .i64 wantKind, .int .i64 wantA, .int .i64 wantB, .int .i64 wantC, .int .i64 wantD, .int .i64 wantE, .int .i64 wantF]] H K = F79 eId eTime eKind eA eB eC eD eE eF wantId wantTime wantKind wantA wantB wantC wantD wantE wantF H K by kernel_rfl) h
noncomputable def c88 : Cx := { P := Try.prog, res := [], pub := [], loops := [], quiet := [], asm := true }
def F88 (r : Option Addr) (d : Int) (H : Heap) (K : Value → Heap → Prop) : Prop :=
 ∃ (a : Addr),
 r = some a ∧
 ∃ (v : Option Addr),
 At H (a.add (nat_lit 1)) [Value.pointer v] ∧
 ∃ (a1 : Addr),
 v = some a1 ∧
 ∃ (A : Option Addr),
 ∃ (n : Nat),
 ∃ (c : Nat),
 At H (a1.add (nat_lit 3)) [Value.slice A n c] ∧
 ∃ (a2 : Addr),
 ((!decide (IntKind.i64.wrap (IntKind.i64.wrap ((↑n : Int) - (1 : Int)) - d) < (0 : Int))) = true → r = some a2) ∧
 ∃ (v1 : Option Addr),
 ((!decide (IntKind.i64.wrap (IntKind.i64.wrap ((↑n : Int) - (1 : Int)) - d) < (0 : Int))) = true → At H (a2.add (nat_lit 1)) [Value.pointer v1]) ∧
 ∃ (a3 : Addr),
 ((!decide (IntKind.i64.wrap (IntKind.i64.wrap ((↑n : Int) - (1 : Int)) - d) < (0 : Int))) = true → v1 = some a3) ∧
 ∃ (A1 : Option Addr),
 ∃ (n1 : Nat),
 ∃ (c1 : Nat),
 ((!decide (IntKind.i64.wrap (IntKind.i64.wrap ((↑n : Int) - (1 : Int)) - d) < (0 : Int))) = true → At H (a3.add (nat_lit 3)) [Value.slice A1 n1 c1]) ∧
 ∃ (a4 : Addr),
 ((!decide (IntKind.i64.wrap (IntKind.i64.wrap ((↑n : Int) - (1 : Int)) - d) < (0 : Int))) = true → A1 = some a4 ∧ (0 : Int) ≤ IntKind.i64.wrap (IntKind.i64.wrap ((↑n : Int) - (1 : Int)) - d) ∧ IntKind.i64.wrap (IntKind.i64.wrap ((↑n : Int) - (1 : Int)) - d) < (↑n1 : Int)) ∧
 ∃ (x : Int),
 ((!decide (IntKind.i64.wrap (IntKind.i64.wrap ((↑n : Int) - (1 : Int)) - d) < (0 : Int))) = true → At H (a4.add ((IntKind.i64.wrap (IntKind.i64.wrap ((↑n : Int) - (1 : Int)) - d)).toNat * nat_lit 1)) [Value.int IntKind.i64 x]) ∧
 ∃ (a5 : Addr),
 ((!(decide (IntKind.i64.wrap (IntKind.i64.wrap ((↑n : Int) - (1 : Int)) - d) < (0 : Int)) || decide (x < (0 : Int)))) = true → r = some a5) ∧
 ∃ (v2 : Option Addr),
 ((!(decide (IntKind.i64.wrap (IntKind.i64.wrap ((↑n : Int) - (1 : Int)) - d) < (0 : Int)) || decide (x < (0 : Int)))) = true → At H (a5.add (nat_lit 1)) [Value.pointer v2]) ∧
 ∃ (a6 : Addr),
 ((!(decide (IntKind.i64.wrap (IntKind.i64.wrap ((↑n : Int) - (1 : Int)) - d) < (0 : Int)) || decide (x < (0 : Int)))) = true → v2 = some a6) ∧
 ∃ (A2 : Option Addr),
 ∃ (n2 : Nat),
 ∃ (c2 : Nat),
 ((!(decide (IntKind.i64.wrap (IntKind.i64.wrap ((↑n : Int) - (1 : Int)) - d) < (0 : Int)) || decide (x < (0 : Int)))) = true → At H (a6.add (nat_lit 3)) [Value.slice A2 n2 c2]) ∧
 ∃ (a7 : Addr),
 ((!(decide (IntKind.i64.wrap (IntKind.i64.wrap ((↑n : Int) - (1 : Int)) - d) < (0 : Int)) || decide (x < (0 : Int)))) = true → A2 = some a7 ∧ (0 : Int) ≤ IntKind.i64.wrap (IntKind.i64.wrap ((↑n : Int) - (1 : Int)) - d) ∧ IntKind.i64.wrap (IntKind.i64.wrap ((↑n : Int) - (1 : Int)) - d) < (↑n2 : Int)) ∧
 ∃ (x1 : Int),
 ((!(decide (IntKind.i64.wrap (IntKind.i64.wrap ((↑n : Int) - (1 : Int)) - d) < (0 : Int)) || decide (x < (0 : Int)))) = true → At H (a7.add ((IntKind.i64.wrap (IntKind.i64.wrap ((↑n : Int) - (1 : Int)) - d)).toNat * nat_lit 1)) [Value.int IntKind.i64 x1]) ∧
 ∃ (a8 : Addr),
 ((!(decide (IntKind.i64.wrap (IntKind.i64.wrap ((↑n : Int) - (1 : Int)) - d) < (0 : Int)) || decide (x < (0 : Int)))) = true → r = some a8) ∧
 ∃ (v3 : Option Addr),
 ((!(decide (IntKind.i64.wrap (IntKind.i64.wrap ((↑n : Int) - (1 : Int)) - d) < (0 : Int)) || decide (x < (0 : Int)))) = true → At H (a8.add (nat_lit 0)) [Value.pointer v3]) ∧
 ∃ (a9 : Addr),
 ((!(decide (IntKind.i64.wrap (IntKind.i64.wrap ((↑n : Int) - (1 : Int)) - d) < (0 : Int)) || decide (x < (0 : Int)))) = true → v3 = some a9) ∧
 ∃ (A3 : Option Addr),
 ∃ (n3 : Nat),
 ∃ (c3 : Nat),
 ((!(decide (IntKind.i64.wrap (IntKind.i64.wrap ((↑n : Int) - (1 : Int)) - d) < (0 : Int)) || decide (x < (0 : Int)))) = true → At H ((a9.add (nat_lit 2)).add (nat_lit 22)) [Value.slice A3 n3 c3]) ∧
 ((decide (IntKind.i64.wrap (IntKind.i64.wrap ((↑n : Int) - (1 : Int)) - d) < (0 : Int)) || decide (x < (0 : Int)) || decide (x1 ≥ (↑n3 : Int))) = true →
 ∃ (a10 : Addr), r = some a10 ∧ ∃ (c4 : Array Value), ∃ (T : TypeId), H (a10.add (nat_lit 2)).block = some (Obj.cells c4 T) ∧ (a10.add (nat_lit 2)).spot = none ∧ (a10.add (nat_lit 2)).off + [Value.bool true].length ≤ c4.size ∧ ∀ (H1 : Heap), H1 = H.upd (a10.add (nat_lit 2)).block (Obj.cells (splice c4 (a10.add (nat_lit 2)).off [Value.bool true]) T) → K (Value.int IntKind.i64 (-1 : Int)) H1) ∧
 ((decide (IntKind.i64.wrap (IntKind.i64.wrap ((↑n : Int) - (1 : Int)) - d) < (0 : Int)) || decide (x < (0 : Int)) || decide (x1 ≥ (↑n3 : Int))) = false →
 ∃ (a11 : Addr),
 r = some a11 ∧
 ∃ (v4 : Option Addr),
 At H (a11.add (nat_lit 1)) [Value.pointer v4] ∧
 ∃ (a12 : Addr),
 v4 = some a12 ∧ ∃ (A4 : Option Addr), ∃ (n4 : Nat), ∃ (c5 : Nat), At H (a12.add (nat_lit 3)) [Value.slice A4 n4 c5] ∧ ∃ (a13 : Addr), (A4 = some a13 ∧ (0 : Int) ≤ IntKind.i64.wrap (IntKind.i64.wrap ((↑n : Int) - (1 : Int)) - d) ∧ IntKind.i64.wrap (IntKind.i64.wrap ((↑n : Int) - (1 : Int)) - d) < (↑n4 : Int)) ∧ ∃ (x2 : Int), At H (a13.add ((IntKind.i64.wrap (IntKind.i64.wrap ((↑n : Int) - (1 : Int)) - d)).toNat * nat_lit 1)) [Value.int IntKind.i64 x2] ∧ K (Value.int IntKind.i64 x2) H)
theorem v88 {r : Option Addr} {d : Int} {H : Heap} {K : Value → Heap → Prop} (h : F88 r d H K) : Tr Try.prog 88 #[.pointer r, .int .i64 d] H K :=
  tr_of_eq (C := c88) Try.func88 (show vcFn c88 Try.f88 [.pointer r, .int .i64 d] H K = F88 r d H K by kernel_rfl) h
noncomputable def c89 : Cx := { P := Try.prog, res := [], pub := [], loops := [], quiet := [], asm := true }
def F89 (r : Option Addr) (H : Heap) (K : Value → Heap → Prop) : Prop :=
 Tr Try.prog (52 : Nat) #[Value.pointer r] H fun (v : Value) (H' : Heap) =>
 ∃ (x : Int),
 v = Value.int IntKind.i64 x ∧
 ∃ (a : Addr),
 ((!decide (x < (0 : Int))) = true → r = some a) ∧
 ∃ (v1 : Option Addr),
 ((!decide (x < (0 : Int))) = true → At H' (a.add (nat_lit 0)) [Value.pointer v1]) ∧
 ∃ (a1 : Addr),
 ((!decide (x < (0 : Int))) = true → v1 = some a1) ∧
 ∃ (A : Option Addr),
 ∃ (n : Nat),
 ∃ (c : Nat),
 ((!decide (x < (0 : Int))) = true → At H' ((a1.add (nat_lit 2)).add (nat_lit 23)) [Value.slice A n c]) ∧
 ((decide (x < (0 : Int)) || decide (x ≥ (↑n : Int))) = true → ∃ (a2 : Addr), r = some a2 ∧ ∃ (c1 : Array Value), ∃ (T : TypeId), H' (a2.add (nat_lit 2)).block = some (Obj.cells c1 T) ∧ (a2.add (nat_lit 2)).spot = none ∧ (a2.add (nat_lit 2)).off + [Value.bool true].length ≤ c1.size ∧ ∀ (H1 : Heap), H1 = H'.upd (a2.add (nat_lit 2)).block (Obj.cells (splice c1 (a2.add (nat_lit 2)).off [Value.bool true]) T) → K (Value.int IntKind.i64 x) H1) ∧ ((decide (x < (0 : Int)) || decide (x ≥ (↑n : Int))) = false → K (Value.int IntKind.i64 x) H')
theorem v89 {r : Option Addr} {H : Heap} {K : Value → Heap → Prop} (h : F89 r H K) : Tr Try.prog 89 #[.pointer r] H K :=
  tr_of_eq (C := c89) Try.func89 (show vcFn c89 Try.f89 [.pointer r] H K = F89 r H K by kernel_rfl) h
noncomputable def c90 : Cx := { P := Try.prog, res := [], pub := [], loops := [], quiet := [], asm := true }
def F90 (n : Int) (H : Heap) (K : Value → Heap → Prop) : Prop :=
 (0 : Int) ≤ (30 : Int) ∧
 (0 : Int) ≤ (27 : Int) ∧
 (0 : Int) ≤ (31 : Int) ∧
 K
 (Value.int IntKind.u64
 (bitsI BinOp.xor IntKind.u64
 (IntKind.u64.wrap
 (bitsI BinOp.xor IntKind.u64 (IntKind.u64.wrap (bitsI BinOp.xor IntKind.u64 (IntKind.u64.wrap (n + (11400714819323198485 : Int))) ((IntKind.u64.wrap (n + (11400714819323198485 : Int))).fdiv ((2 : Int) ^ shAmt IntKind.u64 (30 : Int))) * (13787848793156543929 : Int))) ((IntKind.u64.wrap (bitsI BinOp.xor IntKind.u64 (IntKind.u64.wrap (n + (11400714819323198485 : Int))) ((IntKind.u64.wrap (n + (11400714819323198485 : Int))).fdiv ((2 : Int) ^ shAmt IntKind.u64 (30 : Int))) * (13787848793156543929 : Int))).fdiv ((2 : Int) ^ shAmt IntKind.u64 (27 : Int))) *
 (10723151780598845931 : Int)))
 ((IntKind.u64.wrap
 (bitsI BinOp.xor IntKind.u64 (IntKind.u64.wrap (bitsI BinOp.xor IntKind.u64 (IntKind.u64.wrap (n + (11400714819323198485 : Int))) ((IntKind.u64.wrap (n + (11400714819323198485 : Int))).fdiv ((2 : Int) ^ shAmt IntKind.u64 (30 : Int))) * (13787848793156543929 : Int))) ((IntKind.u64.wrap (bitsI BinOp.xor IntKind.u64 (IntKind.u64.wrap (n + (11400714819323198485 : Int))) ((IntKind.u64.wrap (n + (11400714819323198485 : Int))).fdiv ((2 : Int) ^ shAmt IntKind.u64 (30 : Int))) * (13787848793156543929 : Int))).fdiv ((2 : Int) ^ shAmt IntKind.u64 (27 : Int))) *
 (10723151780598845931 : Int))).fdiv
 ((2 : Int) ^ shAmt IntKind.u64 (31 : Int)))))
 H
theorem v90 {n : Int} {H : Heap} {K : Value → Heap → Prop} (h : F90 n H K) : Tr Try.prog 90 #[.int .u64 n] H K :=
  tr_of_eq (C := c90) Try.func90 (show vcFn c90 Try.f90 [.int .u64 n] H K = F90 n H K by kernel_rfl) h
noncomputable def c91 : Cx := { P := Try.prog, res := [], pub := [50], loops := [], quiet := [68], draws := [⟨2, [1, 5, 8], [1], true, true⟩, ⟨9, [6], [], false, true⟩], asm := true }
def F91 (r : Option Addr) (eId : Int) (eTime : Int) (eKind : Int) (eA : Int) (eB : Int) (eC : Int) (eD : Int) (eE : Int) (eF : Int) (H : Heap) (K : Value → Heap → Prop) : Prop :=
 ∃ (a : Addr),
 r = some a ∧
 ∃ (v : Option Addr),
 At H (a.add (nat_lit 0)) [Value.pointer v] ∧
 ∃ (Hs : Heap),
 Ax.Sub Hs H ∧
 ∃ (a1 : Addr),
 r = some a1 ∧
 ∃ (v1 : Option Addr),
 At Hs (a1.add (nat_lit 1)) [Value.pointer v1] ∧
 ∃ (a2 : Addr),
 v1 = some a2 ∧
 ∃ (x : Int),
 At Hs (a2.add (nat_lit 2)) [Value.int IntKind.i64 x] ∧
 Ax.Sub Hs H ∧
 Ax.Sub Hs H ∧
 ∃ (a3 : Addr),
 r = some a3 ∧
 ∃ (v2 : Option Addr),
 At H (a3.add (nat_lit 1)) [Value.pointer v2] ∧
 ∃ (a4 : Addr),
 v2 = some a4 ∧
 ∃ (x1 : Int),
 At H (a4.add (nat_lit 2)) [Value.int IntKind.i64 x1] ∧
 ∃ (b : Bool),
 (Tr Try.prog (68 : Nat) #[Value.pointer v, Value.int IntKind.i64 x1] H fun (v3 : Value) (H' : Heap) => v3 = Value.bool b ∧ Ax.Sub H H') ∧
 (b = true →
 ∃ (a5 : Addr),
 v = some a5 ∧
 ∃ (A : Option Addr),
 ∃ (n : Nat),
 ∃ (c : Nat),
 At H ((a5.add (nat_lit 2)).add (nat_lit 22)) [Value.slice A n c] ∧
 ∀ (b1 : Nat),
 H b1 = none →
 ∀ (H1 : Heap),
 H1 = H.upd b1 (Obj.cells #[Value.int IntKind.i64 (↑n : Int)] (2 : Nat)) →
 Tr Try.prog (72 : Nat) #[Value.pointer r, Value.slice (some ({ block := b1, off := (0 : Nat) } : Addr)) (1 : Nat) (1 : Nat)] H1 fun (v4 : Value) (H'1 : Heap) =>
 v4 = Value.tuple #[] ∧
 ∃ (a6 : Addr),
 v = some a6 ∧
 (∃ (A1 : Option Addr),
 ∃ (n1 : Nat),
 ∃ (c1 : Nat),
 At H'1 ((a6.add (nat_lit 2)).add (nat_lit 22)) [Value.slice A1 n1 c1] ∧
 appC (55 : Nat) (nat_lit 6) (nat_lit 48) H'1 A1 n1 c1 [Value.int IntKind.i64 eKind, Value.int IntKind.i64 (0 : Int), Value.int IntKind.i64 x, Value.bool true, Value.int IntKind.i64 (0 : Int), Value.int IntKind.i64 (3 : Int)] (1 : Nat) fun (A' : Option Addr) (n' c' : Nat) (H'2 : Heap) =>
 ∃ (a7 : Addr), v = some a7 ∧ ∃ (c2 : Array Value), ∃ (T : TypeId), H'2 ((a7.add (nat_lit 2)).add (nat_lit 22)).block = some (Obj.cells c2 T) ∧ ((a7.add (nat_lit 2)).add (nat_lit 22)).spot = none ∧ ((a7.add (nat_lit 2)).add (nat_lit 22)).off + [Value.slice A' n' c'].length ≤ c2.size ∧ ∀ (H11 : Heap), H11 = H'2.upd ((a7.add (nat_lit 2)).add (nat_lit 22)).block (Obj.cells (splice c2 ((a7.add (nat_lit 2)).add (nat_lit 22)).off [Value.slice A' n' c']) T) → K (Value.tuple #[]) H11) ∧
 ∃ (A2 : Option Addr),
 ∃ (n2 : Nat),
 ∃ (c3 : Nat),
 At H'1 ((a6.add (nat_lit 2)).add (nat_lit 22)) [Value.slice A2 n2 c3] ∧
 appC (55 : Nat) (nat_lit 6) (nat_lit 48) H'1 A2 n2 c3 [Value.int IntKind.i64 eKind, Value.int IntKind.i64 (0 : Int), Value.int IntKind.i64 x, Value.bool true, Value.int IntKind.i64 (0 : Int), Value.int IntKind.i64 (3 : Int)] (1 : Nat) fun (A'1 : Option Addr) (n'1 c'1 : Nat) (H'3 : Heap) =>
 ∃ (a8 : Addr), v = some a8 ∧ ∃ (c4 : Array Value), ∃ (T1 : TypeId), H'3 ((a8.add (nat_lit 2)).add (nat_lit 22)).block = some (Obj.cells c4 T1) ∧ ((a8.add (nat_lit 2)).add (nat_lit 22)).spot = none ∧ ((a8.add (nat_lit 2)).add (nat_lit 22)).off + [Value.slice A'1 n'1 c'1].length ≤ c4.size ∧ ∀ (H12 : Heap), H12 = H'3.upd ((a8.add (nat_lit 2)).add (nat_lit 22)).block (Obj.cells (splice c4 ((a8.add (nat_lit 2)).add (nat_lit 22)).off [Value.slice A'1 n'1 c'1]) T1) → K (Value.tuple #[]) H12) ∧
 (b = false →
 Tr Try.prog (69 : Nat) #[Value.pointer v, Value.agg #[Value.int IntKind.i64 eId, Value.int IntKind.i64 eTime, Value.int IntKind.i64 eKind, Value.int IntKind.i64 eA, Value.int IntKind.i64 eB, Value.int IntKind.i64 eC, Value.int IntKind.i64 eD, Value.int IntKind.i64 eE, Value.int IntKind.i64 eF]] H fun (v5 : Value) (H'4 : Heap) =>
 ∃ (x2 : Int),
 ∃ (b2 : Bool),
 v5 = Value.tuple #[Value.int IntKind.i64 x2, Value.bool b2] ∧
 ((!b2) = true → K (Value.tuple #[]) H'4) ∧
 ((!b2) = false →
 ∃ (a9 : Addr),
 v = some a9 ∧
 ∃ (A3 : Option Addr),
 ∃ (n3 : Nat),
 ∃ (c5 : Nat),
 At H'4 ((a9.add (nat_lit 2)).add (nat_lit 22)) [Value.slice A3 n3 c5] ∧
 ∀ (b3 : Nat),
 H'4 b3 = none →
 ∀ (H13 : Heap),
 H13 = H'4.upd b3 (Obj.cells #[Value.int IntKind.i64 (↑n3 : Int)] (2 : Nat)) →
 Tr Try.prog (72 : Nat) #[Value.pointer r, Value.slice (some ({ block := b3, off := (0 : Nat) } : Addr)) (1 : Nat) (1 : Nat)] H13 fun (v6 : Value) (H'5 : Heap) =>
 v6 = Value.tuple #[] ∧
 ∃ (a10 : Addr),
 v = some a10 ∧
 (∃ (A4 : Option Addr),
 ∃ (n4 : Nat),
 ∃ (c6 : Nat),
 At H'5 ((a10.add (nat_lit 2)).add (nat_lit 22)) [Value.slice A4 n4 c6] ∧
 appC (55 : Nat) (nat_lit 6) (nat_lit 48) H'5 A4 n4 c6 [Value.int IntKind.i64 eKind, Value.int IntKind.i64 x2, Value.int IntKind.i64 x, Value.bool false, Value.int IntKind.i64 (0 : Int), Value.int IntKind.i64 (0 : Int)] (1 : Nat) fun (A'2 : Option Addr) (n'2 c'2 : Nat) (H'6 : Heap) =>
 ∃ (a11 : Addr),
 v = some a11 ∧ ∃ (c7 : Array Value), ∃ (T2 : TypeId), H'6 ((a11.add (nat_lit 2)).add (nat_lit 22)).block = some (Obj.cells c7 T2) ∧ ((a11.add (nat_lit 2)).add (nat_lit 22)).spot = none ∧ ((a11.add (nat_lit 2)).add (nat_lit 22)).off + [Value.slice A'2 n'2 c'2].length ≤ c7.size ∧ ∀ (H14 : Heap), H14 = H'6.upd ((a11.add (nat_lit 2)).add (nat_lit 22)).block (Obj.cells (splice c7 ((a11.add (nat_lit 2)).add (nat_lit 22)).off [Value.slice A'2 n'2 c'2]) T2) → K (Value.tuple #[]) H14) ∧
 ∃ (A5 : Option Addr),
 ∃ (n5 : Nat),
 ∃ (c8 : Nat),
 At H'5 ((a10.add (nat_lit 2)).add (nat_lit 22)) [Value.slice A5 n5 c8] ∧
 appC (55 : Nat) (nat_lit 6) (nat_lit 48) H'5 A5 n5 c8 [Value.int IntKind.i64 eKind, Value.int IntKind.i64 x2, Value.int IntKind.i64 x, Value.bool false, Value.int IntKind.i64 (0 : Int), Value.int IntKind.i64 (0 : Int)] (1 : Nat) fun (A'3 : Option Addr) (n'3 c'3 : Nat) (H'7 : Heap) =>
 ∃ (a12 : Addr),
 v = some a12 ∧ ∃ (c9 : Array Value), ∃ (T3 : TypeId), H'7 ((a12.add (nat_lit 2)).add (nat_lit 22)).block = some (Obj.cells c9 T3) ∧ ((a12.add (nat_lit 2)).add (nat_lit 22)).spot = none ∧ ((a12.add (nat_lit 2)).add (nat_lit 22)).off + [Value.slice A'3 n'3 c'3].length ≤ c9.size ∧ ∀ (H15 : Heap), H15 = H'7.upd ((a12.add (nat_lit 2)).add (nat_lit 22)).block (Obj.cells (splice c9 ((a12.add (nat_lit 2)).add (nat_lit 22)).off [Value.slice A'3 n'3 c'3]) T3) → K (Value.tuple #[]) H15))
theorem v91 {r : Option Addr} {eId : Int} {eTime : Int} {eKind : Int} {eA : Int} {eB : Int} {eC : Int} {eD : Int} {eE : Int} {eF : Int} {H : Heap} {K : Value → Heap → Prop} (h : F91 r eId eTime eKind eA eB eC eD eE eF H K) : Tr Try.prog 91 #[.pointer r, .agg #[.int .i64 eId, .int .i64 eTime, .int .i64 eKind, .int .i64 eA, .int .i64 eB, .int .i64 eC, .int .i64 eD, .int .i64 eE, .int .i64 eF]] H K :=
  tr_of_eq (C := c91) Try.func91 (show vcFn c91 Try.f91 [.pointer r, .agg #[.int .i64 eId, .int .i64 eTime, .int .i64 eKind, .int .i64 eA, .int .i64 eB, .int .i64 eC, .int .i64 eD, .int .i64 eE, .int .i64 eF]] H K = F91 r eId eTime eKind eA eB eC eD eE eF H K by kernel_rfl) h
end Go.Proofs.Ytjmdoiakcakfoaa
set_option maxRecDepth 100000
namespace Go.Proofs.Ytjmdoiakcakfoaa
open Go.Ax
section
variable {G H : Heap} {m : Nat} {pf po : SlH} {sl : Nat → SlH} {F : Heap} {ex : Value} {st : List SlH} {s : VS}
theorem VMX.futLen (h : VMX G H m pf po sl F ex st s) : (sl 1).n = s.futures.length := by
  have := (h.ok 1 (by decide)).len
  have e : contC sl st s 1 = s.futures.flatMap futC := rfl
  rw [e, flat_size (cells := futC) (sz := 6) (fun _ => rfl)] at this
  have z : szC 1 = 6 := rfl
  rw [z] at this; omega
theorem VMX.scpLen (h : VMX G H m pf po sl F ex st s) : (sl 2).n = s.scopes.length := by
  have := (h.ok 2 (by decide)).len
  have e : contC sl st s 2 = s.scopes.flatMap scpC := rfl
  rw [e, flat_size (cells := scpC) (sz := 2) (fun _ => rfl)] at this
  have z : szC 2 = 2 := rfl
  rw [z] at this; omega
theorem VMX.thrLen (h : VMX G H m pf po sl F ex st s) : (sl 0).n = s.threads.length := by
  have := (h.ok 0 (by decide)).len
  have e : contC sl st s 0 = (s.threads.zip st).flatMap thrC := rfl
  rw [e, flat_size (cells := thrC) (sz := 9) (fun _ => rfl), List.length_zip, h.stl, Nat.min_self] at this
  have z : szC 0 = 9 := rfl
  rw [z] at this; omega
theorem VMX.sigLen (h : VMX G H m pf po sl F ex st s) : (sl 3).n = 8 := by
  have := (h.ok 3 (by decide)).len
  have e : contC sl st s 3 = (List.range 8).map (fun k => (sl (6 + k)).v) := rfl
  have z : szC 3 = 1 := rfl
  rw [e, List.length_map, List.length_range, z] at this; omega
theorem VMX.fut (h : VMX G H m pf po sl F ex st s) {i : Nat} {f : Fut} (hf : s.futures[i]? = some f) : ∃ a, (sl 1).A = some a ∧ At H (a.add (i * 6)) (futC f) :=
  src_elem (cells := futC) (sz := 6) (fun _ => rfl) (by decide) (h.ok 1 (by decide)).src i f hf
theorem VMX.scp (h : VMX G H m pf po sl F ex st s) {i : Nat} {f : Scp} (hf : s.scopes[i]? = some f) : ∃ a, (sl 2).A = some a ∧ At H (a.add (i * 2)) (scpC f) :=
  src_elem (cells := scpC) (sz := 2) (fun _ => rfl) (by decide) (h.ok 2 (by decide)).src i f hf
theorem VMX.thr (h : VMX G H m pf po sl F ex st s) {i : Nat} {t : Thr} (ht : s.threads[i]? = some t) : ∃ a q, (sl 0).A = some a ∧ st[i]? = some q ∧ HasL (dif F G) q t.stack ∧ At H (a.add (i * 9)) (thrC (t, q)) := by
  have hl := get_lt ht
  obtain ⟨q, hq⟩ : ∃ q, st[i]? = some q := ⟨st[i]'(by rw [h.stl]; exact hl), by simp⟩
  have hz : (s.threads.zip st)[i]? = some (t, q) := by rw [List.getElem?_zip_eq_some]; exact ⟨ht, hq⟩
  obtain ⟨a, ha, hat⟩ := src_elem (cells := thrC) (sz := 9) (fun _ => rfl) (by decide) (h.ok 0 (by decide)).src i (t, q) hz
  exact ⟨a, q, ha, hq, h.stk i t q ht hq, hat⟩
theorem VMX.sig (h : VMX G H m pf po sl F ex st s) {k : Nat} (hk : k < 8) : ∃ a, (sl 3).A = some a ∧ At H (a.add (k * 1)) [(sl (6 + k)).v] := by
  have := src_elem (cells := fun i : Nat => [(sl (6 + i)).v]) (sz := 1) (fun _ => rfl) (by decide) (H := H) (A := (sl 3).A) (l := List.range 8) (by
    have e := (h.ok 3 (by decide)).src
    have e2 : contC sl st s 3 = (List.range 8).flatMap (fun i : Nat => [(sl (6 + i)).v]) := rfl
    rw [e2] at e; exact e) k k (by simp [hk])
  exact this
theorem VMX.sigN (h : VMX G H m pf po sl F ex st s) {k : Nat} (hk : k < 8) : (sl (6 + k)).n = (s.signals[k]?.getD []).length := by
  have := (h.ok (6 + k) (by omega)).len
  have e : contC sl st s (6 + k) = intsC (s.signals[k]?.getD []) := by
    unfold contC
    rw [if_neg (by omega), if_neg (by omega), if_neg (by omega), if_neg (by omega), if_neg (by omega), if_neg (by omega)]
    have : 6 + k - 6 = k := by omega
    rw [this]
  have z : szC (6 + k) = 1 := by unfold szC; rw [if_neg (by omega), if_neg (by omega), if_neg (by omega), if_neg (by omega), if_neg (by omega), if_neg (by omega)]
  rw [e, z] at this; unfold intsC at this; rw [List.length_map] at this; omega
theorem VMX.c24 (h : VMX G H m pf po sl F ex st s) : At H ((⟨m, 0, none⟩ : Addr).add 24) [(sl 1).v] := h.cell rfl
theorem VMX.c25 (h : VMX G H m pf po sl F ex st s) : At H ((⟨m, 0, none⟩ : Addr).add 25) [(sl 2).v] := h.cell rfl
theorem VMX.c26 (h : VMX G H m pf po sl F ex st s) : At H ((⟨m, 0, none⟩ : Addr).add 26) [(sl 3).v] := h.cell rfl
theorem VMX.c23 (h : VMX G H m pf po sl F ex st s) : At H ((⟨m, 0, none⟩ : Addr).add 23) [(sl 0).v] := h.cell rfl
theorem VS.future_none {id : Int} (h : ∀ j, j < s.futures.length → s.futHit id j = none) : s.future id = -1 := by unfold VS.future; rw [scan_none h]
theorem VS.future_hit {id : Int} {k : Nat} (hk : k < s.futures.length) (h : ∀ j, j < k → s.futHit id j = none) (e : s.futHit id k = some (k : Int)) : s.future id = k := by unfold VS.future; rw [scan_hit hk h e]
theorem t30 (h : VMX G H m pf po sl F ex st s) (hb : s.futures.length ≤ 1000000) (id : Int) :
    Tr Try.prog 30 #[.pointer (some ⟨m, 0, none⟩), .int .i64 id] H (fun v H' => v = .int .i64 (s.future id) ∧ Sub H H') := by
  have hl := h.futLen
  apply v30; unfold F30
  refine ⟨_, rfl, _, _, _, h.c24, RSc H s.futures.length (s.futHit id), fun i _ => ((s.futures.length : Int) - i).toNat, RSc.zero, fun i H1 r => ?_⟩
  obtain ⟨k, rfl, hk, hs⟩ := r.k
  have hH := r.heap; subst hH
  refine ⟨fun hlt => ?_, fun hge => ?_⟩
  · have hlt : (k : Int) < (sl 1).n := of_decide_eq_true hlt
    obtain ⟨f, hf⟩ := get_some (l := s.futures) (i := k) (by omega)
    obtain ⟨a, ha, hat⟩ := h.fut hf
    refine ⟨a, ⟨ha, by omega, hlt⟩, _, _, _, _, _, _, hat, fun e => ⟨?_, Sub.refl _⟩, fun e => ?_⟩
    · rw [VS.future_hit (k := k) (by omega) hs (by unfold VS.futHit; rw [hf]; simp only; rw [if_pos e])]
    · exact RSc.next r rfl (by omega) (by omega) (by unfold VS.futHit; rw [hf]; simp only; rw [if_neg (by rw [e]; simp)])
  · have hge : ¬ (k : Int) < (sl 1).n := of_decide_eq_false hge
    refine ⟨?_, Sub.refl _⟩
    rw [VS.future_none (fun j hj => hs j (by omega))]
def ScpOk (l : List Scp) : Prop := ∀ (i : Nat) (c : Scp), l[i]? = some c → c.parent < i
theorem cancG_enough (hp : ScpOk s.scopes) : ∀ (f : Nat) (i : Int) (g : Nat), i < f → f ≤ g → s.cancG g i = s.cancG f i
  | 0, i, g, h, _ => by
    have : i < 0 := by omega
    cases g with
    | zero => rfl
    | succ g => unfold VS.cancG; rw [if_pos this]
  | f + 1, i, 0, h, h2 => by omega
  | f + 1, i, g + 1, h, h2 => by
    unfold VS.cancG
    by_cases hi : i < 0
    · rw [if_pos hi, if_pos hi]
    · rw [if_neg hi, if_neg hi]
      cases hc : s.scopes[i.toNat]? with
      | none => rfl
      | some c =>
        simp only
        have := hp _ _ hc
        rw [cancG_enough hp f c.parent g (by omega) (by omega)]
theorem VS.cancelled_neg {i : Int} (h : i < 0) : s.cancelled i = false := by unfold VS.cancelled VS.cancG; rw [if_pos h]
theorem VS.cancelled_at (hp : ScpOk s.scopes) {k : Nat} {c : Scp} (hc : s.scopes[k]? = some c) : s.cancelled k = if c.cancelled = true then true else s.cancelled c.parent := by
  have hk := get_lt hc
  have e : s.cancelled k = if c.cancelled = true then true else s.cancG s.scopes.length c.parent := by
    show s.cancG (s.scopes.length + 1) k = _
    rw [VS.cancG, if_neg (by omega), Int.toNat_natCast, hc]
  have := hp _ _ hc
  rw [e, show s.cancelled c.parent = s.cancG (s.scopes.length + 1) c.parent from rfl, cancG_enough hp s.scopes.length c.parent (s.scopes.length + 1) (by omega) (by omega)]
theorem t68 (h : VMX G H m pf po sl F ex st s) (hp : ScpOk s.scopes) (i : Int) (hi : i < s.scopes.length) :
    Tr Try.prog 68 #[.pointer (some ⟨m, 0, none⟩), .int .i64 i] H (fun v H' => v = .bool (s.cancelled i) ∧ Sub H H') := by
  have hl := h.scpLen
  apply v68; unfold F68
  refine ⟨fun x H1 => H1 = H ∧ x < s.scopes.length ∧ s.cancelled x = s.cancelled i, fun x _ => (x + 1).toNat, ⟨rfl, hi, rfl⟩, fun x H1 r => ?_⟩
  obtain ⟨rfl, h1, h2⟩ := r
  refine ⟨fun hx => ?_, fun hx => ?_⟩
  · have hx : x ≥ 0 := of_decide_eq_true hx
    obtain ⟨k, rfl⟩ : ∃ k : Nat, x = k := ⟨x.toNat, by omega⟩
    obtain ⟨c, hc⟩ := get_some (l := s.scopes) (i := k) (by omega)
    obtain ⟨a, ha, hat⟩ := h.scp hc
    have hca := VS.cancelled_at hp hc
    have hpar := hp _ _ hc
    refine ⟨_, rfl, _, _, _, h.c25, a, ⟨ha, by omega, by omega⟩, _, at_one 1 hat rfl, fun e => ⟨?_, Sub.refl _⟩, fun e => ⟨_, rfl, _, _, _, h.c25, a, ⟨ha, by omega, by omega⟩, _, at_one 0 hat rfl, ⟨rfl, by omega, ?_⟩, show (c.parent + 1).toNat < ((k : Int) + 1).toNat by omega⟩⟩
    · rw [← h2, hca, if_pos e]
    · rw [← h2, hca, if_neg (by rw [e]; simp)]
  · have hx : ¬ x ≥ 0 := of_decide_eq_false hx
    exact ⟨by rw [← h2, VS.cancelled_neg (by omega)], Sub.refl _⟩
theorem t50 (h : VMX G H m pf po sl F ex st s) (t : Thr) (q : SlH) (h1 : t.waits < s.futures.length) (h2 : t.signal < 8) :
    Tr Try.prog 50 #[.pointer (some ⟨m, 0, none⟩), .agg ⟨thrC (t, q)⟩] H (fun v H' => v = .bool (s.ready t) ∧ Sub H H') := by
  have hl := h.futLen
  apply v50; unfold F50
  unfold VS.ready
  refine ⟨fun e => ?_, fun e => ⟨fun e2 => ?_, fun e2 => ⟨?_, Sub.refl _⟩⟩⟩
  · rw [if_pos e]
    have e : t.waits ≥ 0 := of_decide_eq_true e
    obtain ⟨f, hf⟩ := get_some (l := s.futures) (i := t.waits.toNat) (by omega)
    obtain ⟨a, ha, hat⟩ := h.fut hf
    rw [hf]
    exact ⟨_, rfl, _, _, _, h.c24, a, ⟨ha, e, show t.waits < ((sl 1).n : Int) by omega⟩, _, at_one 3 hat rfl, rfl, Sub.refl _⟩
  · rw [if_neg (by rw [e]; simp), if_pos e2]
    have e2 : t.signal ≥ 0 := of_decide_eq_true e2
    have hk : t.signal.toNat < 8 := by omega
    obtain ⟨a, ha, hat⟩ := h.sig hk
    refine ⟨_, rfl, _, _, _, h.c26, a, ⟨ha, e2, show t.signal < ((sl 3).n : Int) by rw [h.sigLen]; omega⟩, _, _, _, hat, ?_, Sub.refl _⟩
    rw [h.sigN hk]
  · rw [if_neg (by rw [e]; simp), if_neg (by rw [e2]; simp)]
end
end Go.Proofs.Ytjmdoiakcakfoaa
set_option maxRecDepth 100000
namespace Go.Ax
theorem flat_set {α : Type} {cells : α → List Value} {sz : Nat} (hsz : ∀ x, (cells x).length = sz) : ∀ (l : List α) (i : Nat) (x y : α) (j : Nat) (v : Value), l[i]? = some x → j < sz → (cells x).set j v = cells y → (l.flatMap cells).set (i * sz + j) v = (l.set i y).flatMap cells
  | [], i, x, y, j, v, h, _, _ => by simp at h
  | z :: l, 0, x, y, j, v, h, hj, e => by
    simp at h; subst h
    rw [List.set_cons_zero, List.flatMap_cons, List.flatMap_cons, Nat.zero_mul, Nat.zero_add, List.set_append_left _ _ (by rw [hsz]; exact hj), e]
  | z :: l, i + 1, x, y, j, v, h, hj, e => by
    rw [List.set_cons_succ, List.flatMap_cons, List.flatMap_cons]
    have q : (i + 1) * sz + j = (cells z).length + (i * sz + j) := by rw [hsz, Nat.add_mul]; omega
    rw [q, List.set_append_right _ _ (by omega)]
    have q2 : (cells z).length + (i * sz + j) - (cells z).length = i * sz + j := by omega
    rw [q2, flat_set hsz l i x y j v (by simpa using h) hj e]
theorem add2 (m i j : Nat) : ((⟨m, 0, none⟩ : Addr).add i).add j = (⟨m, 0, none⟩ : Addr).add (i + j) := add_add _ _ _
end Go.Ax
namespace Go.Proofs.Ytjmdoiakcakfoaa
open Go.Ax
section
variable {G H : Heap} {m : Nat} {pf po : SlH} {sl : Nat → SlH} {F : Heap} {ex : Value} {st : List SlH} {s : VS}
theorem mCells_len : (mCells pf po sl ex s).length = 36 := rfl
def Wr (H : Heap) (a : Addr) (v : Value) (Q : Heap → Prop) : Prop :=
  ∃ (cur : Array Value) (T : TypeId), H a.block = some (.cells cur T (0, 0)) ∧ a.spot = none ∧ a.off + [v].length ≤ cur.size ∧ ∀ H1, H1 = H.upd a.block (.cells (splice cur a.off [v]) T (0, 0)) → Q H1
theorem wr_cells {cs : List Value} {T : TypeId} (hm : H m = some (.cells ⟨cs⟩ T (0, 0))) {k : Nat} (hk : k < cs.length) {v : Value} {Q : Heap → Prop} (q : Q (H.upd m (.cells ⟨cs.set k v⟩ T (0, 0)))) : Wr H ((⟨m, 0, none⟩ : Addr).add k) v Q := by
  refine ⟨_, _, by rw [add_block]; exact hm, add_spot _ _, by rw [add_off]; exact hk, fun H1 e => ?_⟩
  rw [add_block, add_off, splice_one hk] at e
  rw [e]; exact q
theorem VMX.wr (h : VMX G H m pf po sl F ex st s) {k : Nat} (hk : k < 36) {v : Value} (s' : VS) (e : (mCells pf po sl ex s).set k v = mCells pf po sl ex s')
    (e1 : s'.threads = s.threads) (e2 : s'.futures = s.futures) (e3 : s'.scopes = s.scopes) (e4 : s'.signals = s.signals) (e5 : s'.updates = s.updates) (e6 : s'.made = s.made) (e7 : s'.expect = s.expect) (e8 : s'.vars.length = 16) (e9 : s'.attrs.length = 4)
    {Q : Heap → Prop} (q : ∀ H', VMX G H' m pf po sl F ex st s' → Q H') : Wr H ((⟨m, 0, none⟩ : Addr).add k) v Q :=
  wr_cells h.hm (by rw [mCells_len]; exact hk) (by rw [e]; exact q _ (h.set s' e1 e2 e3 e4 e5 e6 e7 e8 e9))
theorem VMX.wrSl (h : VMX G H m pf po sl F ex st s) {c : Nat} (hc : c < 14) {hn : SlH} {cs : List Value} (r : Ready F H m sl ex c hn cs) {k : Nat} (hk : k < 36) (s' : VS) (st' : List SlH) (e : (mCells pf po sl ex s).set k hn.v = mCells pf po (setH sl c hn) ex s')
    (e0 : contC (setH sl c hn) st' s' c = cs) (ec : ∀ c', c' < 14 → c' ≠ c → contC (setH sl c hn) st' s' c' = contC sl st s c') (e7 : s'.expect = s.expect) (e8 : s'.vars.length = 16) (e9 : s'.attrs.length = 4) (e10 : s'.signals.length = 8)
    (e11 : st'.length = s'.threads.length) (e12 : ∀ (j : Nat) (t : Thr) (q : SlH), s'.threads[j]? = some t → st'[j]? = some q → HasL (dif F G) q t.stack)
    {Q : Heap → Prop} (q : ∀ H', VMX G H' m pf po (setH sl c hn) F ex st' s' → Q H') : Wr H ((⟨m, 0, none⟩ : Addr).add k) hn.v Q :=
  wr_cells h.hm (by rw [mCells_len]; exact hk) (by rw [e]; exact q _ (h.setSl hc r s' st' e0 ec e7 e8 e9 e10 e11 e12))
theorem VMX.wrFut (h : VMX G H m pf po sl F ex st s) {i : Nat} {f g : Fut} (hf : s.futures[i]? = some f) {a : Addr} (ha : (sl 1).A = some a) {j : Nat} (hj : j < 6) {v : Value} (e : (futC f).set j v = futC g)
    {Q : Heap → Prop} (q : ∀ H', VMX G H' m pf po sl F ex st { s with futures := s.futures.set i g } → Q H') : Wr H ((a.add (i * 6)).add j) v Q := by
  have hi := get_lt hf
  have hcl : (contC sl st s 1).length = s.futures.length * 6 := flat_size (cells := futC) (sz := 6) (fun _ => rfl) _
  rw [add_add]
  refine h.put (c := 1) (by decide) ha (k := i * 6 + j) (by rw [hcl]; omega) { s with futures := s.futures.set i g } (flat_set (cells := futC) (sz := 6) (fun _ => rfl) s.futures i f g j v hf hj e).symm (fun c' _ hne => ?_) rfl rfl rfl h.vars h.attrs h.sigs q
  unfold contC; rw [if_neg hne, if_neg hne]
theorem VS.setDone_pos {i v k : Int} {f : Fut} (hf : s.futures[i.toNat]? = some f) (hi : 0 ≤ i) (hd : f.done = false) : s.setDone i v k = { s with futures := s.futures.set i.toNat (f.end_ v k) } := by
  unfold VS.setDone; rw [hf]; simp only; rw [if_pos (by rw [hd]; simpa using hi)]
theorem VS.setDone_neg {i v k : Int} (hi : i < 0) : s.setDone i v k = s := by
  unfold VS.setDone; split
  · rw [if_neg (by rw [Bool.and_eq_true, decide_eq_true_iff]; omega)]
  · rfl
theorem VS.setDone_done {i v k : Int} {f : Fut} (hf : s.futures[i.toNat]? = some f) (hd : f.done = true) : s.setDone i v k = s := by
  unfold VS.setDone; rw [hf]; simp only; rw [if_neg (by rw [hd]; simp)]
theorem t29 (h : VMX G H m pf po sl F ex st s) (i v k : Int) (hi : i < s.futures.length) :
    Tr Try.prog 29 #[.pointer (some ⟨m, 0, none⟩), .int .i64 i, .int .i64 v, .int .i64 k] H (fun r H' => r = .tuple #[] ∧ VMX G H' m pf po sl F ex st (s.setDone i v k)) := by
  have hl := h.futLen
  apply v29; unfold F29
  by_cases hn : i ≥ 0
  · obtain ⟨f, hf⟩ := get_some (l := s.futures) (i := i.toNat) (by omega)
    obtain ⟨a, ha, hat⟩ := h.fut hf
    have hin : (i : Int) < ((sl 1).n : Int) := by omega
    refine ⟨_, fun _ => rfl, _, _, _, fun _ => h.c24, a, fun _ => ⟨ha, hn, hin⟩, f.done, fun _ => at_one 3 hat rfl, fun e => ?_, fun e => ⟨rfl, ?_⟩⟩
    · have hd : f.done = false := by
        rw [Bool.and_eq_true] at e
        simpa using e.2
      refine ⟨_, rfl, _, _, _, h.c24, a, ⟨ha, hn, hin⟩, _, rfl, ?_⟩
      refine h.wrFut (g := { f with done := true }) hf ha (j := 3) (by decide) rfl fun H1 h1 => ⟨_, rfl, ?_⟩
      have hi' : i.toNat < s.futures.length := get_lt hf
      have hf1 : ({ s with futures := s.futures.set i.toNat { f with done := true } } : VS).futures[i.toNat]? = some { f with done := true } := by
        show (s.futures.set i.toNat _)[i.toNat]? = _
        rw [List.getElem?_set_self hi']
      refine h1.wrFut (g := { f with done := true, value := v }) hf1 ha (j := 4) (by decide) rfl fun H2 h2 => ⟨_, rfl, ?_⟩
      rw [show ({ ({ s with futures := s.futures.set i.toNat { f with done := true } } : VS) with futures := ({ s with futures := s.futures.set i.toNat { f with done := true } } : VS).futures.set i.toNat { f with done := true, value := v } } : VS) = { s with futures := s.futures.set i.toNat { f with done := true, value := v } } from by simp [List.set_set]] at h2
      have hf2 : ({ s with futures := s.futures.set i.toNat { f with done := true, value := v } } : VS).futures[i.toNat]? = some { f with done := true, value := v } := by
        show (s.futures.set i.toNat _)[i.toNat]? = _
        rw [List.getElem?_set_self hi']
      refine h2.wrFut (g := f.end_ v k) hf2 ha (j := 5) (by decide) rfl fun H3 h3 => ⟨rfl, ?_⟩
      rw [VS.setDone_pos hf hn hd]
      rw [show ({ ({ s with futures := s.futures.set i.toNat { f with done := true, value := v } } : VS) with futures := ({ s with futures := s.futures.set i.toNat { f with done := true, value := v } } : VS).futures.set i.toNat (f.end_ v k) } : VS) = { s with futures := s.futures.set i.toNat (f.end_ v k) } from by simp [List.set_set]] at h3
      exact h3
    · have hd : f.done = true := by
        rw [decide_eq_true hn] at e
        simpa using e
      rw [VS.setDone_done hf hd]; exact h
  · have e0 : decide (i ≥ (0 : Int)) = false := decide_eq_false hn
    rw [e0]
    refine ⟨⟨0, 0, none⟩, fun e => absurd e (by simp), none, 0, 0, fun e => absurd e (by simp), ⟨0, 0, none⟩, fun e => absurd e (by simp), false, fun e => absurd e (by simp), fun e => absurd e (by simp), fun _ => ⟨rfl, ?_⟩⟩
    rw [VS.setDone_neg (by omega)]; exact h
end
end Go.Proofs.Ytjmdoiakcakfoaa
set_option maxRecDepth 100000
set_option linter.unusedVariables false
namespace Go.Proofs.Ytjmdoiakcakfoaa
open Go.Ax
noncomputable def c60 : Cx := { P := Try.prog, res := [], pub := [], loops := [], quiet := [], asm := true }
def F60 (cap0 : Addr) (H : Heap) (K : Value → Heap → Prop) : Prop :=
 ∃ (A : Option Addr),
 ∃ (n : Nat),
 ∃ (c : Nat),
 At H cap0 [Value.slice A n c] ∧
 (((↑n : Int) == (0 : Int)) = true → K (Value.tuple #[Value.agg #[Value.int IntKind.i64 (0 : Int), Value.int IntKind.i64 (0 : Int), Value.int IntKind.i64 (0 : Int), Value.int IntKind.i64 (0 : Int), Value.int IntKind.i64 (0 : Int), Value.int IntKind.i64 (0 : Int), Value.int IntKind.i64 (0 : Int), Value.int IntKind.i64 (0 : Int), Value.int IntKind.i64 (0 : Int)], Value.bool false]) H) ∧
 (((↑n : Int) == (0 : Int)) = false →
 ∃ (A1 : Option Addr),
 ∃ (n1 : Nat),
 ∃ (c1 : Nat),
 At H cap0 [Value.slice A1 n1 c1] ∧
 ∃ (a : Addr),
 (A1 = some a ∧ (0 : Int) ≤ (0 : Int) ∧ (0 : Int) < (↑n1 : Int)) ∧
 ∃ (x : Int),
 ∃ (x1 : Int),
 ∃ (x2 : Int),
 ∃ (x3 : Int),
 ∃ (x4 : Int),
 ∃ (x5 : Int),
 ∃ (x6 : Int),
 ∃ (x7 : Int),
 ∃ (x8 : Int),
 At H (a.add (Int.toNat (0 : Int) * nat_lit 9)) [Value.int IntKind.i64 x, Value.int IntKind.i64 x1, Value.int IntKind.i64 x2, Value.int IntKind.i64 x3, Value.int IntKind.i64 x4, Value.int IntKind.i64 x5, Value.int IntKind.i64 x6, Value.int IntKind.i64 x7, Value.int IntKind.i64 x8] ∧
 ∃ (A2 : Option Addr),
 ∃ (n2 : Nat),
 ∃ (c2 : Nat),
 At H cap0 [Value.slice A2 n2 c2] ∧
 ((0 : Int) ≤ (1 : Int) ∧ (1 : Int) ≤ (↑n2 : Int)) ∧
 ∃ (c3 : Array Value),
 ∃ (T : TypeId),
 H cap0.block = some (Obj.cells c3 T) ∧
 cap0.spot = none ∧
 cap0.off + [Value.slice (if c2 = Int.toNat (1 : Int) then A2 else Option.map (fun (x : Addr) => x.add (Int.toNat (1 : Int) * nat_lit 9)) A2) (n2 - Int.toNat (1 : Int)) (c2 - Int.toNat (1 : Int))].length ≤ c3.size ∧
 ∀ (H1 : Heap),
 H1 = H.upd cap0.block (Obj.cells (splice c3 cap0.off [Value.slice (if c2 = Int.toNat (1 : Int) then A2 else Option.map (fun (x : Addr) => x.add (Int.toNat (1 : Int) * nat_lit 9)) A2) (n2 - Int.toNat (1 : Int)) (c2 - Int.toNat (1 : Int))]) T) → K (Value.tuple #[Value.agg #[Value.int IntKind.i64 x, Value.int IntKind.i64 x1, Value.int IntKind.i64 x2, Value.int IntKind.i64 x3, Value.int IntKind.i64 x4, Value.int IntKind.i64 x5, Value.int IntKind.i64 x6, Value.int IntKind.i64 x7, Value.int IntKind.i64 x8], Value.bool true]) H1)
theorem v60 {cap0 : Addr} {H : Heap} {K : Value → Heap → Prop} (h : F60 cap0 H K) : Tr Try.prog 60 #[.pointer (some cap0)] H K :=
  tr_of_eq (C := c60) Try.func60 (show vcFn c60 Try.f60 [.pointer (some cap0)] H K = F60 cap0 H K by kernel_rfl) h
end Go.Proofs.Ytjmdoiakcakfoaa
set_option maxRecDepth 100000
namespace Go.Proofs.Ytjmdoiakcakfoaa
open Go.Ax
section
variable {G H : Heap} {m : Nat} {pf po : SlH} {sl : Nat → SlH} {F : Heap} {ex : Value} {st : List SlH} {s : VS}
theorem VMX.setExp (h : VMX G H m pf po sl F ex st s) {l' : List Ev} {xb : Nat} {A A' : Option Addr} {n c n' c' : Nat} {T : TypeId} (q1 : ex = .func (.func 60) #[] #[.pointer (some ⟨xb, 0, none⟩)]) (q2 : H xb = some (.cells #[.slice A n c] T (0, 0))) (q3 : F xb = none) (q4 : xb ≠ m) (q5 : ∀ c, c < 14 → (sl c).blk ≠ some xb)
    (hn : n' = l'.length ∧ n' ≤ c') (hs : Src (dif F G) A' (l'.flatMap Ev.cells)) : VMX G (H.upd xb (.cells #[.slice A' n' c'] T (0, 0))) m pf po sl F ex st { s with expect := some l' } := by
  refine ⟨h.gf, ⟨fun i o ho => ?_⟩, h.fm, by rw [Heap.upd_other q4.symm]; exact h.hm, h.own, h.inj, fun c2 hc2 => (h.ok c2 hc2).mono fun b hb => Heap.upd_other fun e => q5 c2 hc2 (by rw [← e]; exact hb), h.stl, h.stk, h.vars, h.attrs, h.sigs, ⟨fun e => (by cases e), fun l2 hl2 => ?_⟩⟩
  · rw [Heap.upd_other (fun e => by subst e; rw [q3] at ho; cases ho)]; exact h.fh.sub _ _ ho
  · have e : l2 = l' := by injection hl2 with e; exact e.symm
    subst e
    exact ⟨xb, A', n', c', T, q1, Heap.upd_same, q3, q4, q5, hn, hs⟩
theorem t60 (h : VMX G H m pf po sl F ex st s) {l : List Ev} (hl : s.expect = some l) :
    ∃ all, isFn Try.prog ex [] 60 all ∧ Tr Try.prog 60 ⟨all⟩ H (fun r H' =>
      (l = [] ∧ r = .tuple #[Ev.zero.val, .bool false] ∧ H' = H) ∨ ∃ w l', l = w :: l' ∧ r = .tuple #[w.val, .bool true] ∧ VMX G H' m pf po sl F ex st { s with expect := some l' }) := by
  obtain ⟨xb, A, n, c, T, q1, q2, q3, q4, q5, ⟨q6, q8⟩, q7⟩ := h.exp.some_ l hl
  refine ⟨[.pointer (some ⟨xb, 0, none⟩)], ⟨⟨#[], _, q1, rfl⟩, rfl⟩, ?_⟩
  apply v60; unfold F60
  have hat : At H ⟨xb, 0, none⟩ [.slice A n c] := ⟨⟨_, _, _, q2, rfl, fun j v hv => by simpa using hv⟩⟩
  refine ⟨A, n, c, hat, fun e => .inl ⟨?_, rfl, rfl⟩, fun e => ?_⟩
  · have : (n : Int) = 0 := by simpa using e
    exact List.length_eq_zero_iff.1 (by omega)
  · have hn : (n : Int) ≠ 0 := by simpa using e
    obtain ⟨w, l', rfl⟩ : ∃ w l', l = w :: l' := by
      cases l with
      | nil => simp at q6; omega
      | cons w l' => exact ⟨w, l', rfl⟩
    rcases q7 with e0 | ⟨a, ha, hs⟩
    · simp [Ev.cells] at e0
    · have hs0 : At H a (w.cells ++ l'.flatMap Ev.cells) := (hs.sub dif_sub).sub h.fh
      have h9 : At H (a.add (Int.toNat 0 * 9)) w.cells := at_take 9 hs0
      refine ⟨A, n, c, hat, a, ⟨ha, by decide, by omega⟩, _, _, _, _, _, _, _, _, _, h9, A, n, c, hat, ⟨by decide, by omega⟩, _, T, q2, rfl, Nat.le_refl 1, fun H1 e1 => .inr ⟨w, l', rfl, rfl, ?_⟩⟩
      have hsp : ∀ v : Value, splice #[.slice A n c] 0 [v] = #[v] := fun v => splice_one (cs := [.slice A n c]) (k := 0) (Nat.lt_succ_self 0)
      rw [hsp] at e1
      rw [e1]
      refine h.setExp q1 q2 q3 q4 q5 ⟨by simp at q6; show n - 1 = _; omega, show n - 1 ≤ c - 1 by omega⟩ ?_
      by_cases hl' : l' = []
      · left; rw [hl']; rfl
      · right
        have : 0 < l'.length := List.length_pos_iff.2 hl'
        have hc : c ≠ Int.toNat 1 := by
          simp at q6
          show c ≠ 1
          omega
        rw [if_neg hc, ha]
        exact ⟨_, rfl, at_drop 9 hs⟩
end
end Go.Proofs.Ytjmdoiakcakfoaa
set_option maxRecDepth 100000
namespace Go.Proofs.Ytjmdoiakcakfoaa
open Go.Ax
theorem t79 (e w : Ev) (H : Heap) : Tr Try.prog 79 #[e.val, w.val] H (fun v H' => v = .bool (matchesM e w) ∧ Sub H H') := by
  apply v79; unfold F79 matchesM
  refine ⟨fun h => ⟨?_, Sub.refl _⟩, fun h => ⟨fun h2 => ⟨?_, Sub.refl _⟩, fun h2 => ⟨?_, Sub.refl _⟩⟩⟩
  · rw [if_pos (by simpa using h)]; rfl
  · rw [if_neg (by simpa using h), if_pos (by simpa using h2)]; rfl
  · rw [if_neg (by simpa using h), if_neg (by simpa using h2)]; rfl
section
variable {G H : Heap} {m : Nat} {pf po : SlH} {sl : Nat → SlH} {F : Heap} {ex : Value} {st : List SlH} {s : VS}
theorem VMX.c30 (h : VMX G H m pf po sl F ex st s) : At H ((⟨m, 0, none⟩ : Addr).add 30) [.int .i64 s.count] := h.cell rfl
theorem VMX.c22 (h : VMX G H m pf po sl F ex st s) : At H ((⟨m, 0, none⟩ : Addr).add 22) [.int .i64 s.now] := h.cell rfl
theorem VMX.c32 (h : VMX G H m pf po sl F ex st s) : At H ((⟨m, 0, none⟩ : Addr).add 32) [(sl 5).v] := h.cell rfl
theorem VMX.c34 (h : VMX G H m pf po sl F ex st s) : At H ((⟨m, 0, none⟩ : Addr).add 34) [ex] := h.cell rfl
theorem VMX.madeLen (h : VMX G H m pf po sl F ex st s) : (sl 5).n = s.made.length := by
  have := (h.ok 5 (by decide)).len
  have e : contC sl st s 5 = s.made.flatMap Ev.cells := rfl
  rw [e, flat_size (cells := Ev.cells) (sz := 9) (fun _ => rfl)] at this
  have z : szC 5 = 9 := rfl
  rw [z] at this; omega
theorem ev_one (w : Ev) : allOne w.cells = true := rfl
def VS.addE (s : VS) (w : Ev) : VS := { s with made := s.made ++ [w], over := if closeM w.kind = true then true else s.over }
def RestP (m : Nat) (w : Ev) (H : Heap) (K : Value → Heap → Prop) : Prop :=
  ∃ (A : Option Addr) (n c : Nat), At H ((⟨m, 0, none⟩ : Addr).add 32) [.slice A n c] ∧ appC 23 9 72 H A n c w.cells 1 fun A' n' c' H4 =>
    ∃ a9 : Addr, some (⟨m, 0, none⟩ : Addr) = some a9 ∧ Wr H4 (a9.add 32) (.slice A' n' c') fun H13 => ∃ b4 : Bool, (Tr Try.prog 59 #[.int .i64 w.kind] H13 fun v6 H5 => v6 = .bool b4 ∧ Sub H13 H5) ∧
      (b4 = true → ∃ a10 : Addr, some (⟨m, 0, none⟩ : Addr) = some a10 ∧ Wr H13 ((a10.add 2).add 25) (.bool true) fun H14 => K (.tuple #[.int .i64 w.id, .bool true]) H14) ∧ (b4 = false → K (.tuple #[.int .i64 w.id, .bool true]) H13)
theorem VMX.restP (h : VMX G H m pf po sl F ex st s) (w : Ev) (hm : s.made.length ≤ 100000) {K : Value → Heap → Prop} (q : ∀ H' sl', VMX G H' m pf po sl' F ex st (s.addE w) → K (.tuple #[.int .i64 w.id, .bool true]) H') : RestP m w H K := by
  have hl := h.madeLen
  refine ⟨_, _, _, h.c32, h.app (c := 5) (by decide) (new := w.cells) (k := 1) rfl (ev_one w) (by omega) (by omega) fun A' c' H4 h4 r => ⟨_, rfl, ?_⟩⟩
  have hs6 : ∀ k, setH sl 5 ⟨A', (sl 5).n + 1, c'⟩ (6 + k) = sl (6 + k) := fun k => if_neg (by omega)
  refine h4.wrSl (c := 5) (by decide) r (k := 32) (by decide) { s with made := s.made ++ [w] } st rfl ?_ (fun c2 hc2 hne => ?_) rfl h.vars h.attrs h.sigs h.stl h.stk fun H13 h13 => ⟨closeM w.kind, t59 _ _, fun e => ⟨_, rfl, ?_⟩, fun e => q H13 (setH sl 5 ⟨A', (sl 5).n + 1, c'⟩) ?_⟩
  · show (s.made ++ [w]).flatMap Ev.cells = s.made.flatMap Ev.cells ++ w.cells
    rw [List.flatMap_append]; simp
  · simp only [contC, hs6, if_neg hne]
  · refine h13.wr (k := 27) (by decide) (s.addE w) ?_ rfl rfl rfl rfl rfl rfl rfl h.vars h.attrs fun H14 h14 => q _ _ h14
    unfold VS.addE; rw [e]; rfl
  · have : s.addE w = { s with made := s.made ++ [w] } := by unfold VS.addE; rw [e]; rfl
    rw [this]; exact h13
theorem VMX.nilFn (h : VMX G H m pf po sl F ex st s) : fnNil ex s.expect.isNone := by
  refine ⟨fun e => h.exp.none_ (by simpa using e), fun e => ?_⟩
  cases hx : s.expect with
  | none => rw [hx] at e; cases e
  | some l => obtain ⟨xb, A, n, c, T, q1, -⟩ := h.exp.some_ l hx; exact ⟨_, _, _, q1⟩
theorem emit_low (h : VMX G H m pf po sl F ex st s) (e : Ev) (hc : 0 ≤ s.count) (hc2 : s.count ≤ 100000) (hm : s.made.length ≤ 100000) {K : Value → Heap → Prop}
    (hf : (s.count + 1 == 256 && !closeM e.kind) = true → Tr Try.prog 70 #[.pointer (some ⟨m, 0, none⟩), .int .i64 (-4)] H fun v H' => v = .tuple #[] ∧ K (.tuple #[.int .i64 0, .bool false]) H')
    (q : (s.count + 1 == 256 && !closeM e.kind) = false → ∀ H' sl', VMX G H' m pf po sl' F ex st (s.emit0 (s.stamp e)).2 → K (.tuple #[.int .i64 (s.emit0 (s.stamp e)).1.1, .bool (s.emit0 (s.stamp e)).1.2]) H') :
    Tr Try.prog 69 #[.pointer (some ⟨m, 0, none⟩), e.val] H K := by
  have hw : IntKind.i64.wrap (s.count + 1) = s.count + 1 := wrapi (by omega) (by omega)
  apply v69; unfold F69
  refine ⟨H, Sub.refl _, _, rfl, _, rfl, s.count, h.c30, s.now, h.c22, Sub.refl _, Sub.refl _, closeM e.kind, ?_⟩
  rw [hw]
  refine ⟨fun _ => t59 _ _, hf, fun hlow => ⟨_, rfl, ex, h.c34, s.expect.isNone, h.nilFn, fun hx => ?_, fun hx => ?_⟩⟩
  · obtain ⟨l, hl⟩ : ∃ l, s.expect = some l := by
      cases hx2 : s.expect with
      | none => rw [hx2] at hx; cases hx
      | some l => exact ⟨l, rfl⟩
    obtain ⟨all, hfn, htr⟩ := t60 h hl
    refine ⟨_, rfl, ex, h.c34, _, all, hfn, htr.mono fun v H2 k => ?_⟩
    rcases k with ⟨rfl, rfl, rfl⟩ | ⟨w, l', rfl, rfl, h2⟩
    · refine ⟨0, 0, 0, 0, 0, 0, 0, 0, 0, false, rfl, false, fun e => absurd e (by simp), fun _ => ⟨_, rfl, ?_⟩, fun e => absurd e (by simp)⟩
      refine h.wr (k := 35) (by decide) { s with drift := true } rfl rfl rfl rfl rfl rfl rfl rfl h.vars h.attrs fun H3 h3 => ⟨_, rfl, ?_⟩
      refine h3.wr (k := 27) (by decide) s.drifts rfl rfl rfl rfl rfl rfl rfl rfl h.vars h.attrs fun H4 h4 => ?_
      have := q hlow H4 sl
      unfold VS.emit0 at this
      rw [hl] at this
      exact this h4
    · have q' := q hlow
      unfold VS.emit0 at q'
      rw [hl] at q'
      simp only at q'
      refine ⟨_, _, _, _, _, _, _, _, _, true, rfl, matchesM (s.stamp e) w, fun _ => t79 (s.stamp e) w H2, fun hb => ⟨_, rfl, ?_⟩, fun hb => ?_⟩
      · have hb : matchesM (s.stamp e) w = false := by simpa using hb
        rw [if_neg (by rw [hb]; simp)] at q'
        refine h2.wr (k := 35) (by decide) { s with expect := some l', drift := true } rfl rfl rfl rfl rfl rfl rfl rfl h.vars h.attrs fun H3 h3 => ⟨_, rfl, ?_⟩
        exact h3.wr (k := 27) (by decide) ({ s with expect := some l' } : VS).drifts rfl rfl rfl rfl rfl rfl rfl rfl h.vars h.attrs fun H4 h4 => q' _ _ h4
      · have hb : matchesM (s.stamp e) w = true := by simpa using hb
        rw [if_pos hb] at q'
        refine ⟨_, rfl, s.count, h2.c30, _, rfl, ?_⟩
        rw [hw]
        refine h2.wr (k := 30) (by decide) { s with expect := some l', count := s.count + 1 } rfl rfl rfl rfl rfl rfl rfl rfl h.vars h.attrs fun H3 h3 => ⟨_, rfl, ?_, ?_⟩
        · exact h3.restP w hm fun H' sl' h' => q' _ _ h'
        · exact h3.restP w hm fun H' sl' h' => q' _ _ h'
  · have hn : s.expect = none := by simpa using hx
    have q' := q hlow
    unfold VS.emit0 at q'
    rw [hn] at q'
    simp only at q'
    refine ⟨_, rfl, s.count, h.c30, _, rfl, ?_⟩
    rw [hw]
    refine h.wr (k := 30) (by decide) { s with count := s.count + 1 } rfl rfl rfl rfl rfl rfl rfl rfl h.vars h.attrs fun H3 h3 => ⟨_, rfl, ?_, ?_⟩
    · exact h3.restP (s.stamp e) hm fun H' sl' h' => q' _ _ h'
    · exact h3.restP (s.stamp e) hm fun H' sl' h' => q' _ _ h'
theorem t70 (h : VMX G H m pf po sl F ex st s) (c : Int) (hc : 0 ≤ s.count) (hc2 : s.count ≤ 100000) (hm : s.made.length ≤ 100000) :
    Tr Try.prog 70 #[.pointer (some ⟨m, 0, none⟩), .int .i64 c] H fun v H' => v = .tuple #[] ∧ ∃ sl', VMX G H' m pf po sl' F ex st (s.fails c) := by
  apply v70; unfold F70
  exact emit_low h (evM 16 c 0 0) hc hc2 hm (fun e => absurd e (by show ¬ (_ && !closeM 16) = true; simp [closeM])) fun _ H' sl' h' => ⟨_, _, rfl, rfl, sl', h'⟩
theorem t69 (h : VMX G H m pf po sl F ex st s) (e : Ev) (hc : 0 ≤ s.count) (hc2 : s.count ≤ 100000) (hm : s.made.length ≤ 100000) :
    Tr Try.prog 69 #[.pointer (some ⟨m, 0, none⟩), e.val] H fun v H' => v = .tuple #[.int .i64 (s.emit e).1.1, .bool (s.emit e).1.2] ∧ ∃ sl', VMX G H' m pf po sl' F ex st (s.emit e).2 := by
  refine emit_low h e hc hc2 hm (fun hx => ?_) fun hx H' sl' h' => ?_
  · unfold VS.emit; rw [if_pos hx]
    exact (t70 h (-4) hc hc2 hm).mono fun v H' k => ⟨k.1, rfl, k.2⟩
  · unfold VS.emit; rw [if_neg (by rw [hx]; simp)]
    exact ⟨rfl, sl', h'⟩
end
end Go.Proofs.Ytjmdoiakcakfoaa
set_option maxRecDepth 100000
namespace Go.Ax
def onlyB (b : Nat) (o : Obj) : Heap := fun i => if i = b then some o else none
theorem onlyB_sub {b : Nat} {o : Obj} {H : Heap} (h : H b = some o) : Sub (onlyB b o) H := ⟨fun i x k => by
  unfold onlyB at k
  split at k
  · rename_i e; cases k; rw [e]; exact h
  · cases k⟩
theorem onlyB_at {b : Nat} {o : Obj} : onlyB b o b = some o := if_pos rfl
theorem at_cells {H : Heap} {b : Nat} {cs : List Value} {T : TypeId} (h : H b = some (.cells ⟨cs⟩ T (0, 0))) {k : Nat} {v : Value} (hv : cs[k]? = some v) : At H ((⟨b, 0, none⟩ : Addr).add k) [v] := by
  refine ⟨⟨_, _, _, by rw [add_block]; exact h, add_spot _ _, fun j u hj => ?_⟩⟩
  rw [add_off]
  cases j with
  | succ j => simp at hj
  | zero => simp at hj; subst hj; simpa using hv
theorem intsC_app (l k : List Int) : intsC (l ++ k) = intsC l ++ intsC k := by unfold intsC; rw [List.map_append]
theorem intsC_one : ∀ l : List Int, allOne (intsC l) = true
  | [] => rfl
  | _ :: l => intsC_one l
end Go.Ax
namespace Go.Proofs.Ytjmdoiakcakfoaa
open Go.Ax
def runC (m tb : Nat) (b : Bool) : List Value := [.pointer (some ⟨m, 0, none⟩), .pointer (some ⟨tb, 0, none⟩), .bool b]
structure RX (p : Prg) (G0 H0 G H : Heap) (m rb tb : Nat) (q : SlH) (pf po : SlH) (sl : Nat → SlH) (F : Heap) (ex : Value) (st : List SlH) (r : Rn) : Prop where
  vm : VMX G H m pf po sl F ex st r.s
  pr : HasP (dif F G) pf.A pf.n po.A po.n p
  base : Sub G0 G
  keep : Sub H0 H
  g0h : Sub G0 H0
  gr : G rb = some (.cells ⟨runC m tb r.fault⟩ 131 (0, 0))
  gt : G tb = some (.cells ⟨thrC (r.t, q)⟩ 60 (0, 0))
  r0 : H0 rb = none
  t0 : H0 tb = none
  ne : rb ≠ tb
  sq : SlOk G q 1 (intsC r.t.stack)
  oq : ∀ b, q.blk = some b → H0 b = none ∧ b ≠ rb ∧ b ≠ tb
section
variable {p : Prg} {G0 H0 G H : Heap} {m rb tb : Nat} {q : SlH} {pf po : SlH} {sl : Nat → SlH} {F : Heap} {ex : Value} {st : List SlH} {r : Rn}
theorem RX.gh (h : RX p G0 H0 G H m rb tb q pf po sl F ex st r) : Sub G H := h.vm.gf.trans h.vm.fh
theorem RX.hr (h : RX p G0 H0 G H m rb tb q pf po sl F ex st r) : H rb = some (.cells ⟨runC m tb r.fault⟩ 131 (0, 0)) := h.gh.sub _ _ h.gr
theorem RX.ht (h : RX p G0 H0 G H m rb tb q pf po sl F ex st r) : H tb = some (.cells ⟨thrC (r.t, q)⟩ 60 (0, 0)) := h.gh.sub _ _ h.gt
theorem RX.r0_ (h : RX p G0 H0 G H m rb tb q pf po sl F ex st r) : At H ((⟨rb, 0, none⟩ : Addr).add 0) [.pointer (some ⟨m, 0, none⟩)] := at_cells h.hr rfl
theorem RX.r1 (h : RX p G0 H0 G H m rb tb q pf po sl F ex st r) : At H ((⟨rb, 0, none⟩ : Addr).add 1) [.pointer (some ⟨tb, 0, none⟩)] := at_cells h.hr rfl
theorem RX.r2 (h : RX p G0 H0 G H m rb tb q pf po sl F ex st r) : At H ((⟨rb, 0, none⟩ : Addr).add 2) [.bool r.fault] := at_cells h.hr rfl
theorem RX.t3 (h : RX p G0 H0 G H m rb tb q pf po sl F ex st r) : At H ((⟨tb, 0, none⟩ : Addr).add 3) [q.v] := at_cells h.ht rfl
theorem RX.len (h : RX p G0 H0 G H m rb tb q pf po sl F ex st r) : q.n = r.t.stack.length := by
  have := h.sq.len; unfold intsC at this; rw [List.length_map] at this; omega
theorem base_upd {A B : Heap} (h : Sub A B) {b : Nat} (hb : A b = none) (y : Obj) : Sub A (B.upd b y) := ⟨fun i o k => by
  rw [Heap.upd_other (fun e => by subst e; rw [hb] at k; cases k)]; exact h.sub i o k⟩
theorem dif_turn {F G : Heap} {b : Nat} {o : Obj} (hb : G b = some o) (y : Obj) : Sub (dif F G) (dif (F.upd b y) (G.upd b y)) := dif_eq fun i hi => by
  have hne : i ≠ b := fun e => by subst e; rw [hb] at hi; cases hi
  exact ⟨Heap.upd_other hne, by rw [Heap.upd_other hne]; exact hi⟩
theorem dif_ext {F G : Heap} {b : Nat} (hF : F b = none) (o : Obj) : Sub (dif F G) (dif (F.upd b o) (G.upd b o)) := ⟨fun i x k => by
  unfold dif at k ⊢
  split at k
  · cases k
  · rename_i e
    have hne : i ≠ b := fun q => by subst q; rw [hF] at k; cases k
    rw [Heap.upd_other hne, if_neg e, Heap.upd_other hne]; exact k⟩
theorem RX.setF (h : RX p G0 H0 G H m rb tb q pf po sl F ex st r) {b : Bool} {Q : Heap → Prop} (k : ∀ G' F' H', RX p G0 H0 G' H' m rb tb q pf po sl F' ex st { r with fault := b } → Q H') : Wr H ((⟨rb, 0, none⟩ : Addr).add 2) (.bool b) Q := by
  refine wr_cells h.hr (by decide : 2 < 3) (k (G.upd rb (.cells ⟨runC m tb b⟩ 131 (0, 0))) (F.upd rb (.cells ⟨runC m tb b⟩ 131 (0, 0))) _ ⟨h.vm.turn h.gr _, h.pr.sub (dif_turn h.gr _), base_upd h.base (none_below h.g0h h.r0) _, base_upd h.keep h.r0 _, h.g0h, Heap.upd_same, by rw [Heap.upd_other h.ne.symm]; exact h.gt, h.r0, h.t0, h.ne, h.sq.mono fun b hb => Heap.upd_other (h.oq b hb).2.1, h.oq⟩)
theorem RX.setT (h : RX p G0 H0 G H m rb tb q pf po sl F ex st r) {i : Nat} (hi : i < 9) {v : Value} (t' : Thr) (q' : SlH) (e : (thrC (r.t, q)).set i v = thrC (t', q')) (sq : SlOk G q' 1 (intsC t'.stack)) (oq : ∀ b, q'.blk = some b → H0 b = none ∧ b ≠ rb ∧ b ≠ tb)
    {Q : Heap → Prop} (k : ∀ G' F' H', RX p G0 H0 G' H' m rb tb q' pf po sl F' ex st { r with t := t' } → Q H') : Wr H ((⟨tb, 0, none⟩ : Addr).add i) v Q := by
  refine wr_cells h.ht (show i < 9 from hi) ?_
  rw [e]
  exact k _ _ _ ⟨h.vm.turn h.gt _, h.pr.sub (dif_turn h.gt _), base_upd h.base (none_below h.g0h h.t0) _, base_upd h.keep h.t0 _, h.g0h, by rw [Heap.upd_other h.ne]; exact h.gr, Heap.upd_same, h.r0, h.t0, h.ne, sq.mono fun b hb => Heap.upd_other (oq b hb).2.2, oq⟩
theorem _root_.Go.Ax.SlOk.drop1 {H : Heap} {h : SlH} {l : List Int} (k : SlOk H h 1 (intsC l)) {n : Nat} (hn : n ≤ l.length) : SlOk H ⟨h.A, n, h.c⟩ 1 (intsC (l.take n)) := by
  have hl := k.len
  unfold intsC at hl
  rw [List.length_map] at hl
  have hc := k.cap
  refine ⟨by unfold intsC; simp; omega, show n ≤ h.c by omega, ?_⟩
  rcases k.at_ with ⟨a1, a2, a3⟩ | ⟨b, off, cur, T, a1, a2, a3, a4⟩
  · exact .inl ⟨a1, show n = 0 by omega, a3⟩
  · refine .inr ⟨b, off, cur, T, a1, a2, a3, fun j v hv => a4 j v ?_⟩
    unfold intsC at hv ⊢
    rw [List.getElem?_map] at hv ⊢
    rw [List.getElem?_take] at hv
    split at hv
    · exact hv
    · simp at hv
theorem t52 (h : RX p G0 H0 G H m rb tb q pf po sl F ex st r) (hb : r.t.stack.length ≤ 100000) :
    Tr Try.prog 52 #[.pointer (some ⟨rb, 0, none⟩)] H fun v H' => v = .int .i64 r.take.1 ∧ ∃ G' F' q', RX p G0 H0 G' H' m rb tb q' pf po sl F' ex st r.take.2 := by
  have hl := h.len
  apply v52; unfold F52
  refine ⟨_, rfl, _, h.r1, _, rfl, _, _, _, h.t3, fun e => ⟨_, rfl, ?_⟩, fun e => ?_⟩
  · have e : (q.n : Int) = 0 := by simpa using e
    have hn : r.t.stack = [] := List.length_eq_zero_iff.1 (by omega)
    refine h.setF (b := true) fun G' F' H' h' => ⟨?_, G', F', q, ?_⟩
    · unfold Rn.take; rw [hn]; rfl
    · unfold Rn.take; rw [hn]; exact h'
  · have e : (q.n : Int) ≠ 0 := by simpa using e
    have hw : IntKind.i64.wrap ((q.n : Int) - 1) = (q.n : Int) - 1 := wrapi (by omega) (by omega)
    have ht : ((q.n : Int) - 1).toNat = r.t.stack.length - 1 := by omega
    obtain ⟨x, hx⟩ := get_some (l := r.t.stack) (i := r.t.stack.length - 1) (by omega)
    have hlast : r.t.stack.getLast? = some x := by rw [List.getLast?_eq_getElem?]; exact hx
    have htk : r.take = (x, { r with t := { r.t with stack := r.t.stack.dropLast } }) := by unfold Rn.take; rw [hlast]
    rw [htk, hw]
    obtain ⟨a, ha, hat⟩ : ∃ a, q.A = some a ∧ At H (a.add (((q.n : Int) - 1).toNat * 1)) [.int .i64 x] := by
      rcases h.sq.src with e0 | ⟨a, ha, hat⟩
      · have := congrArg List.length e0; unfold intsC at this; simp at this; rw [this] at hl; simp at hl; omega
      · refine ⟨a, ha, ?_⟩
        rw [ht, Nat.mul_one]
        exact at_one _ (hat.sub h.gh) (by unfold intsC; rw [List.getElem?_map, hx]; rfl)
    have hcap := h.sq.cap
    have hA : (if q.c = 0 then q.A else Option.map (fun x : Addr => x.add (0 * 1)) q.A) = q.A := by
      split
      · rfl
      · cases q.A <;> rfl
    have fin : ∀ Q : Heap → Prop, (∀ H', (∃ G' F' q', RX p G0 H0 G' H' m rb tb q' pf po sl F' ex st { r with t := { r.t with stack := r.t.stack.dropLast } }) → Q H') →
        Wr H ((⟨tb, 0, none⟩ : Addr).add 3) (.slice (if q.c = 0 then q.A else Option.map (fun x : Addr => x.add (0 * 1)) q.A) (((q.n : Int) - 1).toNat - 0) (q.c - 0)) Q := fun Q k => by
      rw [hA]
      have sd := h.sq.drop1 (n := r.t.stack.length - 1) (by omega)
      rw [← List.dropLast_eq_take] at sd
      refine h.setT (i := 3) (by decide) { r.t with stack := r.t.stack.dropLast } ⟨q.A, r.t.stack.length - 1, q.c⟩ ?_ sd (fun b hb => h.oq b hb) fun G' F' H' h' => k _ ⟨G', F', _, h'⟩
      rw [ht]; rfl
    have bd : (0 : Int) ≤ (q.n : Int) - 1 ∧ (q.n : Int) - 1 ≤ (q.c : Int) := ⟨by omega, by omega⟩
    refine ⟨_, rfl, _, h.r1, _, rfl, _, _, _, h.t3, a, ⟨ha, by omega, by omega⟩, x, hat, _, rfl, _, rfl,
      ⟨_, h.r1, _, h.r1, _, rfl, _, _, _, h.t3, bd, _, rfl, fin _ fun H' k => ⟨rfl, k⟩⟩, _, h.r1, _, rfl,
      ⟨_, h.r1, _, _, _, h.t3, bd, _, rfl, fin _ fun H' k => ⟨rfl, k⟩⟩, _, _, _, h.t3, bd, _, h.r1, _, rfl, fin _ fun H' k => ⟨rfl, k⟩⟩
end
end Go.Proofs.Ytjmdoiakcakfoaa
