/- By program (axgen.py): the formulas of functions of the translation, and that each gives its function's contract. Conditions: none. -/
import Derived.Test.YtanahoejlnmfiaaProg
import Derived.Test.YtanahoejlnmfiaaAxF
set_option maxRecDepth 100000
set_option linter.unusedVariables false
namespace Go.Proofs.Ytanahoejlnmfiaa
open Go.Ax

/- tapestry/tapestryref13.Operand -/
noncomputable def c29 : Cx := { P := Try.prog, res := [], pub := [], loops := [], quiet := [] }
def F29 (op : Int) (H : Heap) (K : Value → Heap → Prop) : Prop :=
 K
 (Value.bool
 (op == (0 : Int) || op == (13 : Int) || op == (14 : Int) || op == (15 : Int) || op == (16 : Int) || op == (20 : Int) || op == (22 : Int) || op == (25 : Int) ||
 op == (26 : Int) ||
 op == (27 : Int) ||
 op == (33 : Int) ||
 op == (34 : Int)))
 H
theorem v29 {op : Int} {H : Heap} {K : Value → Heap → Prop} (h : F29 op H K) : Tr Try.prog 29 #[.int .i64 op] H K :=
  tr_of_eq (C := c29) Try.func29 (show vcFn c29 Try.f29 [.int .i64 op] H K = F29 op H K by kernel_rfl) h

/- tapestry/tapestryref13.Pure -/
noncomputable def c31 : Cx := { P := Try.prog, res := [], pub := [], loops := [], quiet := [] }
def F31 (op : Int) (H : Heap) (K : Value → Heap → Prop) : Prop :=
 K (Value.bool (decide (op ≥ (0 : Int)) && decide (op ≤ (15 : Int)) || op == (17 : Int) || op == (18 : Int) || op == (26 : Int) || op == (36 : Int) || op == (37 : Int))) H
theorem v31 {op : Int} {H : Heap} {K : Value → Heap → Prop} (h : F31 op H K) : Tr Try.prog 31 #[.int .i64 op] H K :=
  tr_of_eq (C := c31) Try.func31 (show vcFn c31 Try.f31 [.int .i64 op] H K = F31 op H K by kernel_rfl) h

/- tapestry/tapestryref13.Check -/
noncomputable def c34 : Cx := { P := Try.prog, res := [], pub := [], loops := [⟨4, [(5, .int .i64)], [2, 3, 4, 6, 26, 27, 28, 29, 30, 31, 32, 33, 34, 35, 36, 37, 38, 39, 40, 41], []⟩, ⟨10, [(7, .int .i64)], [2, 3, 4, 8, 9, 42, 43, 44, 45, 46, 47, 48, 49, 50, 51, 52, 53, 54, 55, 56, 57, 58, 59, 60, 61, 62, 63, 64, 65, 66, 67, 68, 69, 70, 71, 72, 73], []⟩, ⟨16, [(9, .int .i64)], [2, 3, 4, 8, 55, 56, 57, 58, 59, 60, 61, 62, 63, 64, 65, 66, 67, 68, 69, 70, 71, 72, 73], []⟩], quiet := [47, 48, 49] }
def F34 (pFuncsA : Option Addr) (pFuncsn pFuncsc : Nat) (pOptsA : Option Addr) (pOptsn pOptsc : Nat) (H : Heap) (K : Value → Heap → Prop) : Prop :=
 (((↑pFuncsn : Int) == (0 : Int) || decide ((↑pFuncsn : Int) > (16 : Int)) || decide ((↑pOptsn : Int) > (8 : Int))) = true →
 K (Value.tuple #[Value.int IntKind.i64 (40 : Int), Value.int IntKind.i64 (-1 : Int), Value.int IntKind.i64 (-1 : Int)]) H) ∧
 (((↑pFuncsn : Int) == (0 : Int) || decide ((↑pFuncsn : Int) > (16 : Int)) || decide ((↑pOptsn : Int) > (8 : Int))) = false →
 ∃ (Rel : Int → Heap → Prop),
 ∃ (mu : Int → Heap → Nat),
 Rel (0 : Int) H ∧
 ∀ (x : Int) (H1 : Heap),
 Rel x H1 →
 (decide (x < (↑pOptsn : Int)) = true →
 ∃ (a : Addr),
 (pOptsA = some a ∧ (0 : Int) ≤ x ∧ x < (↑pOptsn : Int)) ∧
 ∃ (x1 : Int),
 ∃ (x2 : Int),
 ∃ (x3 : Int),
 ∃ (x4 : Int),
 ∃ (x5 : Int),
 ∃ (x6 : Int),
 ∃ (x7 : Int),
 ∃ (x8 : Int),
 ∃ (x9 : Int),
 ∃ (x10 : Int),
 ∃ (x11 : Int),
 At H1 (a.add (x.toNat * nat_lit 11))
 [Value.int IntKind.i64 x1, Value.int IntKind.i64 x2, Value.int IntKind.i64 x3, Value.int IntKind.i64 x4, Value.int IntKind.i64 x5,
 Value.int IntKind.i64 x6, Value.int IntKind.i64 x7, Value.int IntKind.i64 x8, Value.int IntKind.i64 x9, Value.int IntKind.i64 x10,
 Value.int IntKind.i64 x11] ∧
 ∃ (b : Bool),
 (Tr Try.prog (47 : Nat)
 #[Value.agg
 #[Value.int IntKind.i64 x1, Value.int IntKind.i64 x2, Value.int IntKind.i64 x3, Value.int IntKind.i64 x4,
 Value.int IntKind.i64 x5, Value.int IntKind.i64 x6, Value.int IntKind.i64 x7, Value.int IntKind.i64 x8,
 Value.int IntKind.i64 x9, Value.int IntKind.i64 x10, Value.int IntKind.i64 x11]]
 H1 fun (v : Value) (H' : Heap) => v = Value.bool b ∧ Ax.Sub H1 H') ∧
 ((!b) = true →
 K (Value.tuple #[Value.int IntKind.i64 (40 : Int), Value.int IntKind.i64 (-1 : Int), Value.int IntKind.i64 x]) H1) ∧
 ((!b) = false → Rel (IntKind.i64.wrap (x + (1 : Int))) H1 ∧ mu (IntKind.i64.wrap (x + (1 : Int))) H1 < mu x H1)) ∧
 (decide (x < (↑pOptsn : Int)) = false →
 ∃ (Rel1 : Int → Heap → Prop),
 ∃ (mu1 : Int → Heap → Nat),
 Rel1 (0 : Int) H1 ∧
 ∀ (x12 : Int) (H2 : Heap),
 Rel1 x12 H2 →
 (decide (x12 < (↑pFuncsn : Int)) = true →
 ∃ (b1 : Bool),
 (Tr Try.prog (48 : Nat) #[Value.agg #[Value.slice pFuncsA pFuncsn pFuncsc, Value.slice pOptsA pOptsn pOptsc], Value.int IntKind.i64 x12] H2
 fun (v1 : Value) (H'1 : Heap) => v1 = Value.bool b1 ∧ Ax.Sub H2 H'1) ∧
 ((!b1) = true → K (Value.tuple #[Value.int IntKind.i64 (40 : Int), Value.int IntKind.i64 x12, Value.int IntKind.i64 (-1 : Int)]) H2) ∧
 ((!b1) = false →
 ∃ (Rel2 : Int → Heap → Prop),
 ∃ (mu2 : Int → Heap → Nat),
 Rel2 (0 : Int) H2 ∧
 ∀ (x13 : Int) (H3 : Heap),
 Rel2 x13 H3 →
 ∃ (a1 : Addr),
 (pFuncsA = some a1 ∧ (0 : Int) ≤ x12 ∧ x12 < (↑pFuncsn : Int)) ∧
 ∃ (A : Option Addr),
 ∃ (n : Nat),
 ∃ (c : Nat),
 At H3 ((a1.add (x12.toNat * nat_lit 3)).add (nat_lit 2)) [Value.slice A n c] ∧
 (decide (x13 < (↑n : Int)) = true →
 ∃ (b2 : Bool),
 (Tr Try.prog (49 : Nat)
 #[Value.agg #[Value.slice pFuncsA pFuncsn pFuncsc, Value.slice pOptsA pOptsn pOptsc],
 Value.int IntKind.i64 x12, Value.int IntKind.i64 x13]
 H3 fun (v2 : Value) (H'2 : Heap) => v2 = Value.bool b2 ∧ Ax.Sub H3 H'2) ∧
 ((!b2) = true →
 K (Value.tuple #[Value.int IntKind.i64 (40 : Int), Value.int IntKind.i64 x12, Value.int IntKind.i64 x13])
 H3) ∧
 ((!b2) = false →
 Rel2 (IntKind.i64.wrap (x13 + (1 : Int))) H3 ∧
 mu2 (IntKind.i64.wrap (x13 + (1 : Int))) H3 < mu2 x13 H3)) ∧
 (decide (x13 < (↑n : Int)) = false →
 Rel1 (IntKind.i64.wrap (x12 + (1 : Int))) H3 ∧ mu1 (IntKind.i64.wrap (x12 + (1 : Int))) H3 < mu1 x12 H2))) ∧
 (decide (x12 < (↑pFuncsn : Int)) = false →
 K (Value.tuple #[Value.int IntKind.i64 (0 : Int), Value.int IntKind.i64 (0 : Int), Value.int IntKind.i64 (0 : Int)]) H2)))
theorem v34 {pFuncsA : Option Addr} {pFuncsn pFuncsc : Nat} {pOptsA : Option Addr} {pOptsn pOptsc : Nat} {H : Heap} {K : Value → Heap → Prop} (h : F34 pFuncsA pFuncsn pFuncsc pOptsA pOptsn pOptsc H K) : Tr Try.prog 34 #[.agg #[.slice pFuncsA pFuncsn pFuncsc, .slice pOptsA pOptsn pOptsc]] H K :=
  tr_of_eq (C := c34) Try.func34 (show vcFn c34 Try.f34 [.agg #[.slice pFuncsA pFuncsn pFuncsc, .slice pOptsA pOptsn pOptsc]] H K = F34 pFuncsA pFuncsn pFuncsc pOptsA pOptsn pOptsc H K by kernel_rfl) h

/- tapestry/tapestryref13.Same -/
noncomputable def c35 : Cx := { P := Try.prog, res := [], pub := [], loops := [⟨4, [(5, .int .i64)], [4, 26, 27, 28, 29, 30, 31, 32, 33, 34, 35, 36, 37, 38, 39, 40, 41, 42, 43], []⟩, ⟨9, [(6, .int .i64)], [4, 7, 8, 9, 44, 45, 46, 47, 48, 49, 50, 51, 52, 53, 54, 55, 56, 57, 58, 59, 60, 61, 62, 63, 64, 65, 66, 67, 68, 69, 70, 71, 72, 73, 74, 75, 76, 77, 78, 79, 80, 81, 82, 83, 84, 85, 86, 87, 88, 89, 90, 91, 92, 93, 94, 95, 96, 97, 98, 99], []⟩, ⟨16, [(9, .int .i64)], [4, 82, 83, 84, 85, 86, 87, 88, 89, 90, 91, 92, 93, 94, 95, 96, 97, 98, 99], []⟩], quiet := [] }
def F35 (aFuncsA : Option Addr) (aFuncsn aFuncsc : Nat) (aOptsA : Option Addr) (aOptsn aOptsc : Nat) (bFuncsA : Option Addr) (bFuncsn bFuncsc : Nat) (bOptsA : Option Addr) (bOptsn bOptsc : Nat) (H : Heap) (K : Value → Heap → Prop) : Prop :=
 (((↑aFuncsn : Int) != (↑bFuncsn : Int) || (↑aOptsn : Int) != (↑bOptsn : Int)) = true → K (Value.bool false) H) ∧
 (((↑aFuncsn : Int) != (↑bFuncsn : Int) || (↑aOptsn : Int) != (↑bOptsn : Int)) = false →
 ∃ (Rel : Int → Heap → Prop),
 ∃ (mu : Int → Heap → Nat),
 Rel (0 : Int) H ∧
 ∀ (x : Int) (H1 : Heap),
 Rel x H1 →
 (decide (x < (↑aOptsn : Int)) = true →
 ∃ (a : Addr),
 (aOptsA = some a ∧ (0 : Int) ≤ x ∧ x < (↑aOptsn : Int)) ∧
 ∃ (x1 : Int),
 ∃ (x2 : Int),
 ∃ (x3 : Int),
 ∃ (x4 : Int),
 ∃ (x5 : Int),
 ∃ (x6 : Int),
 ∃ (x7 : Int),
 ∃ (x8 : Int),
 ∃ (x9 : Int),
 ∃ (x10 : Int),
 ∃ (x11 : Int),
 At H1 (a.add (x.toNat * nat_lit 11))
 [Value.int IntKind.i64 x1, Value.int IntKind.i64 x2, Value.int IntKind.i64 x3, Value.int IntKind.i64 x4, Value.int IntKind.i64 x5,
 Value.int IntKind.i64 x6, Value.int IntKind.i64 x7, Value.int IntKind.i64 x8, Value.int IntKind.i64 x9, Value.int IntKind.i64 x10,
 Value.int IntKind.i64 x11] ∧
 ∃ (a1 : Addr),
 (bOptsA = some a1 ∧ (0 : Int) ≤ x ∧ x < (↑bOptsn : Int)) ∧
 ∃ (x12 : Int),
 ∃ (x13 : Int),
 ∃ (x14 : Int),
 ∃ (x15 : Int),
 ∃ (x16 : Int),
 ∃ (x17 : Int),
 ∃ (x18 : Int),
 ∃ (x19 : Int),
 ∃ (x20 : Int),
 ∃ (x21 : Int),
 ∃ (x22 : Int),
 At H1 (a1.add (x.toNat * nat_lit 11))
 [Value.int IntKind.i64 x12, Value.int IntKind.i64 x13, Value.int IntKind.i64 x14,
 Value.int IntKind.i64 x15, Value.int IntKind.i64 x16, Value.int IntKind.i64 x17,
 Value.int IntKind.i64 x18, Value.int IntKind.i64 x19, Value.int IntKind.i64 x20,
 Value.int IntKind.i64 x21, Value.int IntKind.i64 x22] ∧
 ((!(x1 == x12 &&
 (x2 == x13 &&
 (x3 == x14 &&
 (x4 == x15 &&
 (x5 == x16 &&
 (x6 == x17 &&
 (x7 == x18 &&
 (x8 == x19 && (x9 == x20 && (x10 == x21 && (x11 == x22 && true)))))))))))) =
 true →
 K (Value.bool false) H1) ∧
 ((!(x1 == x12 &&
 (x2 == x13 &&
 (x3 == x14 &&
 (x4 == x15 &&
 (x5 == x16 &&
 (x6 == x17 &&
 (x7 == x18 &&
 (x8 == x19 && (x9 == x20 && (x10 == x21 && (x11 == x22 && true)))))))))))) =
 false →
 Rel (IntKind.i64.wrap (x + (1 : Int))) H1 ∧ mu (IntKind.i64.wrap (x + (1 : Int))) H1 < mu x H1)) ∧
 (decide (x < (↑aOptsn : Int)) = false →
 ∃ (Rel1 : Int → Heap → Prop),
 ∃ (mu1 : Int → Heap → Nat),
 Rel1 (0 : Int) H1 ∧
 ∀ (x23 : Int) (H2 : Heap),
 Rel1 x23 H2 →
 (decide (x23 < (↑aFuncsn : Int)) = true →
 ∃ (a2 : Addr),
 (aFuncsA = some a2 ∧ (0 : Int) ≤ x23 ∧ x23 < (↑aFuncsn : Int)) ∧
 ∃ (x24 : Int),
 ∃ (x25 : Int),
 ∃ (A : Option Addr),
 ∃ (n : Nat),
 ∃ (c : Nat),
 At H2 (a2.add (x23.toNat * nat_lit 3)) [Value.int IntKind.i64 x24, Value.int IntKind.i64 x25, Value.slice A n c] ∧
 ∃ (a3 : Addr),
 (bFuncsA = some a3 ∧ (0 : Int) ≤ x23 ∧ x23 < (↑bFuncsn : Int)) ∧
 ∃ (x26 : Int),
 ∃ (x27 : Int),
 ∃ (A1 : Option Addr),
 ∃ (n1 : Nat),
 ∃ (c1 : Nat),
 At H2 (a3.add (x23.toNat * nat_lit 3)) [Value.int IntKind.i64 x26, Value.int IntKind.i64 x27, Value.slice A1 n1 c1] ∧
 ((x24 != x26 || x25 != x27 || (↑n : Int) != (↑n1 : Int)) = true → K (Value.bool false) H2) ∧
 ((x24 != x26 || x25 != x27 || (↑n : Int) != (↑n1 : Int)) = false →
 ∃ (Rel2 : Int → Heap → Prop),
 ∃ (mu2 : Int → Heap → Nat),
 Rel2 (0 : Int) H2 ∧
 ∀ (x28 : Int) (H3 : Heap),
 Rel2 x28 H3 →
 (decide (x28 < (↑n : Int)) = true →
 ∃ (a4 : Addr),
 (A = some a4 ∧ (0 : Int) ≤ x28 ∧ x28 < (↑n : Int)) ∧
 ∃ (x29 : Int),
 ∃ (x30 : Int),
 At H3 (a4.add (x28.toNat * nat_lit 2))
 [Value.int IntKind.i64 x29, Value.int IntKind.i64 x30] ∧
 ∃ (a5 : Addr),
 (A1 = some a5 ∧ (0 : Int) ≤ x28 ∧ x28 < (↑n1 : Int)) ∧
 ∃ (x31 : Int),
 ∃ (x32 : Int),
 At H3 (a5.add (x28.toNat * nat_lit 2))
 [Value.int IntKind.i64 x31, Value.int IntKind.i64 x32] ∧
 ((!(x29 == x31 && (x30 == x32 && true))) = true → K (Value.bool false) H3) ∧
 ((!(x29 == x31 && (x30 == x32 && true))) = false →
 Rel2 (IntKind.i64.wrap (x28 + (1 : Int))) H3 ∧
 mu2 (IntKind.i64.wrap (x28 + (1 : Int))) H3 < mu2 x28 H3)) ∧
 (decide (x28 < (↑n : Int)) = false →
 Rel1 (IntKind.i64.wrap (x23 + (1 : Int))) H3 ∧
 mu1 (IntKind.i64.wrap (x23 + (1 : Int))) H3 < mu1 x23 H2))) ∧
 (decide (x23 < (↑aFuncsn : Int)) = false → K (Value.bool true) H2)))
theorem v35 {aFuncsA : Option Addr} {aFuncsn aFuncsc : Nat} {aOptsA : Option Addr} {aOptsn aOptsc : Nat} {bFuncsA : Option Addr} {bFuncsn bFuncsc : Nat} {bOptsA : Option Addr} {bOptsn bOptsc : Nat} {H : Heap} {K : Value → Heap → Prop} (h : F35 aFuncsA aFuncsn aFuncsc aOptsA aOptsn aOptsc bFuncsA bFuncsn bFuncsc bOptsA bOptsn bOptsc H K) : Tr Try.prog 35 #[.agg #[.slice aFuncsA aFuncsn aFuncsc, .slice aOptsA aOptsn aOptsc], .agg #[.slice bFuncsA bFuncsn bFuncsc, .slice bOptsA bOptsn bOptsc]] H K :=
  tr_of_eq (C := c35) Try.func35 (show vcFn c35 Try.f35 [.agg #[.slice aFuncsA aFuncsn aFuncsc, .slice aOptsA aOptsn aOptsc], .agg #[.slice bFuncsA bFuncsn bFuncsc, .slice bOptsA bOptsn bOptsc]] H K = F35 aFuncsA aFuncsn aFuncsc aOptsA aOptsn aOptsc bFuncsA bFuncsn bFuncsc bOptsA bOptsn bOptsc H K by kernel_rfl) h

/- tapestry/tapestryref13.Find -/
noncomputable def c37 : Cx := { P := Try.prog, res := [], pub := [], loops := [⟨2, [(7, .int .i64)], [6, 8, 9, 10, 11, 12, 13, 14, 15, 16, 17, 18, 19, 20, 21, 22, 23, 24, 25, 26, 27, 28, 29, 30, 31, 32, 33], []⟩], quiet := [] }
def F37 (pFuncsA : Option Addr) (pFuncsn pFuncsc : Nat) (pOptsA : Option Addr) (pOptsn pOptsc : Nat) (kind : Int) (name : Int) (H : Heap) (K : Value → Heap → Prop) : Prop :=
 ∃ (Rel : Int → Heap → Prop),
 ∃ (mu : Int → Heap → Nat),
 Rel (0 : Int) H ∧
 ∀ (x : Int) (H1 : Heap),
 Rel x H1 →
 (decide (x < (↑pFuncsn : Int)) = true →
 ∃ (a : Addr),
 (pFuncsA = some a ∧ (0 : Int) ≤ x ∧ x < (↑pFuncsn : Int)) ∧
 ∃ (x1 : Int),
 At H1 ((a.add (x.toNat * nat_lit 3)).add (nat_lit 0)) [Value.int IntKind.i64 x1] ∧
 ∃ (a1 : Addr),
 ((x1 == kind) = true → pFuncsA = some a1 ∧ (0 : Int) ≤ x ∧ x < (↑pFuncsn : Int)) ∧
 ∃ (x2 : Int),
 ((x1 == kind) = true → At H1 ((a1.add (x.toNat * nat_lit 3)).add (nat_lit 1)) [Value.int IntKind.i64 x2]) ∧
 ((x1 == kind && x2 == name) = true → K (Value.int IntKind.i64 x) H1) ∧
 ((x1 == kind && x2 == name) = false → Rel (IntKind.i64.wrap (x + (1 : Int))) H1 ∧ mu (IntKind.i64.wrap (x + (1 : Int))) H1 < mu x H1)) ∧
 (decide (x < (↑pFuncsn : Int)) = false → K (Value.int IntKind.i64 (-1 : Int)) H1)
theorem v37 {pFuncsA : Option Addr} {pFuncsn pFuncsc : Nat} {pOptsA : Option Addr} {pOptsn pOptsc : Nat} {kind : Int} {name : Int} {H : Heap} {K : Value → Heap → Prop} (h : F37 pFuncsA pFuncsn pFuncsc pOptsA pOptsn pOptsc kind name H K) : Tr Try.prog 37 #[.agg #[.slice pFuncsA pFuncsn pFuncsc, .slice pOptsA pOptsn pOptsc], .int .i64 kind, .int .i64 name] H K :=
  tr_of_eq (C := c37) Try.func37 (show vcFn c37 Try.f37 [.agg #[.slice pFuncsA pFuncsn pFuncsc, .slice pOptsA pOptsn pOptsc], .int .i64 kind, .int .i64 name] H K = F37 pFuncsA pFuncsn pFuncsc pOptsA pOptsn pOptsc kind name H K by kernel_rfl) h

/- tapestry/tapestryref13.options -/
noncomputable def c47 : Cx := { P := Try.prog, res := [], pub := [17], loops := [⟨3, [(4, .int .i64)], [2, 18, 19, 20, 21, 22, 23, 24, 25, 26, 27, 28, 29, 30, 31, 32, 33, 34, 35], []⟩], quiet := [] }
def F47 (oQueue : Int) (oStart : Int) (oClose : Int) (oTotal : Int) (oBeat : Int) (oFirst : Int) (oNum : Int) (oDen : Int) (oMost : Int) (oTries : Int) (oNever : Int) (H : Heap) (K : Value → Heap → Prop) : Prop :=
 ∀ (b : Nat),
 H b = none →
 ∃ (Rel : Int → Heap → Prop),
 ∃ (mu : Int → Heap → Nat),
 Rel (0 : Int)
 (H.upd b
 (Obj.cells
 #[Value.int IntKind.i64 oStart, Value.int IntKind.i64 oClose, Value.int IntKind.i64 oTotal, Value.int IntKind.i64 oBeat, Value.int IntKind.i64 oFirst,
 Value.int IntKind.i64 oMost]
 (2 : Nat))) ∧
 ∀ (x : Int) (H1 : Heap),
 Rel x H1 →
 (decide (x < (↑(6 : Nat) : Int)) = true →
 ∃ (a : Addr),
 (some ({ block := b, off := (0 : Nat) } : Addr) = some a ∧ (0 : Int) ≤ x ∧ x < (↑(6 : Nat) : Int)) ∧
 ∃ (x1 : Int),
 At H1 (a.add (x.toNat * nat_lit 1)) [Value.int IntKind.i64 x1] ∧
 ∃ (a1 : Addr),
 ((!decide (x1 < (0 : Int))) = true → some ({ block := b, off := (0 : Nat) } : Addr) = some a1 ∧ (0 : Int) ≤ x ∧ x < (↑(6 : Nat) : Int)) ∧
 ∃ (x2 : Int),
 ((!decide (x1 < (0 : Int))) = true → At H1 (a1.add (x.toNat * nat_lit 1)) [Value.int IntKind.i64 x2]) ∧
 ((decide (x1 < (0 : Int)) || decide (x2 > (1048576 : Int))) = true → K (Value.bool false) H1) ∧
 ((decide (x1 < (0 : Int)) || decide (x2 > (1048576 : Int))) = false →
 Rel (IntKind.i64.wrap (x + (1 : Int))) H1 ∧ mu (IntKind.i64.wrap (x + (1 : Int))) H1 < mu x H1)) ∧
 (decide (x < (↑(6 : Nat) : Int)) = false →
 K
 (Value.bool
 (decide (oQueue ≥ (0 : Int)) && decide (oQueue < (8 : Int)) && decide (oDen ≥ (1 : Int)) && decide (oDen ≤ (1000 : Int)) && decide (oNum ≥ oDen) &&
 decide (oNum ≤ (1000 : Int)) &&
 decide (oTries ≥ (0 : Int)) &&
 decide (oTries ≤ (1000 : Int))))
 H1)
theorem v47 {oQueue : Int} {oStart : Int} {oClose : Int} {oTotal : Int} {oBeat : Int} {oFirst : Int} {oNum : Int} {oDen : Int} {oMost : Int} {oTries : Int} {oNever : Int} {H : Heap} {K : Value → Heap → Prop} (h : F47 oQueue oStart oClose oTotal oBeat oFirst oNum oDen oMost oTries oNever H K) : Tr Try.prog 47 #[.agg #[.int .i64 oQueue, .int .i64 oStart, .int .i64 oClose, .int .i64 oTotal, .int .i64 oBeat, .int .i64 oFirst, .int .i64 oNum, .int .i64 oDen, .int .i64 oMost, .int .i64 oTries, .int .i64 oNever]] H K :=
  tr_of_eq (C := c47) Try.func47 (show vcFn c47 Try.f47 [.agg #[.int .i64 oQueue, .int .i64 oStart, .int .i64 oClose, .int .i64 oTotal, .int .i64 oBeat, .int .i64 oFirst, .int .i64 oNum, .int .i64 oDen, .int .i64 oMost, .int .i64 oTries, .int .i64 oNever]] H K = F47 oQueue oStart oClose oTotal oBeat oFirst oNum oDen oMost oTries oNever H K by kernel_rfl) h

/- tapestry/tapestryref13.named -/
noncomputable def c48 : Cx := { P := Try.prog, res := [], pub := [], loops := [⟨7, [(6, .int .i64)], [4, 57, 58, 59, 60, 61, 62, 63, 64, 65, 66, 67, 68, 69, 70, 71, 72, 73, 74, 75, 76, 77, 78, 79, 80, 81, 82, 83, 84, 85, 86], []⟩], quiet := [37] }
def F48 (pFuncsA : Option Addr) (pFuncsn pFuncsc : Nat) (pOptsA : Option Addr) (pOptsn pOptsc : Nat) (i : Int) (H : Heap) (K : Value → Heap → Prop) : Prop :=
 ∃ (a : Addr),
 (pFuncsA = some a ∧ (0 : Int) ≤ i ∧ i < (↑pFuncsn : Int)) ∧
 ∃ (x : Int),
 ∃ (x1 : Int),
 ∃ (A : Option Addr),
 ∃ (n : Nat),
 ∃ (c : Nat),
 At H (a.add (i.toNat * nat_lit 3)) [Value.int IntKind.i64 x, Value.int IntKind.i64 x1, Value.slice A n c] ∧
 ((decide (x < (0 : Int)) || decide (x > (4 : Int)) || x == (0 : Int) && i != (0 : Int) || x != (0 : Int) && i == (0 : Int)) = true → K (Value.bool false) H) ∧
 ((decide (x < (0 : Int)) || decide (x > (4 : Int)) || x == (0 : Int) && i != (0 : Int) || x != (0 : Int) && i == (0 : Int)) = false →
 ((decide (x < (2 : Int)) && x1 != (0 : Int) || decide (x1 < (0 : Int)) || decide (x1 > (7 : Int))) = true → K (Value.bool false) H) ∧
 ((decide (x < (2 : Int)) && x1 != (0 : Int) || decide (x1 < (0 : Int)) || decide (x1 > (7 : Int))) = false →
 ∃ (Rel : Int → Heap → Prop),
 ∃ (mu : Int → Heap → Nat),
 Rel (0 : Int) H ∧
 ∀ (x2 : Int) (H1 : Heap),
 Rel x2 H1 →
 (decide (x2 < i) = true →
 ∃ (a1 : Addr),
 (decide (x ≥ (2 : Int)) = true → pFuncsA = some a1 ∧ (0 : Int) ≤ x2 ∧ x2 < (↑pFuncsn : Int)) ∧
 ∃ (x3 : Int),
 (decide (x ≥ (2 : Int)) = true → At H1 ((a1.add (x2.toNat * nat_lit 3)).add (nat_lit 0)) [Value.int IntKind.i64 x3]) ∧
 ∃ (a2 : Addr),
 ((decide (x ≥ (2 : Int)) && x3 == x) = true → pFuncsA = some a2 ∧ (0 : Int) ≤ x2 ∧ x2 < (↑pFuncsn : Int)) ∧
 ∃ (x4 : Int),
 ((decide (x ≥ (2 : Int)) && x3 == x) = true →
 At H1 ((a2.add (x2.toNat * nat_lit 3)).add (nat_lit 1)) [Value.int IntKind.i64 x4]) ∧
 ((decide (x ≥ (2 : Int)) && x3 == x && x4 == x1) = true → K (Value.bool false) H1) ∧
 ((decide (x ≥ (2 : Int)) && x3 == x && x4 == x1) = false →
 Rel (IntKind.i64.wrap (x2 + (1 : Int))) H1 ∧ mu (IntKind.i64.wrap (x2 + (1 : Int))) H1 < mu x2 H1)) ∧
 (decide (x2 < i) = false →
 ∃ (x5 : Int),
 (Tr Try.prog (37 : Nat)
 #[Value.agg #[Value.slice pFuncsA pFuncsn pFuncsc, Value.slice pOptsA pOptsn pOptsc], Value.int IntKind.i64 (3 : Int),
 Value.int IntKind.i64 x1]
 H1 fun (v : Value) (H' : Heap) => v = Value.int IntKind.i64 x5 ∧ Ax.Sub H1 H') ∧
 ((x == (4 : Int) && decide (x5 < (0 : Int))) = true → K (Value.bool false) H1) ∧
 ((x == (4 : Int) && decide (x5 < (0 : Int))) = false →
 K (Value.bool (decide ((↑n : Int) ≥ (1 : Int)) && decide ((↑n : Int) ≤ (128 : Int)))) H1))))
theorem v48 {pFuncsA : Option Addr} {pFuncsn pFuncsc : Nat} {pOptsA : Option Addr} {pOptsn pOptsc : Nat} {i : Int} {H : Heap} {K : Value → Heap → Prop} (h : F48 pFuncsA pFuncsn pFuncsc pOptsA pOptsn pOptsc i H K) : Tr Try.prog 48 #[.agg #[.slice pFuncsA pFuncsn pFuncsc, .slice pOptsA pOptsn pOptsc], .int .i64 i] H K :=
  tr_of_eq (C := c48) Try.func48 (show vcFn c48 Try.f48 [.agg #[.slice pFuncsA pFuncsn pFuncsc, .slice pOptsA pOptsn pOptsc], .int .i64 i] H K = F48 pFuncsA pFuncsn pFuncsc pOptsA pOptsn pOptsc i H K by kernel_rfl) h

/- tapestry/tapestryref13.right -/
noncomputable def c49 : Cx := { P := Try.prog, res := [], pub := [], loops := [], quiet := [29, 31, 66] }
def F49 (pFuncsA : Option Addr) (pFuncsn pFuncsc : Nat) (pOptsA : Option Addr) (pOptsn pOptsc : Nat) (i : Int) (k : Int) (H : Heap) (K : Value → Heap → Prop) : Prop :=
 ∃ (a : Addr),
 (pFuncsA = some a ∧ (0 : Int) ≤ i ∧ i < (↑pFuncsn : Int)) ∧
 ∃ (x : Int),
 ∃ (x1 : Int),
 ∃ (A : Option Addr),
 ∃ (n : Nat),
 ∃ (c : Nat),
 At H (a.add (i.toNat * nat_lit 3)) [Value.int IntKind.i64 x, Value.int IntKind.i64 x1, Value.slice A n c] ∧
 ∃ (a1 : Addr),
 (A = some a1 ∧ (0 : Int) ≤ k ∧ k < (↑n : Int)) ∧
 ∃ (x2 : Int),
 ∃ (x3 : Int),
 At H (a1.add (k.toNat * nat_lit 2)) [Value.int IntKind.i64 x2, Value.int IntKind.i64 x3] ∧
 ((decide (x2 < (0 : Int)) || decide (x2 > (37 : Int))) = true → K (Value.bool false) H) ∧
 ((decide (x2 < (0 : Int)) || decide (x2 > (37 : Int))) = false →
 ∃ (x4 : Int),
 (Tr Try.prog (66 : Nat)
 #[Value.agg #[Value.slice pFuncsA pFuncsn pFuncsc, Value.slice pOptsA pOptsn pOptsc],
 Value.agg #[Value.int IntKind.i64 x, Value.int IntKind.i64 x1, Value.slice A n c], Value.int IntKind.i64 x2]
 H fun (v : Value) (H' : Heap) => v = Value.int IntKind.i64 x4 ∧ Ax.Sub H H') ∧
 ∃ (b : Bool),
 (Tr Try.prog (29 : Nat) #[Value.int IntKind.i64 x2] H fun (v1 : Value) (H'1 : Heap) => v1 = Value.bool b ∧ Ax.Sub H H'1) ∧
 ((!b && x3 != (0 : Int) || b && decide (x4 ≥ (0 : Int)) && (decide (x3 < (0 : Int)) || decide (x3 ≥ x4))) = true → K (Value.bool false) H) ∧
 ((!b && x3 != (0 : Int) || b && decide (x4 ≥ (0 : Int)) && (decide (x3 < (0 : Int)) || decide (x3 ≥ x4))) = false →
 ∃ (a2 : Addr),
 ((x2 == (27 : Int)) = true → pFuncsA = some a2 ∧ (0 : Int) ≤ x3 ∧ x3 < (↑pFuncsn : Int)) ∧
 ∃ (x5 : Int),
 ((x2 == (27 : Int)) = true → At H ((a2.add (x3.toNat * nat_lit 3)).add (nat_lit 0)) [Value.int IntKind.i64 x5]) ∧
 ((x2 == (27 : Int) && x5 != (1 : Int)) = true → K (Value.bool false) H) ∧
 ((x2 == (27 : Int) && x5 != (1 : Int)) = false →
 ∃ (b1 : Bool),
 (Tr Try.prog (31 : Nat) #[Value.int IntKind.i64 x2] H fun (v2 : Value) (H'2 : Heap) => v2 = Value.bool b1 ∧ Ax.Sub H H'2) ∧
 (((x == (2 : Int) || x == (4 : Int)) && !b1 || x2 == (35 : Int) && i != (0 : Int)) = true → K (Value.bool false) H) ∧
 (((x == (2 : Int) || x == (4 : Int)) && !b1 || x2 == (35 : Int) && i != (0 : Int)) = false →
 K
 (Value.bool
 (decide (k < IntKind.i64.wrap ((↑n : Int) - (1 : Int))) ||
 (x2 == (13 : Int) || x2 == (35 : Int) || x2 == (36 : Int) || x2 == (37 : Int))))
 H))))
theorem v49 {pFuncsA : Option Addr} {pFuncsn pFuncsc : Nat} {pOptsA : Option Addr} {pOptsn pOptsc : Nat} {i : Int} {k : Int} {H : Heap} {K : Value → Heap → Prop} (h : F49 pFuncsA pFuncsn pFuncsc pOptsA pOptsn pOptsc i k H K) : Tr Try.prog 49 #[.agg #[.slice pFuncsA pFuncsn pFuncsc, .slice pOptsA pOptsn pOptsc], .int .i64 i, .int .i64 k] H K :=
  tr_of_eq (C := c49) Try.func49 (show vcFn c49 Try.f49 [.agg #[.slice pFuncsA pFuncsn pFuncsc, .slice pOptsA pOptsn pOptsc], .int .i64 i, .int .i64 k] H K = F49 pFuncsA pFuncsn pFuncsc pOptsA pOptsn pOptsc i k H K by kernel_rfl) h

/- tapestry/tapestryref13.most -/
noncomputable def c66 : Cx := { P := Try.prog, res := [], pub := [], loops := [], quiet := [] }
def F66 (pFuncsA : Option Addr) (pFuncsn pFuncsc : Nat) (pOptsA : Option Addr) (pOptsn pOptsc : Nat) (fKind : Int) (fName : Int) (fOpsA : Option Addr) (fOpsn fOpsc : Nat) (op : Int) (H : Heap) (K : Value → Heap → Prop) : Prop :=
 ((op == (0 : Int)) = true → K (Value.int IntKind.i64 (-1 : Int)) H) ∧
 ((op == (0 : Int)) = false →
 ((op == (13 : Int)) = true →
 ((op == (13 : Int)) = true → K (Value.int IntKind.i64 (↑fOpsn : Int)) H) ∧
 ((op == (13 : Int)) = false →
 ((op == (15 : Int)) = true →
 ((op == (15 : Int)) = true → K (Value.int IntKind.i64 (16 : Int)) H) ∧
 ((op == (15 : Int)) = false →
 ((op == (20 : Int)) = true → K (Value.int IntKind.i64 (↑pOptsn : Int)) H) ∧
 ((op == (20 : Int)) = false →
 ((op == (22 : Int)) = true →
 ((op == (22 : Int)) = true → K (Value.int IntKind.i64 (8 : Int)) H) ∧
 ((op == (22 : Int)) = false →
 ((op == (27 : Int)) = true → K (Value.int IntKind.i64 (↑pFuncsn : Int)) H) ∧
 ((op == (27 : Int)) = false →
 ((op == (33 : Int)) = true → K (Value.int IntKind.i64 (4 : Int)) H) ∧ ((op == (33 : Int)) = false → K (Value.int IntKind.i64 (0 : Int)) H)))) ∧
 ((op == (22 : Int)) = false →
 ((op == (25 : Int)) = true →
 ((op == (25 : Int)) = true → K (Value.int IntKind.i64 (8 : Int)) H) ∧
 ((op == (25 : Int)) = false →
 ((op == (27 : Int)) = true → K (Value.int IntKind.i64 (↑pFuncsn : Int)) H) ∧
 ((op == (27 : Int)) = false →
 ((op == (33 : Int)) = true → K (Value.int IntKind.i64 (4 : Int)) H) ∧
 ((op == (33 : Int)) = false → K (Value.int IntKind.i64 (0 : Int)) H)))) ∧
 ((op == (25 : Int)) = false →
 ((op == (26 : Int)) = true →
 ((op == (26 : Int)) = true → K (Value.int IntKind.i64 (8 : Int)) H) ∧
 ((op == (26 : Int)) = false →
 ((op == (27 : Int)) = true → K (Value.int IntKind.i64 (↑pFuncsn : Int)) H) ∧
 ((op == (27 : Int)) = false →
 ((op == (33 : Int)) = true → K (Value.int IntKind.i64 (4 : Int)) H) ∧
 ((op == (33 : Int)) = false → K (Value.int IntKind.i64 (0 : Int)) H)))) ∧
 ((op == (26 : Int)) = false →
 ((op == (34 : Int)) = true → K (Value.int IntKind.i64 (8 : Int)) H) ∧
 ((op == (34 : Int)) = false →
 ((op == (27 : Int)) = true → K (Value.int IntKind.i64 (↑pFuncsn : Int)) H) ∧
 ((op == (27 : Int)) = false →
 ((op == (33 : Int)) = true → K (Value.int IntKind.i64 (4 : Int)) H) ∧
 ((op == (33 : Int)) = false → K (Value.int IntKind.i64 (0 : Int)) H))))))))) ∧
 ((op == (15 : Int)) = false →
 ((op == (16 : Int)) = true → K (Value.int IntKind.i64 (16 : Int)) H) ∧
 ((op == (16 : Int)) = false →
 ((op == (20 : Int)) = true → K (Value.int IntKind.i64 (↑pOptsn : Int)) H) ∧
 ((op == (20 : Int)) = false →
 ((op == (22 : Int)) = true →
 ((op == (22 : Int)) = true → K (Value.int IntKind.i64 (8 : Int)) H) ∧
 ((op == (22 : Int)) = false →
 ((op == (27 : Int)) = true → K (Value.int IntKind.i64 (↑pFuncsn : Int)) H) ∧
 ((op == (27 : Int)) = false →
 ((op == (33 : Int)) = true → K (Value.int IntKind.i64 (4 : Int)) H) ∧ ((op == (33 : Int)) = false → K (Value.int IntKind.i64 (0 : Int)) H)))) ∧
 ((op == (22 : Int)) = false →
 ((op == (25 : Int)) = true →
 ((op == (25 : Int)) = true → K (Value.int IntKind.i64 (8 : Int)) H) ∧
 ((op == (25 : Int)) = false →
 ((op == (27 : Int)) = true → K (Value.int IntKind.i64 (↑pFuncsn : Int)) H) ∧
 ((op == (27 : Int)) = false →
 ((op == (33 : Int)) = true → K (Value.int IntKind.i64 (4 : Int)) H) ∧
 ((op == (33 : Int)) = false → K (Value.int IntKind.i64 (0 : Int)) H)))) ∧
 ((op == (25 : Int)) = false →
 ((op == (26 : Int)) = true →
 ((op == (26 : Int)) = true → K (Value.int IntKind.i64 (8 : Int)) H) ∧
 ((op == (26 : Int)) = false →
 ((op == (27 : Int)) = true → K (Value.int IntKind.i64 (↑pFuncsn : Int)) H) ∧
 ((op == (27 : Int)) = false →
 ((op == (33 : Int)) = true → K (Value.int IntKind.i64 (4 : Int)) H) ∧
 ((op == (33 : Int)) = false → K (Value.int IntKind.i64 (0 : Int)) H)))) ∧
 ((op == (26 : Int)) = false →
 ((op == (34 : Int)) = true → K (Value.int IntKind.i64 (8 : Int)) H) ∧
 ((op == (34 : Int)) = false →
 ((op == (27 : Int)) = true → K (Value.int IntKind.i64 (↑pFuncsn : Int)) H) ∧
 ((op == (27 : Int)) = false →
 ((op == (33 : Int)) = true → K (Value.int IntKind.i64 (4 : Int)) H) ∧
 ((op == (33 : Int)) = false → K (Value.int IntKind.i64 (0 : Int)) H))))))))))) ∧
 ((op == (13 : Int)) = false →
 ((op == (14 : Int)) = true → K (Value.int IntKind.i64 (↑fOpsn : Int)) H) ∧
 ((op == (14 : Int)) = false →
 ((op == (15 : Int)) = true →
 ((op == (15 : Int)) = true → K (Value.int IntKind.i64 (16 : Int)) H) ∧
 ((op == (15 : Int)) = false →
 ((op == (20 : Int)) = true → K (Value.int IntKind.i64 (↑pOptsn : Int)) H) ∧
 ((op == (20 : Int)) = false →
 ((op == (22 : Int)) = true →
 ((op == (22 : Int)) = true → K (Value.int IntKind.i64 (8 : Int)) H) ∧
 ((op == (22 : Int)) = false →
 ((op == (27 : Int)) = true → K (Value.int IntKind.i64 (↑pFuncsn : Int)) H) ∧
 ((op == (27 : Int)) = false →
 ((op == (33 : Int)) = true → K (Value.int IntKind.i64 (4 : Int)) H) ∧ ((op == (33 : Int)) = false → K (Value.int IntKind.i64 (0 : Int)) H)))) ∧
 ((op == (22 : Int)) = false →
 ((op == (25 : Int)) = true →
 ((op == (25 : Int)) = true → K (Value.int IntKind.i64 (8 : Int)) H) ∧
 ((op == (25 : Int)) = false →
 ((op == (27 : Int)) = true → K (Value.int IntKind.i64 (↑pFuncsn : Int)) H) ∧
 ((op == (27 : Int)) = false →
 ((op == (33 : Int)) = true → K (Value.int IntKind.i64 (4 : Int)) H) ∧
 ((op == (33 : Int)) = false → K (Value.int IntKind.i64 (0 : Int)) H)))) ∧
 ((op == (25 : Int)) = false →
 ((op == (26 : Int)) = true →
 ((op == (26 : Int)) = true → K (Value.int IntKind.i64 (8 : Int)) H) ∧
 ((op == (26 : Int)) = false →
 ((op == (27 : Int)) = true → K (Value.int IntKind.i64 (↑pFuncsn : Int)) H) ∧
 ((op == (27 : Int)) = false →
 ((op == (33 : Int)) = true → K (Value.int IntKind.i64 (4 : Int)) H) ∧
 ((op == (33 : Int)) = false → K (Value.int IntKind.i64 (0 : Int)) H)))) ∧
 ((op == (26 : Int)) = false →
 ((op == (34 : Int)) = true → K (Value.int IntKind.i64 (8 : Int)) H) ∧
 ((op == (34 : Int)) = false →
 ((op == (27 : Int)) = true → K (Value.int IntKind.i64 (↑pFuncsn : Int)) H) ∧
 ((op == (27 : Int)) = false →
 ((op == (33 : Int)) = true → K (Value.int IntKind.i64 (4 : Int)) H) ∧
 ((op == (33 : Int)) = false → K (Value.int IntKind.i64 (0 : Int)) H))))))))) ∧
 ((op == (15 : Int)) = false →
 ((op == (16 : Int)) = true → K (Value.int IntKind.i64 (16 : Int)) H) ∧
 ((op == (16 : Int)) = false →
 ((op == (20 : Int)) = true → K (Value.int IntKind.i64 (↑pOptsn : Int)) H) ∧
 ((op == (20 : Int)) = false →
 ((op == (22 : Int)) = true →
 ((op == (22 : Int)) = true → K (Value.int IntKind.i64 (8 : Int)) H) ∧
 ((op == (22 : Int)) = false →
 ((op == (27 : Int)) = true → K (Value.int IntKind.i64 (↑pFuncsn : Int)) H) ∧
 ((op == (27 : Int)) = false →
 ((op == (33 : Int)) = true → K (Value.int IntKind.i64 (4 : Int)) H) ∧ ((op == (33 : Int)) = false → K (Value.int IntKind.i64 (0 : Int)) H)))) ∧
 ((op == (22 : Int)) = false →
 ((op == (25 : Int)) = true →
 ((op == (25 : Int)) = true → K (Value.int IntKind.i64 (8 : Int)) H) ∧
 ((op == (25 : Int)) = false →
 ((op == (27 : Int)) = true → K (Value.int IntKind.i64 (↑pFuncsn : Int)) H) ∧
 ((op == (27 : Int)) = false →
 ((op == (33 : Int)) = true → K (Value.int IntKind.i64 (4 : Int)) H) ∧
 ((op == (33 : Int)) = false → K (Value.int IntKind.i64 (0 : Int)) H)))) ∧
 ((op == (25 : Int)) = false →
 ((op == (26 : Int)) = true →
 ((op == (26 : Int)) = true → K (Value.int IntKind.i64 (8 : Int)) H) ∧
 ((op == (26 : Int)) = false →
 ((op == (27 : Int)) = true → K (Value.int IntKind.i64 (↑pFuncsn : Int)) H) ∧
 ((op == (27 : Int)) = false →
 ((op == (33 : Int)) = true → K (Value.int IntKind.i64 (4 : Int)) H) ∧
 ((op == (33 : Int)) = false → K (Value.int IntKind.i64 (0 : Int)) H)))) ∧
 ((op == (26 : Int)) = false →
 ((op == (34 : Int)) = true → K (Value.int IntKind.i64 (8 : Int)) H) ∧
 ((op == (34 : Int)) = false →
 ((op == (27 : Int)) = true → K (Value.int IntKind.i64 (↑pFuncsn : Int)) H) ∧
 ((op == (27 : Int)) = false →
 ((op == (33 : Int)) = true → K (Value.int IntKind.i64 (4 : Int)) H) ∧
 ((op == (33 : Int)) = false → K (Value.int IntKind.i64 (0 : Int)) H))))))))))))
theorem v66 {pFuncsA : Option Addr} {pFuncsn pFuncsc : Nat} {pOptsA : Option Addr} {pOptsn pOptsc : Nat} {fKind : Int} {fName : Int} {fOpsA : Option Addr} {fOpsn fOpsc : Nat} {op : Int} {H : Heap} {K : Value → Heap → Prop} (h : F66 pFuncsA pFuncsn pFuncsc pOptsA pOptsn pOptsc fKind fName fOpsA fOpsn fOpsc op H K) : Tr Try.prog 66 #[.agg #[.slice pFuncsA pFuncsn pFuncsc, .slice pOptsA pOptsn pOptsc], .agg #[.int .i64 fKind, .int .i64 fName, .slice fOpsA fOpsn fOpsc], .int .i64 op] H K :=
  tr_of_eq (C := c66) Try.func66 (show vcFn c66 Try.f66 [.agg #[.slice pFuncsA pFuncsn pFuncsc, .slice pOptsA pOptsn pOptsc], .agg #[.int .i64 fKind, .int .i64 fName, .slice fOpsA fOpsn fOpsc], .int .i64 op] H K = F66 pFuncsA pFuncsn pFuncsc pOptsA pOptsn pOptsc fKind fName fOpsA fOpsn fOpsc op H K by kernel_rfl) h

end Go.Proofs.Ytanahoejlnmfiaa
