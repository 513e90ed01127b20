/- By program (axgen.py): the formulas of functions of the translation, and that each gives its function's contract. Conditions: none. -/
import Derived.Test.YtanahoejlnmfiaaProg
import Derived.Test.YtanahoejlnmfiaaAxF
set_option maxRecDepth 100000
set_option linter.unusedVariables false
namespace Go.Proofs.Ytanahoejlnmfiaa
open Go.Ax

/- tapestry/code.Operand -/
noncomputable def c28 : Cx := { P := Try.prog, res := [], pub := [], loops := [], quiet := [], asm := true }
def F28 (op : Int) (H : Heap) (K : Value → Heap → Prop) : Prop :=
 ((op == (0 : Int)) = true → K (Value.bool true) H) ∧
 ((op == (0 : Int)) = false →
 ((op == (13 : Int)) = true → K (Value.bool true) H) ∧
 ((op == (13 : Int)) = false →
 ((op == (14 : Int)) = true → K (Value.bool true) H) ∧
 ((op == (14 : Int)) = false →
 ((op == (15 : Int)) = true → K (Value.bool true) H) ∧
 ((op == (15 : Int)) = false →
 ((op == (16 : Int)) = true → K (Value.bool true) H) ∧
 ((op == (16 : Int)) = false →
 ((op == (20 : Int)) = true → K (Value.bool true) H) ∧
 ((op == (20 : Int)) = false →
 ((op == (22 : Int)) = true → K (Value.bool true) H) ∧
 ((op == (22 : Int)) = false →
 ((op == (25 : Int)) = true → K (Value.bool true) H) ∧
 ((op == (25 : Int)) = false →
 ((op == (26 : Int)) = true → K (Value.bool true) H) ∧
 ((op == (26 : Int)) = false →
 ((op == (27 : Int)) = true → K (Value.bool true) H) ∧
 ((op == (27 : Int)) = false →
 ((op == (33 : Int)) = true → K (Value.bool true) H) ∧
 ((op == (33 : Int)) = false →
 ((op == (34 : Int)) = true → K (Value.bool true) H) ∧ ((op == (34 : Int)) = false → K (Value.bool false) H))))))))))))
theorem v28 {op : Int} {H : Heap} {K : Value → Heap → Prop} (h : F28 op H K) : Tr Try.prog 28 #[.int .i64 op] H K :=
  tr_of_eq (C := c28) Try.func28 (show vcFn c28 Try.f28 [.int .i64 op] H K = F28 op H K by kernel_rfl) h

/- tapestry/code.Pure -/
noncomputable def c30 : Cx := { P := Try.prog, res := [], pub := [], loops := [], quiet := [], asm := true }
def F30 (op : Int) (H : Heap) (K : Value → Heap → Prop) : Prop :=
 ((op == (17 : Int)) = true → K (Value.bool true) H) ∧
 ((op == (17 : Int)) = false →
 ((op == (18 : Int)) = true → K (Value.bool true) H) ∧
 ((op == (18 : Int)) = false →
 ((op == (26 : Int)) = true → K (Value.bool true) H) ∧
 ((op == (26 : Int)) = false →
 ((op == (36 : Int)) = true → K (Value.bool true) H) ∧
 ((op == (36 : Int)) = false →
 ((op == (37 : Int)) = true → K (Value.bool true) H) ∧ ((op == (37 : Int)) = false → K (Value.bool (decide (op ≥ (0 : Int)) && decide (op ≤ (15 : Int)))) H)))))
theorem v30 {op : Int} {H : Heap} {K : Value → Heap → Prop} (h : F30 op H K) : Tr Try.prog 30 #[.int .i64 op] H K :=
  tr_of_eq (C := c30) Try.func30 (show vcFn c30 Try.f30 [.int .i64 op] H K = F30 op H K by kernel_rfl) h

/- tapestry/tapestryref13.Copy -/
noncomputable def c32 : Cx := { P := Try.prog, res := [], pub := [], loops := [⟨4, [(4, .int .i64)], [5, 13, 14, 15, 16, 17, 18, 19, 20, 21, 22, 23, 24, 25, 26, 27, 28, 29, 30, 31, 32, 33, 34, 35, 36, 37, 38, 39, 40, 41, 42, 43, 44, 45, 46, 47, 48], [(2, 0, .sl)]⟩], quiet := [], draws := [⟨6, [1, 5, 7, 11], [3], true, true⟩, ⟨7, [3], [3], false, true⟩], asm := true }
def F32 (pFuncsA : Option Addr) (pFuncsn pFuncsc : Nat) (pOptsA : Option Addr) (pOptsn pOptsc : Nat) (H : Heap) (K : Value → Heap → Prop) : Prop :=
 appS (23 : Nat) (nat_lit 11) (nat_lit 88) H none (0 : Nat) (0 : Nat) pOptsA pOptsn fun (A' : Option Addr) (n' c' : Nat) (H' : Heap) =>
 ∃ (Rel : Int → Option Addr → Nat → Nat → Heap → Prop),
 ∃ (mu : Int → Option Addr → Nat → Nat → Heap → Nat),
 Rel (0 : Int) none (0 : Nat) (0 : Nat) H' ∧
 ∀ (x : Int) (A : Option Addr) (n c : Nat) (H1 : Heap),
 Rel x A n c H1 →
 (decide (x < (↑pFuncsn : Int)) = true →
 ∃ (Hs : Heap),
 Ax.Sub Hs H1 ∧
 ∃ (a : Addr),
 (pFuncsA = some a ∧ (0 : Int) ≤ x ∧ x < (↑pFuncsn : Int)) ∧
 ∃ (x1 : Int),
 At Hs ((a.add (x.toNat * nat_lit 3)).add (nat_lit 0)) [Value.int IntKind.i64 x1] ∧
 ∃ (a1 : Addr),
 (pFuncsA = some a1 ∧ (0 : Int) ≤ x ∧ x < (↑pFuncsn : Int)) ∧
 ∃ (x2 : Int),
 At Hs ((a1.add (x.toNat * nat_lit 3)).add (nat_lit 1)) [Value.int IntKind.i64 x2] ∧
 Ax.Sub Hs H1 ∧
 Ax.Sub Hs H1 ∧
 ∃ (a2 : Addr),
 (pFuncsA = some a2 ∧ (0 : Int) ≤ x ∧ x < (↑pFuncsn : Int)) ∧
 (∃ (A1 : Option Addr),
 ∃ (n1 : Nat),
 ∃ (c1 : Nat),
 At H1 ((a2.add (x.toNat * nat_lit 3)).add (nat_lit 2)) [Value.slice A1 n1 c1] ∧
 appS (67 : Nat) (nat_lit 2) (nat_lit 16) H1 none (0 : Nat) (0 : Nat) A1 n1
 fun (A'1 : Option Addr) (n'1 c'1 : Nat) (H'1 : Heap) =>
 appC (70 : Nat) (nat_lit 3) (nat_lit 40) H'1 A n c
 [Value.int IntKind.i64 x1, Value.int IntKind.i64 x2, Value.slice A'1 n'1 c'1] (1 : Nat)
 fun (A'2 : Option Addr) (n'2 c'2 : Nat) (H'2 : Heap) =>
 Rel (IntKind.i64.wrap (x + (1 : Int))) A'2 n'2 c'2 H'2 ∧
 mu (IntKind.i64.wrap (x + (1 : Int))) A'2 n'2 c'2 H'2 < mu x A n c H1) ∧
 ∃ (A2 : Option Addr),
 ∃ (n2 : Nat),
 ∃ (c2 : Nat),
 At H1 ((a2.add (x.toNat * nat_lit 3)).add (nat_lit 2)) [Value.slice A2 n2 c2] ∧
 appS (67 : Nat) (nat_lit 2) (nat_lit 16) H1 none (0 : Nat) (0 : Nat) A2 n2
 fun (A'3 : Option Addr) (n'3 c'3 : Nat) (H'3 : Heap) =>
 appC (70 : Nat) (nat_lit 3) (nat_lit 40) H'3 A n c
 [Value.int IntKind.i64 x1, Value.int IntKind.i64 x2, Value.slice A'3 n'3 c'3] (1 : Nat)
 fun (A'4 : Option Addr) (n'4 c'4 : Nat) (H'4 : Heap) =>
 Rel (IntKind.i64.wrap (x + (1 : Int))) A'4 n'4 c'4 H'4 ∧
 mu (IntKind.i64.wrap (x + (1 : Int))) A'4 n'4 c'4 H'4 < mu x A n c H1) ∧
 (decide (x < (↑pFuncsn : Int)) = false → K (Value.agg #[Value.slice A n c, Value.slice A' n' c']) H1)
theorem v32 {pFuncsA : Option Addr} {pFuncsn pFuncsc : Nat} {pOptsA : Option Addr} {pOptsn pOptsc : Nat} {H : Heap} {K : Value → Heap → Prop} (h : F32 pFuncsA pFuncsn pFuncsc pOptsA pOptsn pOptsc H K) : Tr Try.prog 32 #[.agg #[.slice pFuncsA pFuncsn pFuncsc, .slice pOptsA pOptsn pOptsc]] H K :=
  tr_of_eq (C := c32) Try.func32 (show vcFn c32 Try.f32 [.agg #[.slice pFuncsA pFuncsn pFuncsc, .slice pOptsA pOptsn pOptsc]] H K = F32 pFuncsA pFuncsn pFuncsc pOptsA pOptsn pOptsc H K by kernel_rfl) h

/- tapestry/code.Check -/
noncomputable def c33 : Cx := { P := Try.prog, res := [], pub := [], loops := [⟨4, [(31, .int .i64)], [2, 3, 4, 5, 6, 32, 33, 34, 35, 36, 37, 38, 39, 40], []⟩, ⟨11, [(7, .int .i64), (8, .int .i64), (44, .int .i64)], [9, 10, 11, 45, 46, 47, 48, 49, 50, 51, 52, 53, 54, 55, 56, 57, 58, 59, 60, 61, 62, 63, 64, 65, 66, 67, 68, 69, 70, 71, 72, 73, 74, 75, 76, 77, 78, 79, 80], []⟩, ⟨16, [(7, .int .i64), (8, .int .i64), (69, .int .i64)], [11, 70, 71, 72, 73, 74, 75, 76, 77, 78, 79], []⟩], quiet := [44, 45, 46], asm := true }
def F33 (pFuncsA : Option Addr) (pFuncsn pFuncsc : Nat) (pOptsA : Option Addr) (pOptsn pOptsc : Nat) (H : Heap) (K : Value → Heap → Prop) : Prop :=
 ((decide ((↑pFuncsn : Int) < (1 : Int)) || decide ((↑pFuncsn : Int) > (16 : Int)) || decide ((↑pOptsn : Int) > (8 : Int))) = true →
 K (Value.tuple #[Value.int IntKind.i64 (40 : Int), Value.int IntKind.i64 (-1 : Int), Value.int IntKind.i64 (-1 : Int)]) H) ∧
 ((decide ((↑pFuncsn : Int) < (1 : Int)) || decide ((↑pFuncsn : Int) > (16 : Int)) || decide ((↑pOptsn : Int) > (8 : Int))) = false →
 ∃ (Rel : Int → Heap → Prop),
 ∃ (mu : Int → Heap → Nat),
 Rel (0 : Int) H ∧
 ∀ (x : Int) (H1 : Heap),
 Rel x H1 →
 (decide (x < (↑pOptsn : Int)) = true →
 ∃ (a : Addr),
 (pOptsA = some a ∧ (0 : Int) ≤ x ∧ x < (↑pOptsn : Int)) ∧
 ∃ (x1 : Int),
 ∃ (x2 : Int),
 ∃ (x3 : Int),
 ∃ (x4 : Int),
 ∃ (x5 : Int),
 ∃ (x6 : Int),
 ∃ (x7 : Int),
 ∃ (x8 : Int),
 ∃ (x9 : Int),
 ∃ (x10 : Int),
 ∃ (x11 : Int),
 At H1 (a.add (x.toNat * nat_lit 11))
 [Value.int IntKind.i64 x1, Value.int IntKind.i64 x2, Value.int IntKind.i64 x3, Value.int IntKind.i64 x4, Value.int IntKind.i64 x5,
 Value.int IntKind.i64 x6, Value.int IntKind.i64 x7, Value.int IntKind.i64 x8, Value.int IntKind.i64 x9, Value.int IntKind.i64 x10,
 Value.int IntKind.i64 x11] ∧
 ∃ (b : Bool),
 (Tr Try.prog (44 : Nat)
 #[Value.agg
 #[Value.int IntKind.i64 x1, Value.int IntKind.i64 x2, Value.int IntKind.i64 x3, Value.int IntKind.i64 x4,
 Value.int IntKind.i64 x5, Value.int IntKind.i64 x6, Value.int IntKind.i64 x7, Value.int IntKind.i64 x8,
 Value.int IntKind.i64 x9, Value.int IntKind.i64 x10, Value.int IntKind.i64 x11]]
 H1 fun (v : Value) (H' : Heap) => v = Value.bool b ∧ Ax.Sub H1 H') ∧
 ((!b) = true →
 K (Value.tuple #[Value.int IntKind.i64 (40 : Int), Value.int IntKind.i64 (-1 : Int), Value.int IntKind.i64 x]) H1) ∧
 ((!b) = false → Rel (IntKind.i64.wrap (x + (1 : Int))) H1 ∧ mu (IntKind.i64.wrap (x + (1 : Int))) H1 < mu x H1)) ∧
 (decide (x < (↑pOptsn : Int)) = false →
 ∃ (Rel1 : Int → Int → Int → Heap → Prop),
 ∃ (mu1 : Int → Int → Int → Heap → Nat),
 Rel1 (-1 : Int) (-1 : Int) (0 : Int) H1 ∧
 ∀ (x12 x13 x14 : Int) (H2 : Heap),
 Rel1 x12 x13 x14 H2 →
 (decide (x14 < (↑pFuncsn : Int)) = true →
 ∃ (a1 : Addr),
 (pFuncsA = some a1 ∧ (0 : Int) ≤ x14 ∧ x14 < (↑pFuncsn : Int)) ∧
 ∃ (x15 : Int),
 ∃ (x16 : Int),
 ∃ (A : Option Addr),
 ∃ (n : Nat),
 ∃ (c : Nat),
 At H2 (a1.add (x14.toNat * nat_lit 3)) [Value.int IntKind.i64 x15, Value.int IntKind.i64 x16, Value.slice A n c] ∧
 ∃ (b1 : Bool),
 (Tr Try.prog (45 : Nat)
 #[Value.agg #[Value.slice pFuncsA pFuncsn pFuncsc, Value.slice pOptsA pOptsn pOptsc], Value.int IntKind.i64 x14] H2
 fun (v1 : Value) (H'1 : Heap) => v1 = Value.bool b1 ∧ Ax.Sub H2 H'1) ∧
 ((!b1 || decide ((↑n : Int) < (1 : Int)) || decide ((↑n : Int) > (128 : Int))) = true →
 (decide (x14 ≥ (0 : Int)) = true →
 K (Value.tuple #[Value.int IntKind.i64 (40 : Int), Value.int IntKind.i64 x14, Value.int IntKind.i64 x13]) H2) ∧
 (decide (x14 ≥ (0 : Int)) = false →
 K (Value.tuple #[Value.int IntKind.i64 (0 : Int), Value.int IntKind.i64 (0 : Int), Value.int IntKind.i64 (0 : Int)])
 H2)) ∧
 ((!b1 || decide ((↑n : Int) < (1 : Int)) || decide ((↑n : Int) > (128 : Int))) = false →
 ∃ (Rel2 : Int → Int → Int → Heap → Prop),
 ∃ (mu2 : Int → Int → Int → Heap → Nat),
 Rel2 x12 x13 (0 : Int) H2 ∧
 ∀ (x17 x18 x19 : Int) (H3 : Heap),
 Rel2 x17 x18 x19 H3 →
 (decide (x19 < (↑n : Int)) = true →
 ∃ (b2 : Bool),
 (Tr Try.prog (46 : Nat)
 #[Value.agg #[Value.slice pFuncsA pFuncsn pFuncsc, Value.slice pOptsA pOptsn pOptsc],
 Value.int IntKind.i64 x14, Value.int IntKind.i64 x19]
 H3 fun (v2 : Value) (H'2 : Heap) => v2 = Value.bool b2 ∧ Ax.Sub H3 H'2) ∧
 ((!b2) = true →
 (decide (x14 ≥ (0 : Int)) = true →
 K
 (Value.tuple
 #[Value.int IntKind.i64 (40 : Int), Value.int IntKind.i64 x14, Value.int IntKind.i64 x19])
 H3) ∧
 (decide (x14 ≥ (0 : Int)) = false →
 K
 (Value.tuple
 #[Value.int IntKind.i64 (0 : Int), Value.int IntKind.i64 (0 : Int),
 Value.int IntKind.i64 (0 : Int)])
 H3)) ∧
 ((!b2) = false →
 Rel2 x17 x18 (IntKind.i64.wrap (x19 + (1 : Int))) H3 ∧
 mu2 x17 x18 (IntKind.i64.wrap (x19 + (1 : Int))) H3 < mu2 x17 x18 x19 H3)) ∧
 (decide (x19 < (↑n : Int)) = false →
 Rel1 x17 x18 (IntKind.i64.wrap (x14 + (1 : Int))) H3 ∧
 mu1 x17 x18 (IntKind.i64.wrap (x14 + (1 : Int))) H3 < mu1 x12 x13 x14 H2))) ∧
 (decide (x14 < (↑pFuncsn : Int)) = false →
 (decide (x12 ≥ (0 : Int)) = true → K (Value.tuple #[Value.int IntKind.i64 (40 : Int), Value.int IntKind.i64 x12, Value.int IntKind.i64 x13]) H2) ∧
 (decide (x12 ≥ (0 : Int)) = false →
 K (Value.tuple #[Value.int IntKind.i64 (0 : Int), Value.int IntKind.i64 (0 : Int), Value.int IntKind.i64 (0 : Int)]) H2))))
theorem v33 {pFuncsA : Option Addr} {pFuncsn pFuncsc : Nat} {pOptsA : Option Addr} {pOptsn pOptsc : Nat} {H : Heap} {K : Value → Heap → Prop} (h : F33 pFuncsA pFuncsn pFuncsc pOptsA pOptsn pOptsc H K) : Tr Try.prog 33 #[.agg #[.slice pFuncsA pFuncsn pFuncsc, .slice pOptsA pOptsn pOptsc]] H K :=
  tr_of_eq (C := c33) Try.func33 (show vcFn c33 Try.f33 [.agg #[.slice pFuncsA pFuncsn pFuncsc, .slice pOptsA pOptsn pOptsc]] H K = F33 pFuncsA pFuncsn pFuncsc pOptsA pOptsn pOptsc H K by kernel_rfl) h

/- tapestry/code.Find -/
noncomputable def c36 : Cx := { P := Try.prog, res := [], pub := [], loops := [⟨2, [(12, .int .i64)], [6, 7, 8, 13, 14, 15, 16, 17, 18, 19, 20, 21, 22, 23, 24, 25, 26, 27, 28], []⟩], quiet := [], asm := true }
def F36 (pFuncsA : Option Addr) (pFuncsn pFuncsc : Nat) (pOptsA : Option Addr) (pOptsn pOptsc : Nat) (kind : Int) (name : Int) (H : Heap) (K : Value → Heap → Prop) : Prop :=
 ∃ (Rel : Int → Heap → Prop),
 ∃ (mu : Int → Heap → Nat),
 Rel (0 : Int) H ∧
 ∀ (x : Int) (H1 : Heap),
 Rel x H1 →
 (decide (x < (↑pFuncsn : Int)) = true →
 ∃ (a : Addr),
 (pFuncsA = some a ∧ (0 : Int) ≤ x ∧ x < (↑pFuncsn : Int)) ∧
 ∃ (x1 : Int),
 ∃ (x2 : Int),
 ∃ (A : Option Addr),
 ∃ (n : Nat),
 ∃ (c : Nat),
 At H1 (a.add (x.toNat * nat_lit 3)) [Value.int IntKind.i64 x1, Value.int IntKind.i64 x2, Value.slice A n c] ∧
 ((x1 == kind && x2 == name) = true → K (Value.int IntKind.i64 x) H1) ∧
 ((x1 == kind && x2 == name) = false → Rel (IntKind.i64.wrap (x + (1 : Int))) H1 ∧ mu (IntKind.i64.wrap (x + (1 : Int))) H1 < mu x H1)) ∧
 (decide (x < (↑pFuncsn : Int)) = false → K (Value.int IntKind.i64 (-1 : Int)) H1)
theorem v36 {pFuncsA : Option Addr} {pFuncsn pFuncsc : Nat} {pOptsA : Option Addr} {pOptsn pOptsc : Nat} {kind : Int} {name : Int} {H : Heap} {K : Value → Heap → Prop} (h : F36 pFuncsA pFuncsn pFuncsc pOptsA pOptsn pOptsc kind name H K) : Tr Try.prog 36 #[.agg #[.slice pFuncsA pFuncsn pFuncsc, .slice pOptsA pOptsn pOptsc], .int .i64 kind, .int .i64 name] H K :=
  tr_of_eq (C := c36) Try.func36 (show vcFn c36 Try.f36 [.agg #[.slice pFuncsA pFuncsn pFuncsc, .slice pOptsA pOptsn pOptsc], .int .i64 kind, .int .i64 name] H K = F36 pFuncsA pFuncsn pFuncsc pOptsA pOptsn pOptsc kind name H K by kernel_rfl) h

/- tapestry/tapestrylaw13.small -/
noncomputable def c43 : Cx := { P := Try.prog, res := [], pub := [3, 5], loops := [], quiet := [], asm := true }
def F43  (H : Heap) (K : Value → Heap → Prop) : Prop :=
 ∀ (b : Nat),
 H b = none →
 ∀ (H1 : Heap),
 H1 = H.upd b (Obj.cells #[Value.int IntKind.i64 (17 : Int), Value.int IntKind.i64 (0 : Int), Value.int IntKind.i64 (36 : Int), Value.int IntKind.i64 (0 : Int)] (67 : Nat)) →
 ∀ (b1 : Nat),
 H1 b1 = none →
 ∀ (H11 : Heap),
 H11 =
 H1.upd b1
 (Obj.cells #[Value.int IntKind.i64 (0 : Int), Value.int IntKind.i64 (0 : Int), Value.slice (some ({ block := b, off := (0 : Nat) } : Addr)) (2 : Nat) (2 : Nat)]
 (70 : Nat)) →
 K (Value.agg #[Value.slice (some ({ block := b1, off := (0 : Nat) } : Addr)) (1 : Nat) (1 : Nat), Value.slice none (0 : Nat) (0 : Nat)]) H11
theorem v43 {H : Heap} {K : Value → Heap → Prop} (h : F43  H K) : Tr Try.prog 43 #[] H K :=
  tr_of_eq (C := c43) Try.func43 (show vcFn c43 Try.f43 [] H K = F43  H K by kernel_rfl) h

/- tapestry/code.options -/
noncomputable def c44 : Cx := { P := Try.prog, res := [], pub := [17], loops := [⟨2, [(19, .int .i64)], [2, 4, 20, 21, 22, 23, 24, 25, 26, 27, 28, 29], []⟩], quiet := [], asm := true }
def F44 (oQueue : Int) (oStart : Int) (oClose : Int) (oTotal : Int) (oBeat : Int) (oFirst : Int) (oNum : Int) (oDen : Int) (oMost : Int) (oTries : Int) (oNever : Int) (H : Heap) (K : Value → Heap → Prop) : Prop :=
 ∀ (b : Nat),
 H b = none →
 ∀ (H1 : Heap),
 H1 =
 H.upd b
 (Obj.cells
 #[Value.int IntKind.i64 oStart, Value.int IntKind.i64 oClose, Value.int IntKind.i64 oTotal, Value.int IntKind.i64 oBeat, Value.int IntKind.i64 oFirst,
 Value.int IntKind.i64 oMost]
 (2 : Nat)) →
 ∃ (Rel : Int → Heap → Prop),
 ∃ (mu : Int → Heap → Nat),
 Rel (0 : Int) H1 ∧
 ∀ (x : Int) (H1 : Heap),
 Rel x H1 →
 (decide (x < (↑(6 : Nat) : Int)) = true →
 ∃ (a : Addr),
 (some ({ block := b, off := (0 : Nat) } : Addr) = some a ∧ (0 : Int) ≤ x ∧ x < (↑(6 : Nat) : Int)) ∧
 ∃ (x1 : Int),
 At H1 (a.add (x.toNat * nat_lit 1)) [Value.int IntKind.i64 x1] ∧
 ((decide (x1 < (0 : Int)) || decide (x1 > (1048576 : Int))) = true → K (Value.bool false) H1) ∧
 ((decide (x1 < (0 : Int)) || decide (x1 > (1048576 : Int))) = false →
 Rel (IntKind.i64.wrap (x + (1 : Int))) H1 ∧ mu (IntKind.i64.wrap (x + (1 : Int))) H1 < mu x H1)) ∧
 (decide (x < (↑(6 : Nat) : Int)) = false →
 K
 (Value.bool
 (decide (oQueue ≥ (0 : Int)) && decide (oQueue < (8 : Int)) && decide (oDen ≥ (1 : Int)) && decide (oDen ≤ (1000 : Int)) && decide (oNum ≥ oDen) &&
 decide (oNum ≤ (1000 : Int)) &&
 decide (oTries ≥ (0 : Int)) &&
 decide (oTries ≤ (1000 : Int))))
 H1)
theorem v44 {oQueue : Int} {oStart : Int} {oClose : Int} {oTotal : Int} {oBeat : Int} {oFirst : Int} {oNum : Int} {oDen : Int} {oMost : Int} {oTries : Int} {oNever : Int} {H : Heap} {K : Value → Heap → Prop} (h : F44 oQueue oStart oClose oTotal oBeat oFirst oNum oDen oMost oTries oNever H K) : Tr Try.prog 44 #[.agg #[.int .i64 oQueue, .int .i64 oStart, .int .i64 oClose, .int .i64 oTotal, .int .i64 oBeat, .int .i64 oFirst, .int .i64 oNum, .int .i64 oDen, .int .i64 oMost, .int .i64 oTries, .int .i64 oNever]] H K :=
  tr_of_eq (C := c44) Try.func44 (show vcFn c44 Try.f44 [.agg #[.int .i64 oQueue, .int .i64 oStart, .int .i64 oClose, .int .i64 oTotal, .int .i64 oBeat, .int .i64 oFirst, .int .i64 oNum, .int .i64 oDen, .int .i64 oMost, .int .i64 oTries, .int .i64 oNever]] H K = F44 oQueue oStart oClose oTotal oBeat oFirst oNum oDen oMost oTries oNever H K by kernel_rfl) h

/- tapestry/code.named -/
noncomputable def c45 : Cx := { P := Try.prog, res := [], pub := [], loops := [], quiet := [36], asm := true }
def F45 (pFuncsA : Option Addr) (pFuncsn pFuncsc : Nat) (pOptsA : Option Addr) (pOptsn pOptsc : Nat) (i : Int) (H : Heap) (K : Value → Heap → Prop) : Prop :=
 ∃ (a : Addr),
 (pFuncsA = some a ∧ (0 : Int) ≤ i ∧ i < (↑pFuncsn : Int)) ∧
 ∃ (x : Int),
 ∃ (x1 : Int),
 ∃ (A : Option Addr),
 ∃ (n : Nat),
 ∃ (c : Nat),
 At H (a.add (i.toNat * nat_lit 3)) [Value.int IntKind.i64 x, Value.int IntKind.i64 x1, Value.slice A n c] ∧
 ((decide (x < (0 : Int)) || decide (x > (4 : Int)) || !(x == (0 : Int)) == (i == (0 : Int))) = true → K (Value.bool false) H) ∧
 ((decide (x < (0 : Int)) || decide (x > (4 : Int)) || !(x == (0 : Int)) == (i == (0 : Int))) = false →
 (decide (x ≤ (1 : Int)) = true → K (Value.bool (x1 == (0 : Int))) H) ∧
 (decide (x ≤ (1 : Int)) = false →
 ∃ (x2 : Int),
 ((!(decide (x1 < (0 : Int)) || decide (x1 ≥ (8 : Int)))) = true →
 Tr Try.prog (36 : Nat)
 #[Value.agg #[Value.slice pFuncsA pFuncsn pFuncsc, Value.slice pOptsA pOptsn pOptsc], Value.int IntKind.i64 x, Value.int IntKind.i64 x1] H
 fun (v : Value) (H' : Heap) => v = Value.int IntKind.i64 x2 ∧ Ax.Sub H H') ∧
 ((decide (x1 < (0 : Int)) || decide (x1 ≥ (8 : Int)) || x2 != i) = true → K (Value.bool false) H) ∧
 ((decide (x1 < (0 : Int)) || decide (x1 ≥ (8 : Int)) || x2 != i) = false →
 ∃ (x3 : Int),
 ((!x != (4 : Int)) = true →
 Tr Try.prog (36 : Nat)
 #[Value.agg #[Value.slice pFuncsA pFuncsn pFuncsc, Value.slice pOptsA pOptsn pOptsc], Value.int IntKind.i64 (3 : Int),
 Value.int IntKind.i64 x1]
 H fun (v1 : Value) (H'1 : Heap) => v1 = Value.int IntKind.i64 x3 ∧ Ax.Sub H H'1) ∧
 K (Value.bool (x != (4 : Int) || decide (x3 ≥ (0 : Int)))) H)))
theorem v45 {pFuncsA : Option Addr} {pFuncsn pFuncsc : Nat} {pOptsA : Option Addr} {pOptsn pOptsc : Nat} {i : Int} {H : Heap} {K : Value → Heap → Prop} (h : F45 pFuncsA pFuncsn pFuncsc pOptsA pOptsn pOptsc i H K) : Tr Try.prog 45 #[.agg #[.slice pFuncsA pFuncsn pFuncsc, .slice pOptsA pOptsn pOptsc], .int .i64 i] H K :=
  tr_of_eq (C := c45) Try.func45 (show vcFn c45 Try.f45 [.agg #[.slice pFuncsA pFuncsn pFuncsc, .slice pOptsA pOptsn pOptsc], .int .i64 i] H K = F45 pFuncsA pFuncsn pFuncsc pOptsA pOptsn pOptsc i H K by kernel_rfl) h

/- tapestry/code.instruction -/
noncomputable def c46 : Cx := { P := Try.prog, res := [], pub := [], loops := [], quiet := [30, 64, 65], asm := true }
def F46 (pFuncsA : Option Addr) (pFuncsn pFuncsc : Nat) (pOptsA : Option Addr) (pOptsn pOptsc : Nat) (i : Int) (k : Int) (H : Heap) (K : Value → Heap → Prop) : Prop :=
 ∃ (a : Addr),
 (pFuncsA = some a ∧ (0 : Int) ≤ i ∧ i < (↑pFuncsn : Int)) ∧
 ∃ (x : Int),
 ∃ (x1 : Int),
 ∃ (A : Option Addr),
 ∃ (n : Nat),
 ∃ (c : Nat),
 At H (a.add (i.toNat * nat_lit 3)) [Value.int IntKind.i64 x, Value.int IntKind.i64 x1, Value.slice A n c] ∧
 ∃ (a1 : Addr),
 (A = some a1 ∧ (0 : Int) ≤ k ∧ k < (↑n : Int)) ∧
 ∃ (x2 : Int),
 ∃ (x3 : Int),
 At H (a1.add (k.toNat * nat_lit 2)) [Value.int IntKind.i64 x2, Value.int IntKind.i64 x3] ∧
 ∃ (b : Bool),
 ((!(decide (x2 < (0 : Int)) || decide (x2 > (37 : Int)))) = true →
 Tr Try.prog (64 : Nat)
 #[Value.agg #[Value.slice pFuncsA pFuncsn pFuncsc, Value.slice pOptsA pOptsn pOptsc],
 Value.agg #[Value.int IntKind.i64 x, Value.int IntKind.i64 x1, Value.slice A n c],
 Value.agg #[Value.int IntKind.i64 x2, Value.int IntKind.i64 x3]]
 H fun (v : Value) (H' : Heap) => v = Value.bool b ∧ Ax.Sub H H') ∧
 ((decide (x2 < (0 : Int)) || decide (x2 > (37 : Int)) || !b) = true → K (Value.bool false) H) ∧
 ((decide (x2 < (0 : Int)) || decide (x2 > (37 : Int)) || !b) = false →
 ∃ (b1 : Bool),
 ((x == (2 : Int) || x == (4 : Int)) = true →
 Tr Try.prog (30 : Nat) #[Value.int IntKind.i64 x2] H fun (v1 : Value) (H'1 : Heap) => v1 = Value.bool b1 ∧ Ax.Sub H H'1) ∧
 (((x == (2 : Int) || x == (4 : Int)) && !b1) = true → K (Value.bool false) H) ∧
 (((x == (2 : Int) || x == (4 : Int)) && !b1) = false →
 ((x2 == (35 : Int) && i != (0 : Int)) = true → K (Value.bool false) H) ∧
 ((x2 == (35 : Int) && i != (0 : Int)) = false →
 ∃ (b2 : Bool),
 ((!decide (k < IntKind.i64.wrap ((↑n : Int) - (1 : Int)))) = true →
 Tr Try.prog (65 : Nat) #[Value.int IntKind.i64 x2] H fun (v2 : Value) (H'2 : Heap) => v2 = Value.bool b2 ∧ Ax.Sub H H'2) ∧
 K (Value.bool (decide (k < IntKind.i64.wrap ((↑n : Int) - (1 : Int))) || b2)) H)))
theorem v46 {pFuncsA : Option Addr} {pFuncsn pFuncsc : Nat} {pOptsA : Option Addr} {pOptsn pOptsc : Nat} {i : Int} {k : Int} {H : Heap} {K : Value → Heap → Prop} (h : F46 pFuncsA pFuncsn pFuncsc pOptsA pOptsn pOptsc i k H K) : Tr Try.prog 46 #[.agg #[.slice pFuncsA pFuncsn pFuncsc, .slice pOptsA pOptsn pOptsc], .int .i64 i, .int .i64 k] H K :=
  tr_of_eq (C := c46) Try.func46 (show vcFn c46 Try.f46 [.agg #[.slice pFuncsA pFuncsn pFuncsc, .slice pOptsA pOptsn pOptsc], .int .i64 i, .int .i64 k] H K = F46 pFuncsA pFuncsn pFuncsc pOptsA pOptsn pOptsc i k H K by kernel_rfl) h

/- tapestry/code.operand -/
noncomputable def c64 : Cx := { P := Try.prog, res := [], pub := [], loops := [], quiet := [72], asm := true }
def F64 (pFuncsA : Option Addr) (pFuncsn pFuncsc : Nat) (pOptsA : Option Addr) (pOptsn pOptsc : Nat) (fKind : Int) (fName : Int) (fOpsA : Option Addr) (fOpsn fOpsc : Nat) (oCode : Int) (oA : Int) (H : Heap) (K : Value → Heap → Prop) : Prop :=
 ((oCode == (0 : Int)) = true → K (Value.bool true) H) ∧
 ((oCode == (0 : Int)) = false →
 ((oCode == (13 : Int)) = true →
 ∃ (b : Bool),
 (Tr Try.prog (72 : Nat) #[Value.int IntKind.i64 oA, Value.int IntKind.i64 (↑fOpsn : Int)] H fun (v : Value) (H' : Heap) => v = Value.bool b ∧ Ax.Sub H H') ∧
 K (Value.bool b) H) ∧
 ((oCode == (13 : Int)) = false →
 ((oCode == (14 : Int)) = true →
 ∃ (b1 : Bool),
 (Tr Try.prog (72 : Nat) #[Value.int IntKind.i64 oA, Value.int IntKind.i64 (↑fOpsn : Int)] H fun (v1 : Value) (H'1 : Heap) => v1 = Value.bool b1 ∧ Ax.Sub H H'1) ∧
 K (Value.bool b1) H) ∧
 ((oCode == (14 : Int)) = false →
 ((oCode == (15 : Int)) = true →
 ∃ (b2 : Bool),
 (Tr Try.prog (72 : Nat) #[Value.int IntKind.i64 oA, Value.int IntKind.i64 (16 : Int)] H fun (v2 : Value) (H'2 : Heap) => v2 = Value.bool b2 ∧ Ax.Sub H H'2) ∧
 K (Value.bool b2) H) ∧
 ((oCode == (15 : Int)) = false →
 ((oCode == (16 : Int)) = true →
 ∃ (b3 : Bool),
 (Tr Try.prog (72 : Nat) #[Value.int IntKind.i64 oA, Value.int IntKind.i64 (16 : Int)] H fun (v3 : Value) (H'3 : Heap) => v3 = Value.bool b3 ∧ Ax.Sub H H'3) ∧
 K (Value.bool b3) H) ∧
 ((oCode == (16 : Int)) = false →
 ((oCode == (20 : Int)) = true →
 ∃ (b4 : Bool),
 (Tr Try.prog (72 : Nat) #[Value.int IntKind.i64 oA, Value.int IntKind.i64 (↑pOptsn : Int)] H fun (v4 : Value) (H'4 : Heap) =>
 v4 = Value.bool b4 ∧ Ax.Sub H H'4) ∧
 K (Value.bool b4) H) ∧
 ((oCode == (20 : Int)) = false →
 ((oCode == (22 : Int)) = true →
 ∃ (b5 : Bool),
 (Tr Try.prog (72 : Nat) #[Value.int IntKind.i64 oA, Value.int IntKind.i64 (8 : Int)] H fun (v5 : Value) (H'5 : Heap) =>
 v5 = Value.bool b5 ∧ Ax.Sub H H'5) ∧
 K (Value.bool b5) H) ∧
 ((oCode == (22 : Int)) = false →
 ((oCode == (25 : Int)) = true →
 ∃ (b6 : Bool),
 (Tr Try.prog (72 : Nat) #[Value.int IntKind.i64 oA, Value.int IntKind.i64 (8 : Int)] H fun (v6 : Value) (H'6 : Heap) =>
 v6 = Value.bool b6 ∧ Ax.Sub H H'6) ∧
 K (Value.bool b6) H) ∧
 ((oCode == (25 : Int)) = false →
 ((oCode == (26 : Int)) = true →
 ∃ (b7 : Bool),
 (Tr Try.prog (72 : Nat) #[Value.int IntKind.i64 oA, Value.int IntKind.i64 (8 : Int)] H fun (v7 : Value) (H'7 : Heap) =>
 v7 = Value.bool b7 ∧ Ax.Sub H H'7) ∧
 K (Value.bool b7) H) ∧
 ((oCode == (26 : Int)) = false →
 ((oCode == (34 : Int)) = true →
 ∃ (b8 : Bool),
 (Tr Try.prog (72 : Nat) #[Value.int IntKind.i64 oA, Value.int IntKind.i64 (8 : Int)] H fun (v8 : Value) (H'8 : Heap) =>
 v8 = Value.bool b8 ∧ Ax.Sub H H'8) ∧
 K (Value.bool b8) H) ∧
 ((oCode == (34 : Int)) = false →
 ((oCode == (27 : Int)) = true →
 ∃ (b9 : Bool),
 (Tr Try.prog (72 : Nat) #[Value.int IntKind.i64 oA, Value.int IntKind.i64 (↑pFuncsn : Int)] H fun (v9 : Value) (H'9 : Heap) =>
 v9 = Value.bool b9 ∧ Ax.Sub H H'9) ∧
 ∃ (a : Addr),
 (b9 = true → pFuncsA = some a ∧ (0 : Int) ≤ oA ∧ oA < (↑pFuncsn : Int)) ∧
 ∃ (x : Int),
 (b9 = true → At H ((a.add (oA.toNat * nat_lit 3)).add (nat_lit 0)) [Value.int IntKind.i64 x]) ∧
 K (Value.bool (b9 && x == (1 : Int))) H) ∧
 ((oCode == (27 : Int)) = false →
 ((oCode == (33 : Int)) = true →
 ∃ (b10 : Bool),
 (Tr Try.prog (72 : Nat) #[Value.int IntKind.i64 oA, Value.int IntKind.i64 (4 : Int)] H fun (v10 : Value) (H'10 : Heap) =>
 v10 = Value.bool b10 ∧ Ax.Sub H H'10) ∧
 K (Value.bool b10) H) ∧
 ((oCode == (33 : Int)) = false → K (Value.bool (oA == (0 : Int))) H))))))))))))
theorem v64 {pFuncsA : Option Addr} {pFuncsn pFuncsc : Nat} {pOptsA : Option Addr} {pOptsn pOptsc : Nat} {fKind : Int} {fName : Int} {fOpsA : Option Addr} {fOpsn fOpsc : Nat} {oCode : Int} {oA : Int} {H : Heap} {K : Value → Heap → Prop} (h : F64 pFuncsA pFuncsn pFuncsc pOptsA pOptsn pOptsc fKind fName fOpsA fOpsn fOpsc oCode oA H K) : Tr Try.prog 64 #[.agg #[.slice pFuncsA pFuncsn pFuncsc, .slice pOptsA pOptsn pOptsc], .agg #[.int .i64 fKind, .int .i64 fName, .slice fOpsA fOpsn fOpsc], .agg #[.int .i64 oCode, .int .i64 oA]] H K :=
  tr_of_eq (C := c64) Try.func64 (show vcFn c64 Try.f64 [.agg #[.slice pFuncsA pFuncsn pFuncsc, .slice pOptsA pOptsn pOptsc], .agg #[.int .i64 fKind, .int .i64 fName, .slice fOpsA fOpsn fOpsc], .agg #[.int .i64 oCode, .int .i64 oA]] H K = F64 pFuncsA pFuncsn pFuncsc pOptsA pOptsn pOptsc fKind fName fOpsA fOpsn fOpsc oCode oA H K by kernel_rfl) h

/- tapestry/code.ends -/
noncomputable def c65 : Cx := { P := Try.prog, res := [], pub := [], loops := [], quiet := [], asm := true }
def F65 (op : Int) (H : Heap) (K : Value → Heap → Prop) : Prop :=
 K (Value.bool (op == (13 : Int) || op == (35 : Int) || op == (36 : Int) || op == (37 : Int))) H
theorem v65 {op : Int} {H : Heap} {K : Value → Heap → Prop} (h : F65 op H K) : Tr Try.prog 65 #[.int .i64 op] H K :=
  tr_of_eq (C := c65) Try.func65 (show vcFn c65 Try.f65 [.int .i64 op] H K = F65 op H K by kernel_rfl) h

/- tapestry/code.within -/
noncomputable def c72 : Cx := { P := Try.prog, res := [], pub := [], loops := [], quiet := [], asm := true }
def F72 (a : Int) (n : Int) (H : Heap) (K : Value → Heap → Prop) : Prop :=
 K (Value.bool (decide (a ≥ (0 : Int)) && decide (a < n))) H
theorem v72 {a : Int} {n : Int} {H : Heap} {K : Value → Heap → Prop} (h : F72 a n H K) : Tr Try.prog 72 #[.int .i64 a, .int .i64 n] H K :=
  tr_of_eq (C := c72) Try.func72 (show vcFn c72 Try.f72 [.int .i64 a, .int .i64 n] H K = F72 a n H K by kernel_rfl) h

end Go.Proofs.Ytanahoejlnmfiaa
