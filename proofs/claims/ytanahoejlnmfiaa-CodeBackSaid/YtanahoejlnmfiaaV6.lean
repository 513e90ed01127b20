/- By program (axgen.py): the formulas of functions of the translation, and that each gives its function's contract. Conditions: none. -/
import Derived.Test.YtanahoejlnmfiaaProg
import Derived.Test.YtanahoejlnmfiaaAxF
set_option maxRecDepth 100000
set_option linter.unusedVariables false
namespace Go.Proofs.Ytanahoejlnmfiaa
open Go.Ax

/- tapestry/tapestrylaw13.CodeKinds -/
noncomputable def c7 : Cx := { P := Try.prog, res := [], pub := [], loops := [], quiet := [27, 28, 29, 30, 31], asm := true }
def F7 (op : Int) (H : Heap) (K : Value → Heap → Prop) : Prop :=
 ∃ (b : Bool),
 (Tr Try.prog (27 : Nat) #[] H fun (v : Value) (H' : Heap) => v = Value.bool b ∧ Ax.Sub H H') ∧
 ∃ (b1 : Bool),
 (Tr Try.prog (28 : Nat) #[Value.int IntKind.i64 op] H fun (v1 : Value) (H'1 : Heap) => v1 = Value.bool b1 ∧ Ax.Sub H H'1) ∧
 ∃ (b2 : Bool),
 (Tr Try.prog (29 : Nat) #[Value.int IntKind.i64 op] H fun (v2 : Value) (H'2 : Heap) => v2 = Value.bool b2 ∧ Ax.Sub H H'2) ∧
 ∃ (b3 : Bool),
 (Tr Try.prog (30 : Nat) #[Value.int IntKind.i64 op] H fun (v3 : Value) (H'3 : Heap) => v3 = Value.bool b3 ∧ Ax.Sub H H'3) ∧
 ∃ (b4 : Bool),
 (Tr Try.prog (31 : Nat) #[Value.int IntKind.i64 op] H fun (v4 : Value) (H'4 : Heap) => v4 = Value.bool b4 ∧ Ax.Sub H H'4) ∧
 K (Value.bool (b && b1 == b2 && b3 == b4)) H
theorem v7 {op : Int} {H : Heap} {K : Value → Heap → Prop} (h : F7 op H K) : Tr Try.prog 7 #[.int .i64 op] H K :=
  tr_of_eq (C := c7) Try.func7 (show vcFn c7 Try.f7 [.int .i64 op] H K = F7 op H K by kernel_rfl) h

/- tapestry/tapestrylaw13.CodeChecks -/
noncomputable def c8 : Cx := { P := Try.prog, res := [], pub := [], loops := [], quiet := [27, 33, 34, 35], asm := true }
def F8 (pFuncsA : Option Addr) (pFuncsn pFuncsc : Nat) (pOptsA : Option Addr) (pOptsn pOptsc : Nat) (H : Heap) (K : Value → Heap → Prop) : Prop :=
 ∃ (b : Bool),
 (Tr Try.prog (27 : Nat) #[] H fun (v : Value) (H' : Heap) => v = Value.bool b ∧ Ax.Sub H H') ∧
 Tr Try.prog (32 : Nat) #[Value.agg #[Value.slice pFuncsA pFuncsn pFuncsc, Value.slice pOptsA pOptsn pOptsc]] H fun (v1 : Value) (H'1 : Heap) =>
 ∃ (A : Option Addr),
 ∃ (n : Nat),
 ∃ (c : Nat),
 ∃ (A1 : Option Addr),
 ∃ (n1 : Nat),
 ∃ (c1 : Nat),
 v1 = Value.agg #[Value.slice A n c, Value.slice A1 n1 c1] ∧
 ∃ (x : Int),
 ∃ (x1 : Int),
 ∃ (x2 : Int),
 (Tr Try.prog (33 : Nat) #[Value.agg #[Value.slice A n c, Value.slice A1 n1 c1]] H'1 fun (v2 : Value) (H'2 : Heap) =>
 v2 = Value.tuple #[Value.int IntKind.i64 x, Value.int IntKind.i64 x1, Value.int IntKind.i64 x2] ∧ Ax.Sub H'1 H'2) ∧
 ∃ (x3 : Int),
 ∃ (x4 : Int),
 ∃ (x5 : Int),
 (Tr Try.prog (34 : Nat) #[Value.agg #[Value.slice pFuncsA pFuncsn pFuncsc, Value.slice pOptsA pOptsn pOptsc]] H'1 fun (v3 : Value) (H'3 : Heap) =>
 v3 = Value.tuple #[Value.int IntKind.i64 x3, Value.int IntKind.i64 x4, Value.int IntKind.i64 x5] ∧ Ax.Sub H'1 H'3) ∧
 ∃ (b1 : Bool),
 (Tr Try.prog (35 : Nat)
 #[Value.agg #[Value.slice A n c, Value.slice A1 n1 c1],
 Value.agg #[Value.slice pFuncsA pFuncsn pFuncsc, Value.slice pOptsA pOptsn pOptsc]]
 H'1 fun (v4 : Value) (H'4 : Heap) => v4 = Value.bool b1 ∧ Ax.Sub H'1 H'4) ∧
 K (Value.bool (b && b1 && x == x3 && x1 == x4 && x2 == x5)) H'1
theorem v8 {pFuncsA : Option Addr} {pFuncsn pFuncsc : Nat} {pOptsA : Option Addr} {pOptsn pOptsc : Nat} {H : Heap} {K : Value → Heap → Prop} (h : F8 pFuncsA pFuncsn pFuncsc pOptsA pOptsn pOptsc H K) : Tr Try.prog 8 #[.agg #[.slice pFuncsA pFuncsn pFuncsc, .slice pOptsA pOptsn pOptsc]] H K :=
  tr_of_eq (C := c8) Try.func8 (show vcFn c8 Try.f8 [.agg #[.slice pFuncsA pFuncsn pFuncsc, .slice pOptsA pOptsn pOptsc]] H K = F8 pFuncsA pFuncsn pFuncsc pOptsA pOptsn pOptsc H K by kernel_rfl) h

/- tapestry/tapestrylaw13.CodeFinds -/
noncomputable def c9 : Cx := { P := Try.prog, res := [], pub := [], loops := [], quiet := [27, 36, 37], asm := true }
def F9 (pFuncsA : Option Addr) (pFuncsn pFuncsc : Nat) (pOptsA : Option Addr) (pOptsn pOptsc : Nat) (kind : Int) (name : Int) (H : Heap) (K : Value → Heap → Prop) : Prop :=
 ∃ (b : Bool),
 (Tr Try.prog (27 : Nat) #[] H fun (v : Value) (H' : Heap) => v = Value.bool b ∧ Ax.Sub H H') ∧
 ∃ (x : Int),
 (Tr Try.prog (36 : Nat) #[Value.agg #[Value.slice pFuncsA pFuncsn pFuncsc, Value.slice pOptsA pOptsn pOptsc], Value.int IntKind.i64 kind, Value.int IntKind.i64 name] H
 fun (v1 : Value) (H'1 : Heap) => v1 = Value.int IntKind.i64 x ∧ Ax.Sub H H'1) ∧
 ∃ (x1 : Int),
 (Tr Try.prog (37 : Nat) #[Value.agg #[Value.slice pFuncsA pFuncsn pFuncsc, Value.slice pOptsA pOptsn pOptsc], Value.int IntKind.i64 kind, Value.int IntKind.i64 name] H
 fun (v2 : Value) (H'2 : Heap) => v2 = Value.int IntKind.i64 x1 ∧ Ax.Sub H H'2) ∧
 K (Value.bool (b && x == x1)) H
theorem v9 {pFuncsA : Option Addr} {pFuncsn pFuncsc : Nat} {pOptsA : Option Addr} {pOptsn pOptsc : Nat} {kind : Int} {name : Int} {H : Heap} {K : Value → Heap → Prop} (h : F9 pFuncsA pFuncsn pFuncsc pOptsA pOptsn pOptsc kind name H K) : Tr Try.prog 9 #[.agg #[.slice pFuncsA pFuncsn pFuncsc, .slice pOptsA pOptsn pOptsc], .int .i64 kind, .int .i64 name] H K :=
  tr_of_eq (C := c9) Try.func9 (show vcFn c9 Try.f9 [.agg #[.slice pFuncsA pFuncsn pFuncsc, .slice pOptsA pOptsn pOptsc], .int .i64 kind, .int .i64 name] H K = F9 pFuncsA pFuncsn pFuncsc pOptsA pOptsn pOptsc kind name H K by kernel_rfl) h

/- tapestry/tapestrylaw13.CodeEncodes -/
noncomputable def c10 : Cx := { P := Try.prog, res := [], pub := [], loops := [], quiet := [27, 38, 39], asm := true }
def F10 (pFuncsA : Option Addr) (pFuncsn pFuncsc : Nat) (pOptsA : Option Addr) (pOptsn pOptsc : Nat) (H : Heap) (K : Value → Heap → Prop) : Prop :=
 ∃ (b : Bool),
 (Tr Try.prog (27 : Nat) #[] H fun (v : Value) (H' : Heap) => v = Value.bool b ∧ Ax.Sub H H') ∧
 ∃ (s : ByteArray),
 ∃ (x : Int),
 (Tr Try.prog (38 : Nat) #[Value.agg #[Value.slice pFuncsA pFuncsn pFuncsc, Value.slice pOptsA pOptsn pOptsc]] H fun (v1 : Value) (H'1 : Heap) =>
 v1 = Value.tuple #[Value.string s, Value.int IntKind.i64 x] ∧ Ax.Sub H H'1) ∧
 ∃ (s1 : ByteArray),
 ∃ (x1 : Int),
 (Tr Try.prog (39 : Nat) #[Value.agg #[Value.slice pFuncsA pFuncsn pFuncsc, Value.slice pOptsA pOptsn pOptsc]] H fun (v2 : Value) (H'2 : Heap) =>
 v2 = Value.tuple #[Value.string s1, Value.int IntKind.i64 x1] ∧ Ax.Sub H H'2) ∧
 K (Value.bool (b && beqS s s1 && x == x1)) H
theorem v10 {pFuncsA : Option Addr} {pFuncsn pFuncsc : Nat} {pOptsA : Option Addr} {pOptsn pOptsc : Nat} {H : Heap} {K : Value → Heap → Prop} (h : F10 pFuncsA pFuncsn pFuncsc pOptsA pOptsn pOptsc H K) : Tr Try.prog 10 #[.agg #[.slice pFuncsA pFuncsn pFuncsc, .slice pOptsA pOptsn pOptsc]] H K :=
  tr_of_eq (C := c10) Try.func10 (show vcFn c10 Try.f10 [.agg #[.slice pFuncsA pFuncsn pFuncsc, .slice pOptsA pOptsn pOptsc]] H K = F10 pFuncsA pFuncsn pFuncsc pOptsA pOptsn pOptsc H K by kernel_rfl) h

/- tapestry/tapestrylaw13.CodeDecodes -/
noncomputable def c11 : Cx := { P := Try.prog, res := [], pub := [], loops := [], quiet := [27, 35], asm := true }
def F11 (s : ByteArray) (H : Heap) (K : Value → Heap → Prop) : Prop :=
 ∃ (b : Bool),
 (Tr Try.prog (27 : Nat) #[] H fun (v : Value) (H' : Heap) => v = Value.bool b ∧ Ax.Sub H H') ∧
 Tr Try.prog (40 : Nat) #[Value.string s] H fun (v1 : Value) (H'1 : Heap) =>
 ∃ (A : Option Addr),
 ∃ (n : Nat),
 ∃ (c : Nat),
 ∃ (A1 : Option Addr),
 ∃ (n1 : Nat),
 ∃ (c1 : Nat),
 ∃ (x : Int),
 ∃ (x1 : Int),
 v1 = Value.tuple #[Value.agg #[Value.slice A n c, Value.slice A1 n1 c1], Value.int IntKind.i64 x, Value.int IntKind.i64 x1] ∧
 Tr Try.prog (41 : Nat) #[Value.string s] H'1 fun (v2 : Value) (H'2 : Heap) =>
 ∃ (A2 : Option Addr),
 ∃ (n2 : Nat),
 ∃ (c2 : Nat),
 ∃ (A3 : Option Addr),
 ∃ (n3 : Nat),
 ∃ (c3 : Nat),
 ∃ (x2 : Int),
 ∃ (x3 : Int),
 v2 = Value.tuple #[Value.agg #[Value.slice A2 n2 c2, Value.slice A3 n3 c3], Value.int IntKind.i64 x2, Value.int IntKind.i64 x3] ∧
 ∃ (b1 : Bool),
 (Tr Try.prog (35 : Nat)
 #[Value.agg #[Value.slice A n c, Value.slice A1 n1 c1], Value.agg #[Value.slice A2 n2 c2, Value.slice A3 n3 c3]] H'2
 fun (v3 : Value) (H'3 : Heap) => v3 = Value.bool b1 ∧ Ax.Sub H'2 H'3) ∧
 K (Value.bool (b && b1 && x == x2 && x1 == x3)) H'2
theorem v11 {s : ByteArray} {H : Heap} {K : Value → Heap → Prop} (h : F11 s H K) : Tr Try.prog 11 #[.string s] H K :=
  tr_of_eq (C := c11) Try.func11 (show vcFn c11 Try.f11 [.string s] H K = F11 s H K by kernel_rfl) h

/- tapestry/tapestrylaw13.CodeBack -/
noncomputable def c12 : Cx := { P := Try.prog, res := [], pub := [], loops := [], quiet := [27, 35, 38], asm := true }
def F12 (pFuncsA : Option Addr) (pFuncsn pFuncsc : Nat) (pOptsA : Option Addr) (pOptsn pOptsc : Nat) (s : ByteArray) (H : Heap) (K : Value → Heap → Prop) : Prop :=
 ∃ (b : Bool),
 (Tr Try.prog (27 : Nat) #[] H fun (v : Value) (H' : Heap) => v = Value.bool b ∧ Ax.Sub H H') ∧
 ∃ (s1 : ByteArray),
 ∃ (x : Int),
 (Tr Try.prog (38 : Nat) #[Value.agg #[Value.slice pFuncsA pFuncsn pFuncsc, Value.slice pOptsA pOptsn pOptsc]] H fun (v1 : Value) (H'1 : Heap) =>
 v1 = Value.tuple #[Value.string s1, Value.int IntKind.i64 x] ∧ Ax.Sub H H'1) ∧
 ((x == (0 : Int)) = true →
 Tr Try.prog (40 : Nat) #[Value.string s1] H fun (v2 : Value) (H'2 : Heap) =>
 ∃ (A : Option Addr),
 ∃ (n : Nat),
 ∃ (c : Nat),
 ∃ (A1 : Option Addr),
 ∃ (n1 : Nat),
 ∃ (c1 : Nat),
 ∃ (x1 : Int),
 ∃ (x2 : Int),
 v2 = Value.tuple #[Value.agg #[Value.slice A n c, Value.slice A1 n1 c1], Value.int IntKind.i64 x1, Value.int IntKind.i64 x2] ∧
 ∃ (b1 : Bool),
 (Tr Try.prog (35 : Nat)
 #[Value.agg #[Value.slice A n c, Value.slice A1 n1 c1], Value.agg #[Value.slice pFuncsA pFuncsn pFuncsc, Value.slice pOptsA pOptsn pOptsc]]
 H'2 fun (v3 : Value) (H'3 : Heap) => v3 = Value.bool b1 ∧ Ax.Sub H'2 H'3) ∧
 ((x1 != (0 : Int) || x2 != (0 : Int) || !b1) = true → K (Value.bool false) H'2) ∧
 ((x1 != (0 : Int) || x2 != (0 : Int) || !b1) = false →
 Tr Try.prog (40 : Nat) #[Value.string s] H'2 fun (v4 : Value) (H'4 : Heap) =>
 ∃ (A2 : Option Addr),
 ∃ (n2 : Nat),
 ∃ (c2 : Nat),
 ∃ (A3 : Option Addr),
 ∃ (n3 : Nat),
 ∃ (c3 : Nat),
 ∃ (x3 : Int),
 ∃ (x4 : Int),
 v4 =
 Value.tuple
 #[Value.agg #[Value.slice A2 n2 c2, Value.slice A3 n3 c3], Value.int IntKind.i64 x3, Value.int IntKind.i64 x4] ∧
 ((x3 == (0 : Int)) = true →
 ∃ (s2 : ByteArray),
 ∃ (x5 : Int),
 (Tr Try.prog (38 : Nat) #[Value.agg #[Value.slice A2 n2 c2, Value.slice A3 n3 c3]] H'4
 fun (v5 : Value) (H'5 : Heap) =>
 v5 = Value.tuple #[Value.string s2, Value.int IntKind.i64 x5] ∧ Ax.Sub H'4 H'5) ∧
 ((x5 != (0 : Int) || !beqS s2 s) = true → K (Value.bool false) H'4) ∧
 ((x5 != (0 : Int) || !beqS s2 s) = false → K (Value.bool b) H'4)) ∧
 ((x3 == (0 : Int)) = false → K (Value.bool b) H'4))) ∧
 ((x == (0 : Int)) = false →
 Tr Try.prog (40 : Nat) #[Value.string s] H fun (v6 : Value) (H'6 : Heap) =>
 ∃ (A4 : Option Addr),
 ∃ (n4 : Nat),
 ∃ (c4 : Nat),
 ∃ (A5 : Option Addr),
 ∃ (n5 : Nat),
 ∃ (c5 : Nat),
 ∃ (x6 : Int),
 ∃ (x7 : Int),
 v6 = Value.tuple #[Value.agg #[Value.slice A4 n4 c4, Value.slice A5 n5 c5], Value.int IntKind.i64 x6, Value.int IntKind.i64 x7] ∧
 ((x6 == (0 : Int)) = true →
 ∃ (s3 : ByteArray),
 ∃ (x8 : Int),
 (Tr Try.prog (38 : Nat) #[Value.agg #[Value.slice A4 n4 c4, Value.slice A5 n5 c5]] H'6 fun (v7 : Value) (H'7 : Heap) =>
 v7 = Value.tuple #[Value.string s3, Value.int IntKind.i64 x8] ∧ Ax.Sub H'6 H'7) ∧
 ((x8 != (0 : Int) || !beqS s3 s) = true → K (Value.bool false) H'6) ∧
 ((x8 != (0 : Int) || !beqS s3 s) = false → K (Value.bool b) H'6)) ∧
 ((x6 == (0 : Int)) = false → K (Value.bool b) H'6))
theorem v12 {pFuncsA : Option Addr} {pFuncsn pFuncsc : Nat} {pOptsA : Option Addr} {pOptsn pOptsc : Nat} {s : ByteArray} {H : Heap} {K : Value → Heap → Prop} (h : F12 pFuncsA pFuncsn pFuncsc pOptsA pOptsn pOptsc s H K) : Tr Try.prog 12 #[.agg #[.slice pFuncsA pFuncsn pFuncsc, .slice pOptsA pOptsn pOptsc], .string s] H K :=
  tr_of_eq (C := c12) Try.func12 (show vcFn c12 Try.f12 [.agg #[.slice pFuncsA pFuncsn pFuncsc, .slice pOptsA pOptsn pOptsc], .string s] H K = F12 pFuncsA pFuncsn pFuncsc pOptsA pOptsn pOptsc s H K by kernel_rfl) h

/- tapestry/tapestrylaw13.CodeCuts -/
noncomputable def c13 : Cx := { P := Try.prog, res := [], pub := [], loops := [], quiet := [27, 38], asm := true }
def F13 (pFuncsA : Option Addr) (pFuncsn pFuncsc : Nat) (pOptsA : Option Addr) (pOptsn pOptsc : Nat) (n : Int) (more : ByteArray) (H : Heap) (K : Value → Heap → Prop) : Prop :=
 ∃ (b : Bool),
 (Tr Try.prog (27 : Nat) #[] H fun (v : Value) (H' : Heap) => v = Value.bool b ∧ Ax.Sub H H') ∧
 ∃ (s : ByteArray),
 ∃ (x : Int),
 (Tr Try.prog (38 : Nat) #[Value.agg #[Value.slice pFuncsA pFuncsn pFuncsc, Value.slice pOptsA pOptsn pOptsc]] H fun (v1 : Value) (H'1 : Heap) =>
 v1 = Value.tuple #[Value.string s, Value.int IntKind.i64 x] ∧ Ax.Sub H H'1) ∧
 ((x != (0 : Int) || (↑s.size : Int) == (0 : Int)) = true → K (Value.bool (b && x != (0 : Int))) H) ∧
 ((x != (0 : Int) || (↑s.size : Int) == (0 : Int)) = false →
 (↑s.size : Int) ≠ (0 : Int) ∧
 (decide (n.tmod (↑s.size : Int) < (0 : Int)) = true →
 ((0 : Int) ≤ IntKind.i64.wrap (n.tmod (↑s.size : Int) + (↑s.size : Int)) ∧ IntKind.i64.wrap (n.tmod (↑s.size : Int) + (↑s.size : Int)) ≤ (↑s.size : Int)) ∧
 Tr Try.prog (40 : Nat) #[Value.string (s.extract (0 : Nat) (IntKind.i64.wrap (n.tmod (↑s.size : Int) + (↑s.size : Int))).toNat)] H
 fun (v2 : Value) (H'2 : Heap) =>
 ∃ (A : Option Addr),
 ∃ (n1 : Nat),
 ∃ (c : Nat),
 ∃ (A1 : Option Addr),
 ∃ (n2 : Nat),
 ∃ (c1 : Nat),
 ∃ (x1 : Int),
 ∃ (x2 : Int),
 v2 = Value.tuple #[Value.agg #[Value.slice A n1 c, Value.slice A1 n2 c1], Value.int IntKind.i64 x1, Value.int IntKind.i64 x2] ∧
 s.size + more.size ≤ (9223372036854775807 : Nat) ∧
 Tr Try.prog (40 : Nat) #[Value.string (s ++ more)] H'2 fun (v3 : Value) (H'3 : Heap) =>
 ∃ (A2 : Option Addr),
 ∃ (n3 : Nat),
 ∃ (c2 : Nat),
 ∃ (A3 : Option Addr),
 ∃ (n4 : Nat),
 ∃ (c3 : Nat),
 ∃ (x3 : Int),
 ∃ (x4 : Int),
 v3 =
 Value.tuple
 #[Value.agg #[Value.slice A2 n3 c2, Value.slice A3 n4 c3], Value.int IntKind.i64 x3, Value.int IntKind.i64 x4] ∧
 K
 (Value.bool
 (b && x1 != (0 : Int) && decide (x2 ≤ IntKind.i64.wrap (n.tmod (↑s.size : Int) + (↑s.size : Int))) &&
 beqS more { data := #[] } == (x3 == (0 : Int)) &&
 (beqS more { data := #[] } || x4 == (↑s.size : Int))))
 H'3) ∧
 (decide (n.tmod (↑s.size : Int) < (0 : Int)) = false →
 ((0 : Int) ≤ n.tmod (↑s.size : Int) ∧ n.tmod (↑s.size : Int) ≤ (↑s.size : Int)) ∧
 Tr Try.prog (40 : Nat) #[Value.string (s.extract (0 : Nat) (n.tmod (↑s.size : Int)).toNat)] H fun (v4 : Value) (H'4 : Heap) =>
 ∃ (A4 : Option Addr),
 ∃ (n5 : Nat),
 ∃ (c4 : Nat),
 ∃ (A5 : Option Addr),
 ∃ (n6 : Nat),
 ∃ (c5 : Nat),
 ∃ (x5 : Int),
 ∃ (x6 : Int),
 v4 = Value.tuple #[Value.agg #[Value.slice A4 n5 c4, Value.slice A5 n6 c5], Value.int IntKind.i64 x5, Value.int IntKind.i64 x6] ∧
 s.size + more.size ≤ (9223372036854775807 : Nat) ∧
 Tr Try.prog (40 : Nat) #[Value.string (s ++ more)] H'4 fun (v5 : Value) (H'5 : Heap) =>
 ∃ (A6 : Option Addr),
 ∃ (n7 : Nat),
 ∃ (c6 : Nat),
 ∃ (A7 : Option Addr),
 ∃ (n8 : Nat),
 ∃ (c7 : Nat),
 ∃ (x7 : Int),
 ∃ (x8 : Int),
 v5 =
 Value.tuple
 #[Value.agg #[Value.slice A6 n7 c6, Value.slice A7 n8 c7], Value.int IntKind.i64 x7, Value.int IntKind.i64 x8] ∧
 K
 (Value.bool
 (b && x5 != (0 : Int) && decide (x6 ≤ n.tmod (↑s.size : Int)) &&
 beqS more { data := #[] } == (x7 == (0 : Int)) &&
 (beqS more { data := #[] } || x8 == (↑s.size : Int))))
 H'5))
theorem v13 {pFuncsA : Option Addr} {pFuncsn pFuncsc : Nat} {pOptsA : Option Addr} {pOptsn pOptsc : Nat} {n : Int} {more : ByteArray} {H : Heap} {K : Value → Heap → Prop} (h : F13 pFuncsA pFuncsn pFuncsc pOptsA pOptsn pOptsc n more H K) : Tr Try.prog 13 #[.agg #[.slice pFuncsA pFuncsn pFuncsc, .slice pOptsA pOptsn pOptsc], .int .i64 n, .string more] H K :=
  tr_of_eq (C := c13) Try.func13 (show vcFn c13 Try.f13 [.agg #[.slice pFuncsA pFuncsn pFuncsc, .slice pOptsA pOptsn pOptsc], .int .i64 n, .string more] H K = F13 pFuncsA pFuncsn pFuncsc pOptsA pOptsn pOptsc n more H K by kernel_rfl) h

/- tapestry/tapestrylaw13.shown -/
noncomputable def c27 : Cx := { P := Try.prog, res := [], pub := [], loops := [], quiet := [33, 35, 38], draws := [⟨4, [0], [], false, true⟩], asm := true }
def F27  (H : Heap) (K : Value → Heap → Prop) : Prop :=
 Tr Try.prog (43 : Nat) #[] H fun (v : Value) (H' : Heap) =>
 ∃ (A : Option Addr),
 ∃ (n : Nat),
 ∃ (c : Nat),
 ∃ (A1 : Option Addr),
 ∃ (n1 : Nat),
 ∃ (c1 : Nat),
 v = Value.agg #[Value.slice A n c, Value.slice A1 n1 c1] ∧
 ∃ (x : Int),
 ∃ (x1 : Int),
 ∃ (x2 : Int),
 (Tr Try.prog (33 : Nat) #[Value.agg #[Value.slice A n c, Value.slice A1 n1 c1]] H' fun (v1 : Value) (H'1 : Heap) =>
 v1 = Value.tuple #[Value.int IntKind.i64 x, Value.int IntKind.i64 x1, Value.int IntKind.i64 x2] ∧ Ax.Sub H' H'1) ∧
 Tr Try.prog (43 : Nat) #[] H' fun (v2 : Value) (H'2 : Heap) =>
 ∃ (A2 : Option Addr),
 ∃ (n2 : Nat),
 ∃ (c2 : Nat),
 ∃ (A3 : Option Addr),
 ∃ (n3 : Nat),
 ∃ (c3 : Nat),
 v2 = Value.agg #[Value.slice A2 n2 c2, Value.slice A3 n3 c3] ∧
 ∃ (s : ByteArray),
 ∃ (x3 : Int),
 (Tr Try.prog (38 : Nat) #[Value.agg #[Value.slice A2 n2 c2, Value.slice A3 n3 c3]] H'2 fun (v3 : Value) (H'3 : Heap) =>
 v3 = Value.tuple #[Value.string s, Value.int IntKind.i64 x3] ∧ Ax.Sub H'2 H'3) ∧
 Tr Try.prog (40 : Nat) #[Value.string s] H'2 fun (v4 : Value) (H'4 : Heap) =>
 ∃ (A4 : Option Addr),
 ∃ (n4 : Nat),
 ∃ (c4 : Nat),
 ∃ (A5 : Option Addr),
 ∃ (n5 : Nat),
 ∃ (c5 : Nat),
 ∃ (x4 : Int),
 ∃ (x5 : Int),
 v4 =
 Value.tuple
 #[Value.agg #[Value.slice A4 n4 c4, Value.slice A5 n5 c5], Value.int IntKind.i64 x4,
 Value.int IntKind.i64 x5] ∧
 Tr Try.prog (43 : Nat) #[] H'4 fun (v5 : Value) (H'5 : Heap) =>
 ∃ (A6 : Option Addr),
 ∃ (n6 : Nat),
 ∃ (c6 : Nat),
 ∃ (A7 : Option Addr),
 ∃ (n7 : Nat),
 ∃ (c7 : Nat),
 v5 = Value.agg #[Value.slice A6 n6 c6, Value.slice A7 n7 c7] ∧
 ∃ (b : Bool),
 (Tr Try.prog (35 : Nat)
 #[Value.agg #[Value.slice A4 n4 c4, Value.slice A5 n5 c5],
 Value.agg #[Value.slice A6 n6 c6, Value.slice A7 n7 c7]]
 H'5 fun (v6 : Value) (H'6 : Heap) => v6 = Value.bool b ∧ Ax.Sub H'5 H'6) ∧
 ∃ (x6 : Int),
 ∃ (x7 : Int),
 ∃ (x8 : Int),
 (Tr Try.prog (33 : Nat)
 #[Value.agg
 #[Value.slice none (0 : Nat) (0 : Nat), Value.slice none (0 : Nat) (0 : Nat)]]
 H'5 fun (v7 : Value) (H'7 : Heap) =>
 v7 =
 Value.tuple
 #[Value.int IntKind.i64 x6, Value.int IntKind.i64 x7,
 Value.int IntKind.i64 x8] ∧
 Ax.Sub H'5 H'7) ∧
 K
 (Value.bool
 (x == (0 : Int) && x1 == (0 : Int) && x2 == (0 : Int) && x3 == (0 : Int) &&
 beqS s
 {
 data :=
 #[(1 : UInt8), (0 : UInt8), (0 : UInt8), (2 : UInt8),
 (17 : UInt8), (36 : UInt8), (0 : UInt8)] } &&
 x4 == (0 : Int) &&
 x5 == (0 : Int) &&
 b &&
 x6 == (40 : Int)))
 H'5
theorem v27 {H : Heap} {K : Value → Heap → Prop} (h : F27  H K) : Tr Try.prog 27 #[] H K :=
  tr_of_eq (C := c27) Try.func27 (show vcFn c27 Try.f27 [] H K = F27  H K by kernel_rfl) h

end Go.Proofs.Ytanahoejlnmfiaa
