/- By program (axgen.py): the formulas of functions of the translation, and that each gives its function's contract. Conditions: none. -/
import Derived.Test.YtbojjcmhdklhbaaProg
import Derived.Test.YtbojjcmhdklhbaaAxF
set_option maxRecDepth 100000
set_option linter.unusedVariables false
namespace Go.Proofs.Ytbojjcmhdklhbaa
open Go.Ax

/- tapestry/tapestrylaw14.EventHolds -/
noncomputable def c3 : Cx := { P := Try.prog, res := [], pub := [], loops := [], quiet := [13, 14, 15, 16, 17] }
def F3 (xId : Int) (xTime : Int) (xKind : Int) (xA : Int) (xB : Int) (xC : Int) (xD : Int) (xE : Int) (xF : Int) (H : Heap) (K : Value → Heap → Prop) : Prop :=
 ∃ (b : Bool),
 (Tr Try.prog (13 : Nat) #[] H fun (v : Value) (H' : Heap) => v = Value.bool b ∧ Ax.Sub H H') ∧
 ∃ (b1 : Bool),
 (Tr Try.prog (14 : Nat)
 #[Value.agg
 #[Value.int IntKind.i64 xId, Value.int IntKind.i64 xTime, Value.int IntKind.i64 xKind, Value.int IntKind.i64 xA, Value.int IntKind.i64 xB, Value.int IntKind.i64 xC,
 Value.int IntKind.i64 xD, Value.int IntKind.i64 xE, Value.int IntKind.i64 xF]]
 H fun (v1 : Value) (H'1 : Heap) => v1 = Value.bool b1 ∧ Ax.Sub H H'1) ∧
 ∃ (b2 : Bool),
 (Tr Try.prog (15 : Nat)
 #[Value.agg
 #[Value.int IntKind.i64 xId, Value.int IntKind.i64 xTime, Value.int IntKind.i64 xKind, Value.int IntKind.i64 xA, Value.int IntKind.i64 xB,
 Value.int IntKind.i64 xC, Value.int IntKind.i64 xD, Value.int IntKind.i64 xE, Value.int IntKind.i64 xF]]
 H fun (v2 : Value) (H'2 : Heap) => v2 = Value.bool b2 ∧ Ax.Sub H H'2) ∧
 ∃ (s : ByteArray),
 ∃ (x : Int),
 (Tr Try.prog (16 : Nat)
 #[Value.agg
 #[Value.int IntKind.i64 xId, Value.int IntKind.i64 xTime, Value.int IntKind.i64 xKind, Value.int IntKind.i64 xA, Value.int IntKind.i64 xB,
 Value.int IntKind.i64 xC, Value.int IntKind.i64 xD, Value.int IntKind.i64 xE, Value.int IntKind.i64 xF]]
 H fun (v3 : Value) (H'3 : Heap) => v3 = Value.tuple #[Value.string s, Value.int IntKind.i64 x] ∧ Ax.Sub H H'3) ∧
 ∃ (s1 : ByteArray),
 ∃ (x1 : Int),
 (Tr Try.prog (17 : Nat)
 #[Value.agg
 #[Value.int IntKind.i64 xId, Value.int IntKind.i64 xTime, Value.int IntKind.i64 xKind, Value.int IntKind.i64 xA, Value.int IntKind.i64 xB,
 Value.int IntKind.i64 xC, Value.int IntKind.i64 xD, Value.int IntKind.i64 xE, Value.int IntKind.i64 xF]]
 H fun (v4 : Value) (H'4 : Heap) => v4 = Value.tuple #[Value.string s1, Value.int IntKind.i64 x1] ∧ Ax.Sub H H'4) ∧
 K (Value.bool (b && b1 == b2 && beqS s s1 && x == x1)) H
theorem v3 {xId : Int} {xTime : Int} {xKind : Int} {xA : Int} {xB : Int} {xC : Int} {xD : Int} {xE : Int} {xF : Int} {H : Heap} {K : Value → Heap → Prop} (h : F3 xId xTime xKind xA xB xC xD xE xF H K) : Tr Try.prog 3 #[.agg #[.int .i64 xId, .int .i64 xTime, .int .i64 xKind, .int .i64 xA, .int .i64 xB, .int .i64 xC, .int .i64 xD, .int .i64 xE, .int .i64 xF]] H K :=
  tr_of_eq (C := c3) Try.func3 (show vcFn c3 Try.f3 [.agg #[.int .i64 xId, .int .i64 xTime, .int .i64 xKind, .int .i64 xA, .int .i64 xB, .int .i64 xC, .int .i64 xD, .int .i64 xE, .int .i64 xF]] H K = F3 xId xTime xKind xA xB xC xD xE xF H K by kernel_rfl) h

/- tapestry/tapestrylaw14.EventReads -/
noncomputable def c4 : Cx := { P := Try.prog, res := [], pub := [], loops := [], quiet := [13] }
def F4 (s : ByteArray) (H : Heap) (K : Value → Heap → Prop) : Prop :=
 ∃ (b : Bool),
 (Tr Try.prog (13 : Nat) #[] H fun (v : Value) (H' : Heap) => v = Value.bool b ∧ Ax.Sub H H') ∧
 Tr Try.prog (18 : Nat) #[Value.string s] H fun (v1 : Value) (H'1 : Heap) =>
 ∃ (x : Int),
 ∃ (x1 : Int),
 ∃ (x2 : Int),
 ∃ (x3 : Int),
 ∃ (x4 : Int),
 ∃ (x5 : Int),
 ∃ (x6 : Int),
 ∃ (x7 : Int),
 ∃ (x8 : Int),
 ∃ (x9 : Int),
 ∃ (x10 : Int),
 v1 =
 Value.tuple
 #[Value.agg
 #[Value.int IntKind.i64 x, Value.int IntKind.i64 x1, Value.int IntKind.i64 x2, Value.int IntKind.i64 x3, Value.int IntKind.i64 x4,
 Value.int IntKind.i64 x5, Value.int IntKind.i64 x6, Value.int IntKind.i64 x7, Value.int IntKind.i64 x8],
 Value.int IntKind.i64 x9, Value.int IntKind.i64 x10] ∧
 Tr Try.prog (19 : Nat) #[Value.string s] H'1 fun (v2 : Value) (H'2 : Heap) =>
 ∃ (x11 : Int),
 ∃ (x12 : Int),
 ∃ (x13 : Int),
 ∃ (x14 : Int),
 ∃ (x15 : Int),
 ∃ (x16 : Int),
 ∃ (x17 : Int),
 ∃ (x18 : Int),
 ∃ (x19 : Int),
 ∃ (x20 : Int),
 ∃ (x21 : Int),
 v2 =
 Value.tuple
 #[Value.agg
 #[Value.int IntKind.i64 x11, Value.int IntKind.i64 x12, Value.int IntKind.i64 x13, Value.int IntKind.i64 x14,
 Value.int IntKind.i64 x15, Value.int IntKind.i64 x16, Value.int IntKind.i64 x17, Value.int IntKind.i64 x18,
 Value.int IntKind.i64 x19],
 Value.int IntKind.i64 x20, Value.int IntKind.i64 x21] ∧
 K
 (Value.bool
 (b &&
 (x == x11 &&
 (x1 == x12 &&
 (x2 == x13 &&
 (x3 == x14 && (x4 == x15 && (x5 == x16 && (x6 == x17 && (x7 == x18 && (x8 == x19 && true))))))))) &&
 x9 == x20 &&
 x10 == x21))
 H'2
theorem v4 {s : ByteArray} {H : Heap} {K : Value → Heap → Prop} (h : F4 s H K) : Tr Try.prog 4 #[.string s] H K :=
  tr_of_eq (C := c4) Try.func4 (show vcFn c4 Try.f4 [.string s] H K = F4 s H K by kernel_rfl) h

/- tapestry/tapestrylaw14.EventKinds -/
noncomputable def c5 : Cx := { P := Try.prog, res := [], pub := [], loops := [], quiet := [13, 20, 21, 22, 23, 24, 25] }
def F5 (kind : Int) (H : Heap) (K : Value → Heap → Prop) : Prop :=
 ∃ (b : Bool),
 (Tr Try.prog (13 : Nat) #[] H fun (v : Value) (H' : Heap) => v = Value.bool b ∧ Ax.Sub H H') ∧
 ∃ (x : Int),
 (Tr Try.prog (20 : Nat) #[Value.int IntKind.i64 kind] H fun (v1 : Value) (H'1 : Heap) => v1 = Value.int IntKind.i64 x ∧ Ax.Sub H H'1) ∧
 ∃ (x1 : Int),
 (Tr Try.prog (21 : Nat) #[Value.int IntKind.i64 kind] H fun (v2 : Value) (H'2 : Heap) => v2 = Value.int IntKind.i64 x1 ∧ Ax.Sub H H'2) ∧
 ∃ (b1 : Bool),
 (Tr Try.prog (22 : Nat) #[Value.int IntKind.i64 kind] H fun (v3 : Value) (H'3 : Heap) => v3 = Value.bool b1 ∧ Ax.Sub H H'3) ∧
 ∃ (b2 : Bool),
 (Tr Try.prog (23 : Nat) #[Value.int IntKind.i64 kind] H fun (v4 : Value) (H'4 : Heap) => v4 = Value.bool b2 ∧ Ax.Sub H H'4) ∧
 ∃ (b3 : Bool),
 (Tr Try.prog (24 : Nat) #[Value.int IntKind.i64 kind] H fun (v5 : Value) (H'5 : Heap) => v5 = Value.bool b3 ∧ Ax.Sub H H'5) ∧
 ∃ (b4 : Bool),
 (Tr Try.prog (25 : Nat) #[Value.int IntKind.i64 kind] H fun (v6 : Value) (H'6 : Heap) => v6 = Value.bool b4 ∧ Ax.Sub H H'6) ∧
 K (Value.bool (b && x == x1 && b1 == b2 && b3 == b4)) H
theorem v5 {kind : Int} {H : Heap} {K : Value → Heap → Prop} (h : F5 kind H K) : Tr Try.prog 5 #[.int .i64 kind] H K :=
  tr_of_eq (C := c5) Try.func5 (show vcFn c5 Try.f5 [.int .i64 kind] H K = F5 kind H K by kernel_rfl) h

end Go.Proofs.Ytbojjcmhdklhbaa
