/- By program (axgen.py): the formulas of functions of the translation, and that each gives its function's contract. Conditions: none. -/
import Derived.Test.YtbojjcmhdklhbaaProg
import Derived.Test.YtbojjcmhdklhbaaAxF
set_option maxRecDepth 100000
set_option linter.unusedVariables false
namespace Go.Proofs.Ytbojjcmhdklhbaa
open Go.Ax

/- tapestry/event.Encode -/
noncomputable def c16 : Cx := { P := Try.prog, res := [], pub := [], loops := [⟨5, [(4, .str), (26, .int .i64)], [5, 6, 27, 28, 29, 30, 31, 32, 33, 34, 35, 36, 37, 38, 39], []⟩], quiet := [14, 20, 45, 46] }
def F16 (eId : Int) (eTime : Int) (eKind : Int) (eA : Int) (eB : Int) (eC : Int) (eD : Int) (eE : Int) (eF : Int) (H : Heap) (K : Value → Heap → Prop) : Prop :=
 ∃ (b : Bool),
 (Tr Try.prog (14 : Nat)
 #[Value.agg
 #[Value.int IntKind.i64 eId, Value.int IntKind.i64 eTime, Value.int IntKind.i64 eKind, Value.int IntKind.i64 eA, Value.int IntKind.i64 eB, Value.int IntKind.i64 eC,
 Value.int IntKind.i64 eD, Value.int IntKind.i64 eE, Value.int IntKind.i64 eF]]
 H fun (v : Value) (H' : Heap) => v = Value.bool b ∧ Ax.Sub H H') ∧
 ((!b) = true → K (Value.tuple #[Value.string { data := #[] }, Value.int IntKind.i64 (54 : Int)]) H) ∧
 ((!b) = false →
 ∃ (s : ByteArray),
 (Tr Try.prog (45 : Nat) #[Value.int IntKind.u64 (IntKind.u64.wrap eId)] H fun (v1 : Value) (H'1 : Heap) => v1 = Value.string s ∧ Ax.Sub H H'1) ∧
 ∃ (s1 : ByteArray),
 (Tr Try.prog (45 : Nat) #[Value.int IntKind.u64 (IntKind.u64.wrap eTime)] H fun (v2 : Value) (H'2 : Heap) => v2 = Value.string s1 ∧ Ax.Sub H H'2) ∧
 s.size + s1.size ≤ (9223372036854775807 : Nat) ∧
 ∃ (s2 : ByteArray),
 (Tr Try.prog (45 : Nat) #[Value.int IntKind.u64 (IntKind.u64.wrap eKind)] H fun (v3 : Value) (H'3 : Heap) => v3 = Value.string s2 ∧ Ax.Sub H H'3) ∧
 (s ++ s1).size + s2.size ≤ (9223372036854775807 : Nat) ∧
 Tr Try.prog (41 : Nat)
 #[Value.agg
 #[Value.int IntKind.i64 eId, Value.int IntKind.i64 eTime, Value.int IntKind.i64 eKind, Value.int IntKind.i64 eA, Value.int IntKind.i64 eB,
 Value.int IntKind.i64 eC, Value.int IntKind.i64 eD, Value.int IntKind.i64 eE, Value.int IntKind.i64 eF]]
 H fun (v4 : Value) (H'4 : Heap) =>
 ∃ (x : Int),
 ∃ (x1 : Int),
 ∃ (x2 : Int),
 ∃ (x3 : Int),
 ∃ (x4 : Int),
 ∃ (x5 : Int),
 v4 =
 Value.agg
 #[Value.int IntKind.i64 x, Value.int IntKind.i64 x1, Value.int IntKind.i64 x2, Value.int IntKind.i64 x3, Value.int IntKind.i64 x4,
 Value.int IntKind.i64 x5] ∧
 ∃ (Rel : ByteArray → Int → Heap → Prop),
 ∃ (mu : ByteArray → Int → Heap → Nat),
 Rel (s ++ s1 ++ s2) (0 : Int) H'4 ∧
 ∀ (s3 : ByteArray) (x6 : Int) (H1 : Heap),
 Rel s3 x6 H1 →
 (decide (x6 < (6 : Int)) = true →
 ∃ (x7 : Int),
 arrAt
 [Value.int IntKind.i64 x, Value.int IntKind.i64 x1, Value.int IntKind.i64 x2, Value.int IntKind.i64 x3,
 Value.int IntKind.i64 x4, Value.int IntKind.i64 x5]
 (6 : Nat) x6 (nat_lit 1) [Value.int IntKind.i64 x7] ∧
 ∃ (x8 : Int),
 (Tr Try.prog (20 : Nat) #[Value.int IntKind.i64 eKind] H1 fun (v5 : Value) (H'5 : Heap) =>
 v5 = Value.int IntKind.i64 x8 ∧ Ax.Sub H1 H'5) ∧
 (decide (x6 < x8) = true →
 ∃ (s4 : ByteArray),
 (Tr Try.prog (46 : Nat) #[Value.int IntKind.i64 x7] H1 fun (v6 : Value) (H'6 : Heap) =>
 v6 = Value.string s4 ∧ Ax.Sub H1 H'6) ∧
 s3.size + s4.size ≤ (9223372036854775807 : Nat) ∧
 Rel (s3 ++ s4) (IntKind.i64.wrap (x6 + (1 : Int))) H1 ∧
 mu (s3 ++ s4) (IntKind.i64.wrap (x6 + (1 : Int))) H1 < mu s3 x6 H1) ∧
 (decide (x6 < x8) = false →
 Rel s3 (IntKind.i64.wrap (x6 + (1 : Int))) H1 ∧ mu s3 (IntKind.i64.wrap (x6 + (1 : Int))) H1 < mu s3 x6 H1)) ∧
 (decide (x6 < (6 : Int)) = false → K (Value.tuple #[Value.string s3, Value.int IntKind.i64 (0 : Int)]) H1))
theorem v16 {eId : Int} {eTime : Int} {eKind : Int} {eA : Int} {eB : Int} {eC : Int} {eD : Int} {eE : Int} {eF : Int} {H : Heap} {K : Value → Heap → Prop} (h : F16 eId eTime eKind eA eB eC eD eE eF H K) : Tr Try.prog 16 #[.agg #[.int .i64 eId, .int .i64 eTime, .int .i64 eKind, .int .i64 eA, .int .i64 eB, .int .i64 eC, .int .i64 eD, .int .i64 eE, .int .i64 eF]] H K :=
  tr_of_eq (C := c16) Try.func16 (show vcFn c16 Try.f16 [.agg #[.int .i64 eId, .int .i64 eTime, .int .i64 eKind, .int .i64 eA, .int .i64 eB, .int .i64 eC, .int .i64 eD, .int .i64 eE, .int .i64 eF]] H K = F16 eId eTime eKind eA eB eC eD eE eF H K by kernel_rfl) h

/- tapestry/tapestryref14.Encode -/
noncomputable def c17 : Cx := { P := Try.prog, res := [], pub := [], loops := [⟨8, [(5, .str), (8, .int .i64)], [32, 33, 34, 35, 36, 37, 38, 39, 40, 41, 42, 43], []⟩], quiet := [15, 21, 47, 48] }
def F17 (eId : Int) (eTime : Int) (eKind : Int) (eA : Int) (eB : Int) (eC : Int) (eD : Int) (eE : Int) (eF : Int) (H : Heap) (K : Value → Heap → Prop) : Prop :=
 ∃ (b : Bool),
 (Tr Try.prog (15 : Nat)
 #[Value.agg
 #[Value.int IntKind.i64 eId, Value.int IntKind.i64 eTime, Value.int IntKind.i64 eKind, Value.int IntKind.i64 eA, Value.int IntKind.i64 eB, Value.int IntKind.i64 eC,
 Value.int IntKind.i64 eD, Value.int IntKind.i64 eE, Value.int IntKind.i64 eF]]
 H fun (v : Value) (H' : Heap) => v = Value.bool b ∧ Ax.Sub H H') ∧
 ((!b) = true → K (Value.tuple #[Value.string { data := #[] }, Value.int IntKind.i64 (54 : Int)]) H) ∧
 ((!b) = false →
 ∃ (s : ByteArray),
 (Tr Try.prog (47 : Nat) #[Value.int IntKind.u64 (IntKind.u64.wrap eId)] H fun (v1 : Value) (H'1 : Heap) => v1 = Value.string s ∧ Ax.Sub H H'1) ∧
 ∃ (s1 : ByteArray),
 (Tr Try.prog (47 : Nat) #[Value.int IntKind.u64 (IntKind.u64.wrap eTime)] H fun (v2 : Value) (H'2 : Heap) => v2 = Value.string s1 ∧ Ax.Sub H H'2) ∧
 s.size + s1.size ≤ (9223372036854775807 : Nat) ∧
 ∃ (s2 : ByteArray),
 (Tr Try.prog (47 : Nat) #[Value.int IntKind.u64 (IntKind.u64.wrap eKind)] H fun (v3 : Value) (H'3 : Heap) => v3 = Value.string s2 ∧ Ax.Sub H H'3) ∧
 (s ++ s1).size + s2.size ≤ (9223372036854775807 : Nat) ∧
 Tr Try.prog (43 : Nat)
 #[Value.agg
 #[Value.int IntKind.i64 eId, Value.int IntKind.i64 eTime, Value.int IntKind.i64 eKind, Value.int IntKind.i64 eA, Value.int IntKind.i64 eB,
 Value.int IntKind.i64 eC, Value.int IntKind.i64 eD, Value.int IntKind.i64 eE, Value.int IntKind.i64 eF]]
 H fun (v4 : Value) (H'4 : Heap) =>
 ∃ (A : Option Addr),
 ∃ (n : Nat),
 ∃ (c : Nat),
 v4 = Value.slice A n c ∧
 ∃ (x : Int),
 (Tr Try.prog (21 : Nat) #[Value.int IntKind.i64 eKind] H'4 fun (v5 : Value) (H'5 : Heap) => v5 = Value.int IntKind.i64 x ∧ Ax.Sub H'4 H'5) ∧
 ∃ (Rel : ByteArray → Int → Heap → Prop),
 ∃ (mu : ByteArray → Int → Heap → Nat),
 Rel (s ++ s1 ++ s2) (0 : Int) H'4 ∧
 ∀ (s3 : ByteArray) (x1 : Int) (H1 : Heap),
 Rel s3 x1 H1 →
 (decide (x1 < x) = true →
 ∃ (a : Addr),
 (A = some a ∧ (0 : Int) ≤ x1 ∧ x1 < (↑n : Int)) ∧
 ∃ (x2 : Int),
 At H1 (a.add (x1.toNat * nat_lit 1)) [Value.int IntKind.i64 x2] ∧
 ∃ (s4 : ByteArray),
 (Tr Try.prog (48 : Nat) #[Value.int IntKind.i64 x2] H1 fun (v6 : Value) (H'6 : Heap) =>
 v6 = Value.string s4 ∧ Ax.Sub H1 H'6) ∧
 s3.size + s4.size ≤ (9223372036854775807 : Nat) ∧
 Rel (s3 ++ s4) (IntKind.i64.wrap (x1 + (1 : Int))) H1 ∧
 mu (s3 ++ s4) (IntKind.i64.wrap (x1 + (1 : Int))) H1 < mu s3 x1 H1) ∧
 (decide (x1 < x) = false → K (Value.tuple #[Value.string s3, Value.int IntKind.i64 (0 : Int)]) H1))
theorem v17 {eId : Int} {eTime : Int} {eKind : Int} {eA : Int} {eB : Int} {eC : Int} {eD : Int} {eE : Int} {eF : Int} {H : Heap} {K : Value → Heap → Prop} (h : F17 eId eTime eKind eA eB eC eD eE eF H K) : Tr Try.prog 17 #[.agg #[.int .i64 eId, .int .i64 eTime, .int .i64 eKind, .int .i64 eA, .int .i64 eB, .int .i64 eC, .int .i64 eD, .int .i64 eE, .int .i64 eF]] H K :=
  tr_of_eq (C := c17) Try.func17 (show vcFn c17 Try.f17 [.agg #[.int .i64 eId, .int .i64 eTime, .int .i64 eKind, .int .i64 eA, .int .i64 eB, .int .i64 eC, .int .i64 eD, .int .i64 eE, .int .i64 eF]] H K = F17 eId eTime eKind eA eB eC eD eE eF H K by kernel_rfl) h

/- tapestry/event.Decode -/
noncomputable def c18 : Cx := { P := Try.prog, res := [], pub := [5, 12], loops := [⟨4, [(6, .int .i64), (17, .int .i64)], [3, 4, 7, 8, 9, 10, 18, 19, 20, 21, 22, 23, 24, 25, 26, 27, 28, 29, 30, 31, 32, 33, 34, 35, 36, 37, 38, 39, 40, 41], [(0, 0, .int .i64), (0, 1, .int .i64), (0, 2, .int .i64), (0, 3, .int .i64), (0, 4, .int .i64), (0, 5, .int .i64), (0, 6, .int .i64), (0, 7, .int .i64), (0, 8, .int .i64)]⟩, ⟨19, [(6, .int .i64), (60, .int .i64)], [3, 4, 13, 14, 15, 16, 61, 62, 63, 64, 65, 66, 67, 68, 69, 70, 71, 72, 73, 74, 75, 76, 77, 78, 79, 80, 81], [(0, 0, .int .i64), (0, 1, .int .i64), (0, 2, .int .i64), (0, 3, .int .i64), (0, 4, .int .i64), (0, 5, .int .i64), (0, 6, .int .i64), (0, 7, .int .i64), (0, 8, .int .i64)]⟩], quiet := [14, 20, 49, 50] }
def F18 (s : ByteArray) (H : Heap) (K : Value → Heap → Prop) : Prop :=
 ∀ (b : Nat),
 H b = none →
 ∃ (Rel : Int → Int → Int → Int → Int → Int → Int → Int → Int → Int → Int → Heap → Prop),
 ∃ (mu : Int → Int → Int → Int → Int → Int → Int → Int → Int → Int → Int → Heap → Nat),
 Rel (0 : Int) (0 : Int) (0 : Int) (0 : Int) (0 : Int) (0 : Int) (0 : Int) (0 : Int) (0 : Int) (0 : Int) (0 : Int)
 (H.upd b (Obj.cells #[Value.int IntKind.u64 (0 : Int), Value.int IntKind.u64 (0 : Int), Value.int IntKind.u64 (0 : Int)] (76 : Nat))) ∧
 ∀ (x x1 x2 x3 x4 x5 x6 x7 x8 x9 x10 : Int) (H1 : Heap),
 Rel x x1 x2 x3 x4 x5 x6 x7 x8 x9 x10 H1 →
 (decide (x1 < (3 : Int)) = true →
 ((0 : Int) ≤ x ∧ x ≤ (↑s.size : Int)) ∧
 ∃ (x11 : Int),
 ∃ (x12 : Int),
 ∃ (x13 : Int),
 (Tr Try.prog (49 : Nat) #[Value.string (s.extract x.toNat s.size)] H1 fun (v : Value) (H' : Heap) =>
 v = Value.tuple #[Value.int IntKind.u64 x11, Value.int IntKind.i64 x12, Value.int IntKind.i64 x13] ∧ Ax.Sub H1 H') ∧
 ((x13 != (0 : Int)) = true →
 K
 (Value.tuple
 #[Value.agg
 #[Value.int IntKind.i64 (0 : Int), Value.int IntKind.i64 (0 : Int), Value.int IntKind.i64 (0 : Int), Value.int IntKind.i64 (0 : Int),
 Value.int IntKind.i64 (0 : Int), Value.int IntKind.i64 (0 : Int), Value.int IntKind.i64 (0 : Int), Value.int IntKind.i64 (0 : Int),
 Value.int IntKind.i64 (0 : Int)],
 Value.int IntKind.i64 (0 : Int), Value.int IntKind.i64 x13])
 H1) ∧
 ((x13 != (0 : Int)) = false →
 (decide (x11 > (4611686018427387904 : Int)) = true →
 K
 (Value.tuple
 #[Value.agg
 #[Value.int IntKind.i64 (0 : Int), Value.int IntKind.i64 (0 : Int), Value.int IntKind.i64 (0 : Int), Value.int IntKind.i64 (0 : Int),
 Value.int IntKind.i64 (0 : Int), Value.int IntKind.i64 (0 : Int), Value.int IntKind.i64 (0 : Int), Value.int IntKind.i64 (0 : Int),
 Value.int IntKind.i64 (0 : Int)],
 Value.int IntKind.i64 (0 : Int), Value.int IntKind.i64 (54 : Int)])
 H1) ∧
 (decide (x11 > (4611686018427387904 : Int)) = false →
 ((0 : Int) ≤ x1 ∧ x1 < (↑(3 : Nat) : Int)) ∧
 ∃ (c : Array Value),
 ∃ (T : TypeId),
 H1 (({ block := b, off := (0 : Nat) } : Addr).add (x1.toNat * nat_lit 1)).block = some (Obj.cells c T) ∧
 (({ block := b, off := (0 : Nat) } : Addr).add (x1.toNat * nat_lit 1)).spot = none ∧
 (({ block := b, off := (0 : Nat) } : Addr).add (x1.toNat * nat_lit 1)).off + [Value.int IntKind.u64 x11].length ≤ c.size ∧
 Rel (IntKind.i64.wrap (x + x12)) (IntKind.i64.wrap (x1 + (1 : Int))) x2 x3 x4 x5 x6 x7 x8 x9 x10
 (H1.upd (({ block := b, off := (0 : Nat) } : Addr).add (x1.toNat * nat_lit 1)).block
 (Obj.cells (splice c (({ block := b, off := (0 : Nat) } : Addr).add (x1.toNat * nat_lit 1)).off [Value.int IntKind.u64 x11]) T)) ∧
 mu (IntKind.i64.wrap (x + x12)) (IntKind.i64.wrap (x1 + (1 : Int))) x2 x3 x4 x5 x6 x7 x8 x9 x10
 (H1.upd (({ block := b, off := (0 : Nat) } : Addr).add (x1.toNat * nat_lit 1)).block
 (Obj.cells (splice c (({ block := b, off := (0 : Nat) } : Addr).add (x1.toNat * nat_lit 1)).off [Value.int IntKind.u64 x11]) T)) <
 mu x x1 x2 x3 x4 x5 x6 x7 x8 x9 x10 H1))) ∧
 (decide (x1 < (3 : Int)) = false →
 ((0 : Int) ≤ (0 : Int) ∧ (0 : Int) < (↑(3 : Nat) : Int)) ∧
 ∃ (x14 : Int),
 At H1 (({ block := b, off := (0 : Nat) } : Addr).add (Int.toNat (0 : Int) * nat_lit 1)) [Value.int IntKind.u64 x14] ∧
 ((0 : Int) ≤ (1 : Int) ∧ (1 : Int) < (↑(3 : Nat) : Int)) ∧
 ∃ (x15 : Int),
 At H1 (({ block := b, off := (0 : Nat) } : Addr).add (Int.toNat (1 : Int) * nat_lit 1)) [Value.int IntKind.u64 x15] ∧
 ((0 : Int) ≤ (2 : Int) ∧ (2 : Int) < (↑(3 : Nat) : Int)) ∧
 ∃ (x16 : Int),
 At H1 (({ block := b, off := (0 : Nat) } : Addr).add (Int.toNat (2 : Int) * nat_lit 1)) [Value.int IntKind.u64 x16] ∧
 ∃ (x17 : Int),
 (Tr Try.prog (20 : Nat) #[Value.int IntKind.i64 (IntKind.i64.wrap x16)] H1 fun (v1 : Value) (H'1 : Heap) =>
 v1 = Value.int IntKind.i64 x17 ∧ Ax.Sub H1 H'1) ∧
 (decide (x17 < (0 : Int)) = true →
 K
 (Value.tuple
 #[Value.agg
 #[Value.int IntKind.i64 (0 : Int), Value.int IntKind.i64 (0 : Int), Value.int IntKind.i64 (0 : Int),
 Value.int IntKind.i64 (0 : Int), Value.int IntKind.i64 (0 : Int), Value.int IntKind.i64 (0 : Int),
 Value.int IntKind.i64 (0 : Int), Value.int IntKind.i64 (0 : Int), Value.int IntKind.i64 (0 : Int)],
 Value.int IntKind.i64 (0 : Int), Value.int IntKind.i64 (54 : Int)])
 H1) ∧
 (decide (x17 < (0 : Int)) = false →
 ∀ (b1 : Nat),
 H1 b1 = none →
 ∃ (x18 : Int),
 (Tr Try.prog (20 : Nat) #[Value.int IntKind.i64 (IntKind.i64.wrap x16)]
 (H1.upd b1
 (Obj.cells
 #[Value.int IntKind.i64 (0 : Int), Value.int IntKind.i64 (0 : Int), Value.int IntKind.i64 (0 : Int),
 Value.int IntKind.i64 (0 : Int), Value.int IntKind.i64 (0 : Int), Value.int IntKind.i64 (0 : Int)]
 (67 : Nat)))
 fun (v2 : Value) (H'2 : Heap) =>
 v2 = Value.int IntKind.i64 x18 ∧
 Ax.Sub
 (H1.upd b1
 (Obj.cells
 #[Value.int IntKind.i64 (0 : Int), Value.int IntKind.i64 (0 : Int), Value.int IntKind.i64 (0 : Int),
 Value.int IntKind.i64 (0 : Int), Value.int IntKind.i64 (0 : Int), Value.int IntKind.i64 (0 : Int)]
 (67 : Nat)))
 H'2) ∧
 ∃ (Rel1 : Int → Int → Int → Int → Int → Int → Int → Int → Int → Int → Int → Heap → Prop),
 ∃ (mu1 : Int → Int → Int → Int → Int → Int → Int → Int → Int → Int → Int → Heap → Nat),
 Rel1 x (0 : Int) x2 x3 x4 x5 x6 x7 x8 x9 x10
 (H1.upd b1
 (Obj.cells
 #[Value.int IntKind.i64 (0 : Int), Value.int IntKind.i64 (0 : Int), Value.int IntKind.i64 (0 : Int),
 Value.int IntKind.i64 (0 : Int), Value.int IntKind.i64 (0 : Int), Value.int IntKind.i64 (0 : Int)]
 (67 : Nat))) ∧
 ∀ (x19 x20 x21 x22 x23 x24 x25 x26 x27 x28 x29 : Int) (H2 : Heap),
 Rel1 x19 x20 x21 x22 x23 x24 x25 x26 x27 x28 x29 H2 →
 (decide (x20 < x18) = true →
 ((0 : Int) ≤ x19 ∧ x19 ≤ (↑s.size : Int)) ∧
 ∃ (x30 : Int),
 ∃ (x31 : Int),
 ∃ (x32 : Int),
 (Tr Try.prog (50 : Nat) #[Value.string (s.extract x19.toNat s.size)] H2 fun (v3 : Value) (H'3 : Heap) =>
 v3 = Value.tuple #[Value.int IntKind.i64 x30, Value.int IntKind.i64 x31, Value.int IntKind.i64 x32] ∧
 Ax.Sub H2 H'3) ∧
 ((x32 != (0 : Int)) = true →
 K
 (Value.tuple
 #[Value.agg
 #[Value.int IntKind.i64 (0 : Int), Value.int IntKind.i64 (0 : Int),
 Value.int IntKind.i64 (0 : Int), Value.int IntKind.i64 (0 : Int),
 Value.int IntKind.i64 (0 : Int), Value.int IntKind.i64 (0 : Int),
 Value.int IntKind.i64 (0 : Int), Value.int IntKind.i64 (0 : Int),
 Value.int IntKind.i64 (0 : Int)],
 Value.int IntKind.i64 (0 : Int), Value.int IntKind.i64 x32])
 H2) ∧
 ((x32 != (0 : Int)) = false →
 ((0 : Int) ≤ x20 ∧ x20 < (↑(6 : Nat) : Int)) ∧
 ∃ (c1 : Array Value),
 ∃ (T1 : TypeId),
 H2 (({ block := b1, off := (0 : Nat) } : Addr).add (x20.toNat * nat_lit 1)).block =
 some (Obj.cells c1 T1) ∧
 (({ block := b1, off := (0 : Nat) } : Addr).add (x20.toNat * nat_lit 1)).spot = none ∧
 (({ block := b1, off := (0 : Nat) } : Addr).add (x20.toNat * nat_lit 1)).off +
 [Value.int IntKind.i64 x30].length ≤
 c1.size ∧
 Rel1 (IntKind.i64.wrap (x19 + x31)) (IntKind.i64.wrap (x20 + (1 : Int))) x21 x22 x23 x24
 x25 x26 x27 x28 x29
 (H2.upd (({ block := b1, off := (0 : Nat) } : Addr).add (x20.toNat * nat_lit 1)).block
 (Obj.cells
 (splice c1 (({ block := b1, off := (0 : Nat) } : Addr).add (x20.toNat * nat_lit 1)).off
 [Value.int IntKind.i64 x30])
 T1)) ∧
 mu1 (IntKind.i64.wrap (x19 + x31)) (IntKind.i64.wrap (x20 + (1 : Int))) x21 x22 x23
 x24 x25 x26 x27 x28 x29
 (H2.upd (({ block := b1, off := (0 : Nat) } : Addr).add (x20.toNat * nat_lit 1)).block
 (Obj.cells
 (splice c1 (({ block := b1, off := (0 : Nat) } : Addr).add (x20.toNat * nat_lit 1)).off
 [Value.int IntKind.i64 x30])
 T1)) <
 mu1 x19 x20 x21 x22 x23 x24 x25 x26 x27 x28 x29 H2)) ∧
 (decide (x20 < x18) = false →
 ∃ (x33 : Int),
 ∃ (x34 : Int),
 ∃ (x35 : Int),
 ∃ (x36 : Int),
 ∃ (x37 : Int),
 ∃ (x38 : Int),
 At H2 ({ block := b1, off := (0 : Nat) } : Addr)
 [Value.int IntKind.i64 x33, Value.int IntKind.i64 x34, Value.int IntKind.i64 x35,
 Value.int IntKind.i64 x36, Value.int IntKind.i64 x37, Value.int IntKind.i64 x38] ∧
 Tr Try.prog (51 : Nat)
 #[Value.agg
 #[Value.int IntKind.i64 (IntKind.i64.wrap x14), Value.int IntKind.i64 (IntKind.i64.wrap x15),
 Value.int IntKind.i64 (IntKind.i64.wrap x16), Value.int IntKind.i64 (0 : Int),
 Value.int IntKind.i64 (0 : Int), Value.int IntKind.i64 (0 : Int),
 Value.int IntKind.i64 (0 : Int), Value.int IntKind.i64 (0 : Int),
 Value.int IntKind.i64 (0 : Int)],
 Value.agg
 #[Value.int IntKind.i64 x33, Value.int IntKind.i64 x34, Value.int IntKind.i64 x35,
 Value.int IntKind.i64 x36, Value.int IntKind.i64 x37, Value.int IntKind.i64 x38]]
 H2 fun (v4 : Value) (H'4 : Heap) =>
 ∃ (x39 : Int),
 ∃ (x40 : Int),
 ∃ (x41 : Int),
 ∃ (x42 : Int),
 ∃ (x43 : Int),
 ∃ (x44 : Int),
 ∃ (x45 : Int),
 ∃ (x46 : Int),
 ∃ (x47 : Int),
 v4 =
 Value.agg
 #[Value.int IntKind.i64 x39, Value.int IntKind.i64 x40,
 Value.int IntKind.i64 x41, Value.int IntKind.i64 x42,
 Value.int IntKind.i64 x43, Value.int IntKind.i64 x44,
 Value.int IntKind.i64 x45, Value.int IntKind.i64 x46,
 Value.int IntKind.i64 x47] ∧
 ∃ (b2 : Bool),
 (Tr Try.prog (14 : Nat)
 #[Value.agg
 #[Value.int IntKind.i64 x39, Value.int IntKind.i64 x40,
 Value.int IntKind.i64 x41, Value.int IntKind.i64 x42,
 Value.int IntKind.i64 x43, Value.int IntKind.i64 x44,
 Value.int IntKind.i64 x45, Value.int IntKind.i64 x46,
 Value.int IntKind.i64 x47]]
 H'4 fun (v5 : Value) (H'5 : Heap) =>
 v5 = Value.bool b2 ∧ Ax.Sub H'4 H'5) ∧
 ((!b2) = true →
 K
 (Value.tuple
 #[Value.agg
 #[Value.int IntKind.i64 (0 : Int),
 Value.int IntKind.i64 (0 : Int),
 Value.int IntKind.i64 (0 : Int),
 Value.int IntKind.i64 (0 : Int),
 Value.int IntKind.i64 (0 : Int),
 Value.int IntKind.i64 (0 : Int),
 Value.int IntKind.i64 (0 : Int),
 Value.int IntKind.i64 (0 : Int),
 Value.int IntKind.i64 (0 : Int)],
 Value.int IntKind.i64 (0 : Int),
 Value.int IntKind.i64 (54 : Int)])
 H'4) ∧
 ((!b2) = false →
 K
 (Value.tuple
 #[Value.agg
 #[Value.int IntKind.i64 x39, Value.int IntKind.i64 x40,
 Value.int IntKind.i64 x41, Value.int IntKind.i64 x42,
 Value.int IntKind.i64 x43, Value.int IntKind.i64 x44,
 Value.int IntKind.i64 x45, Value.int IntKind.i64 x46,
 Value.int IntKind.i64 x47],
 Value.int IntKind.i64 x19, Value.int IntKind.i64 (0 : Int)])
 H'4))))
theorem v18 {s : ByteArray} {H : Heap} {K : Value → Heap → Prop} (h : F18 s H K) : Tr Try.prog 18 #[.string s] H K :=
  tr_of_eq (C := c18) Try.func18 (show vcFn c18 Try.f18 [.string s] H K = F18 s H K by kernel_rfl) h

/- tapestry/tapestryref14.Decode -/
noncomputable def c19 : Cx := { P := Try.prog, res := [], pub := [53], loops := [⟨4, [(5, .sl), (6, .int .i64), (7, .int .i64)], [3, 4, 8, 9, 10, 19, 20, 21, 22, 23, 24, 25, 26, 27, 28, 29, 30, 31, 32, 33, 34, 35, 36, 37, 38, 39, 40, 41, 42, 43, 44, 45], [(0, 0, .int .i64), (0, 1, .int .i64), (0, 2, .int .i64), (0, 3, .int .i64), (0, 4, .int .i64), (0, 5, .int .i64), (0, 6, .int .i64), (0, 7, .int .i64), (0, 8, .int .i64)]⟩, ⟨18, [(6, .int .i64), (13, .int .i64)], [3, 4, 14, 15, 16, 54, 55, 56, 57, 58, 59, 60, 61, 62, 63, 64, 65, 66, 67, 68, 69, 70, 71, 72, 73, 74, 75, 76, 77], [(0, 0, .int .i64), (0, 1, .int .i64), (0, 2, .int .i64), (0, 3, .int .i64), (0, 4, .int .i64), (0, 5, .int .i64), (0, 6, .int .i64), (0, 7, .int .i64), (0, 8, .int .i64)]⟩], quiet := [15, 21, 52, 53], draws := [⟨25, [2, 5, 8, 11, 14, 17, 20, 23, 26], [1], true, false⟩] }
def F19 (s : ByteArray) (H : Heap) (K : Value → Heap → Prop) : Prop :=
 ∃ (Rel : Option Addr → Nat → Nat → Int → Int → Int → Int → Int → Int → Int → Int → Int → Int → Int → Heap → Prop),
 ∃ (mu : Option Addr → Nat → Nat → Int → Int → Int → Int → Int → Int → Int → Int → Int → Int → Int → Heap → Nat),
 Rel none (0 : Nat) (0 : Nat) (0 : Int) (0 : Int) (0 : Int) (0 : Int) (0 : Int) (0 : Int) (0 : Int) (0 : Int) (0 : Int) (0 : Int) (0 : Int) H ∧
 ∀ (A : Option Addr) (n c : Nat) (x x1 x2 x3 x4 x5 x6 x7 x8 x9 x10 : Int) (H1 : Heap),
 Rel A n c x x1 x2 x3 x4 x5 x6 x7 x8 x9 x10 H1 →
 (decide (x1 < (3 : Int)) = true →
 ((0 : Int) ≤ x ∧ x ≤ (↑s.size : Int)) ∧
 ∃ (x11 : Int),
 ∃ (x12 : Int),
 ∃ (x13 : Int),
 (Tr Try.prog (52 : Nat) #[Value.string (s.extract x.toNat s.size)] H1 fun (v : Value) (H' : Heap) =>
 v = Value.tuple #[Value.int IntKind.u64 x11, Value.int IntKind.i64 x12, Value.int IntKind.i64 x13] ∧ Ax.Sub H1 H') ∧
 ((x13 != (0 : Int)) = true →
 K
 (Value.tuple
 #[Value.agg
 #[Value.int IntKind.i64 (0 : Int), Value.int IntKind.i64 (0 : Int), Value.int IntKind.i64 (0 : Int), Value.int IntKind.i64 (0 : Int),
 Value.int IntKind.i64 (0 : Int), Value.int IntKind.i64 (0 : Int), Value.int IntKind.i64 (0 : Int), Value.int IntKind.i64 (0 : Int),
 Value.int IntKind.i64 (0 : Int)],
 Value.int IntKind.i64 (0 : Int), Value.int IntKind.i64 x13])
 H1) ∧
 ((x13 != (0 : Int)) = false →
 (decide (x11 > (4611686018427387904 : Int)) = true →
 K
 (Value.tuple
 #[Value.agg
 #[Value.int IntKind.i64 (0 : Int), Value.int IntKind.i64 (0 : Int), Value.int IntKind.i64 (0 : Int), Value.int IntKind.i64 (0 : Int),
 Value.int IntKind.i64 (0 : Int), Value.int IntKind.i64 (0 : Int), Value.int IntKind.i64 (0 : Int), Value.int IntKind.i64 (0 : Int),
 Value.int IntKind.i64 (0 : Int)],
 Value.int IntKind.i64 (0 : Int), Value.int IntKind.i64 (54 : Int)])
 H1) ∧
 (decide (x11 > (4611686018427387904 : Int)) = false →
 appC (2 : Nat) (nat_lit 1) (nat_lit 8) H1 A n c [Value.int IntKind.i64 (IntKind.i64.wrap x11)] (1 : Nat)
 fun (A' : Option Addr) (n' c' : Nat) (H'1 : Heap) =>
 Rel A' n' c' (IntKind.i64.wrap (x + x12)) (IntKind.i64.wrap (x1 + (1 : Int))) x2 x3 x4 x5 x6 x7 x8 x9 x10 H'1 ∧
 mu A' n' c' (IntKind.i64.wrap (x + x12)) (IntKind.i64.wrap (x1 + (1 : Int))) x2 x3 x4 x5 x6 x7 x8 x9 x10 H'1 <
 mu A n c x x1 x2 x3 x4 x5 x6 x7 x8 x9 x10 H1))) ∧
 (decide (x1 < (3 : Int)) = false →
 ∃ (a : Addr),
 (A = some a ∧ (0 : Int) ≤ (2 : Int) ∧ (2 : Int) < (↑n : Int)) ∧
 ∃ (x14 : Int),
 At H1 (a.add (Int.toNat (2 : Int) * nat_lit 1)) [Value.int IntKind.i64 x14] ∧
 ∃ (x15 : Int),
 (Tr Try.prog (21 : Nat) #[Value.int IntKind.i64 x14] H1 fun (v1 : Value) (H'2 : Heap) => v1 = Value.int IntKind.i64 x15 ∧ Ax.Sub H1 H'2) ∧
 (decide (x15 < (0 : Int)) = true →
 K
 (Value.tuple
 #[Value.agg
 #[Value.int IntKind.i64 (0 : Int), Value.int IntKind.i64 (0 : Int), Value.int IntKind.i64 (0 : Int), Value.int IntKind.i64 (0 : Int),
 Value.int IntKind.i64 (0 : Int), Value.int IntKind.i64 (0 : Int), Value.int IntKind.i64 (0 : Int), Value.int IntKind.i64 (0 : Int),
 Value.int IntKind.i64 (0 : Int)],
 Value.int IntKind.i64 (0 : Int), Value.int IntKind.i64 (54 : Int)])
 H1) ∧
 (decide (x15 < (0 : Int)) = false →
 ∀ (b : Nat),
 H1 b = none →
 ∃ (Rel1 : Int → Int → Int → Int → Int → Int → Int → Int → Int → Int → Int → Heap → Prop),
 ∃ (mu1 : Int → Int → Int → Int → Int → Int → Int → Int → Int → Int → Int → Heap → Nat),
 Rel1 x (0 : Int) x2 x3 x4 x5 x6 x7 x8 x9 x10
 (H1.upd b
 (Obj.cells
 #[Value.int IntKind.i64 (0 : Int), Value.int IntKind.i64 (0 : Int), Value.int IntKind.i64 (0 : Int), Value.int IntKind.i64 (0 : Int),
 Value.int IntKind.i64 (0 : Int), Value.int IntKind.i64 (0 : Int)]
 (2 : Nat))) ∧
 ∀ (x16 x17 x18 x19 x20 x21 x22 x23 x24 x25 x26 : Int) (H2 : Heap),
 Rel1 x16 x17 x18 x19 x20 x21 x22 x23 x24 x25 x26 H2 →
 (decide (x17 < x15) = true →
 ((0 : Int) ≤ x16 ∧ x16 ≤ (↑s.size : Int)) ∧
 ∃ (x27 : Int),
 ∃ (x28 : Int),
 ∃ (x29 : Int),
 (Tr Try.prog (53 : Nat) #[Value.string (s.extract x16.toNat s.size)] H2 fun (v2 : Value) (H'3 : Heap) =>
 v2 = Value.tuple #[Value.int IntKind.i64 x27, Value.int IntKind.i64 x28, Value.int IntKind.i64 x29] ∧ Ax.Sub H2 H'3) ∧
 ((x29 != (0 : Int)) = true →
 K
 (Value.tuple
 #[Value.agg
 #[Value.int IntKind.i64 (0 : Int), Value.int IntKind.i64 (0 : Int), Value.int IntKind.i64 (0 : Int),
 Value.int IntKind.i64 (0 : Int), Value.int IntKind.i64 (0 : Int), Value.int IntKind.i64 (0 : Int),
 Value.int IntKind.i64 (0 : Int), Value.int IntKind.i64 (0 : Int), Value.int IntKind.i64 (0 : Int)],
 Value.int IntKind.i64 (0 : Int), Value.int IntKind.i64 x29])
 H2) ∧
 ((x29 != (0 : Int)) = false →
 ∃ (a1 : Addr),
 (some ({ block := b, off := (0 : Nat) } : Addr) = some a1 ∧ (0 : Int) ≤ x17 ∧ x17 < (↑(6 : Nat) : Int)) ∧
 ∃ (c1 : Array Value),
 ∃ (T : TypeId),
 H2 (a1.add (x17.toNat * nat_lit 1)).block = some (Obj.cells c1 T) ∧
 (a1.add (x17.toNat * nat_lit 1)).spot = none ∧
 (a1.add (x17.toNat * nat_lit 1)).off + [Value.int IntKind.i64 x27].length ≤ c1.size ∧
 Rel1 (IntKind.i64.wrap (x16 + x28)) (IntKind.i64.wrap (x17 + (1 : Int))) x18 x19 x20 x21 x22 x23 x24 x25
 x26
 (H2.upd (a1.add (x17.toNat * nat_lit 1)).block
 (Obj.cells (splice c1 (a1.add (x17.toNat * nat_lit 1)).off [Value.int IntKind.i64 x27]) T)) ∧
 mu1 (IntKind.i64.wrap (x16 + x28)) (IntKind.i64.wrap (x17 + (1 : Int))) x18 x19 x20 x21 x22 x23 x24
 x25 x26
 (H2.upd (a1.add (x17.toNat * nat_lit 1)).block
 (Obj.cells (splice c1 (a1.add (x17.toNat * nat_lit 1)).off [Value.int IntKind.i64 x27]) T)) <
 mu1 x16 x17 x18 x19 x20 x21 x22 x23 x24 x25 x26 H2)) ∧
 (decide (x17 < x15) = false →
 ∃ (Hs : Heap),
 Ax.Sub Hs H2 ∧
 ∃ (a2 : Addr),
 (A = some a2 ∧ (0 : Int) ≤ (0 : Int) ∧ (0 : Int) < (↑n : Int)) ∧
 ∃ (a3 : Addr),
 (A = some a3 ∧ (0 : Int) ≤ (1 : Int) ∧ (1 : Int) < (↑n : Int)) ∧
 ∃ (a4 : Addr),
 (A = some a4 ∧ (0 : Int) ≤ (2 : Int) ∧ (2 : Int) < (↑n : Int)) ∧
 ∃ (a5 : Addr),
 (some ({ block := b, off := (0 : Nat) } : Addr) = some a5 ∧ (0 : Int) ≤ (0 : Int) ∧ (0 : Int) < (↑(6 : Nat) : Int)) ∧
 ∃ (a6 : Addr),
 (some ({ block := b, off := (0 : Nat) } : Addr) = some a6 ∧ (0 : Int) ≤ (1 : Int) ∧ (1 : Int) < (↑(6 : Nat) : Int)) ∧
 ∃ (a7 : Addr),
 (some ({ block := b, off := (0 : Nat) } : Addr) = some a7 ∧
 (0 : Int) ≤ (2 : Int) ∧ (2 : Int) < (↑(6 : Nat) : Int)) ∧
 ∃ (a8 : Addr),
 (some ({ block := b, off := (0 : Nat) } : Addr) = some a8 ∧
 (0 : Int) ≤ (3 : Int) ∧ (3 : Int) < (↑(6 : Nat) : Int)) ∧
 ∃ (a9 : Addr),
 (some ({ block := b, off := (0 : Nat) } : Addr) = some a9 ∧
 (0 : Int) ≤ (4 : Int) ∧ (4 : Int) < (↑(6 : Nat) : Int)) ∧
 ∃ (a10 : Addr),
 (some ({ block := b, off := (0 : Nat) } : Addr) = some a10 ∧
 (0 : Int) ≤ (5 : Int) ∧ (5 : Int) < (↑(6 : Nat) : Int)) ∧
 ∃ (x30 : Int),
 At Hs (a2.add (Int.toNat (0 : Int) * nat_lit 1)) [Value.int IntKind.i64 x30] ∧
 ∃ (x31 : Int),
 At Hs (a3.add (Int.toNat (1 : Int) * nat_lit 1)) [Value.int IntKind.i64 x31] ∧
 ∃ (x32 : Int),
 At Hs (a4.add (Int.toNat (2 : Int) * nat_lit 1)) [Value.int IntKind.i64 x32] ∧
 ∃ (x33 : Int),
 At Hs (a5.add (Int.toNat (0 : Int) * nat_lit 1)) [Value.int IntKind.i64 x33] ∧
 ∃ (x34 : Int),
 At Hs (a6.add (Int.toNat (1 : Int) * nat_lit 1))
 [Value.int IntKind.i64 x34] ∧
 ∃ (x35 : Int),
 At Hs (a7.add (Int.toNat (2 : Int) * nat_lit 1))
 [Value.int IntKind.i64 x35] ∧
 ∃ (x36 : Int),
 At Hs (a8.add (Int.toNat (3 : Int) * nat_lit 1))
 [Value.int IntKind.i64 x36] ∧
 ∃ (x37 : Int),
 At Hs (a9.add (Int.toNat (4 : Int) * nat_lit 1))
 [Value.int IntKind.i64 x37] ∧
 ∃ (x38 : Int),
 At Hs (a10.add (Int.toNat (5 : Int) * nat_lit 1))
 [Value.int IntKind.i64 x38] ∧
 Ax.Sub Hs H2 ∧
 Ax.Sub Hs H2 ∧
 ∃ (b1 : Bool),
 (Tr Try.prog (15 : Nat)
 #[Value.agg
 #[Value.int IntKind.i64 x30,
 Value.int IntKind.i64 x31,
 Value.int IntKind.i64 x32,
 Value.int IntKind.i64 x33,
 Value.int IntKind.i64 x34,
 Value.int IntKind.i64 x35,
 Value.int IntKind.i64 x36,
 Value.int IntKind.i64 x37,
 Value.int IntKind.i64 x38]]
 H2 fun (v3 : Value) (H'4 : Heap) =>
 v3 = Value.bool b1 ∧ Ax.Sub H2 H'4) ∧
 ((!b1) = true →
 K
 (Value.tuple
 #[Value.agg
 #[Value.int IntKind.i64 (0 : Int),
 Value.int IntKind.i64 (0 : Int),
 Value.int IntKind.i64 (0 : Int),
 Value.int IntKind.i64 (0 : Int),
 Value.int IntKind.i64 (0 : Int),
 Value.int IntKind.i64 (0 : Int),
 Value.int IntKind.i64 (0 : Int),
 Value.int IntKind.i64 (0 : Int),
 Value.int IntKind.i64 (0 : Int)],
 Value.int IntKind.i64 (0 : Int),
 Value.int IntKind.i64 (54 : Int)])
 H2) ∧
 ((!b1) = false →
 K
 (Value.tuple
 #[Value.agg
 #[Value.int IntKind.i64 x30,
 Value.int IntKind.i64 x31,
 Value.int IntKind.i64 x32,
 Value.int IntKind.i64 x33,
 Value.int IntKind.i64 x34,
 Value.int IntKind.i64 x35,
 Value.int IntKind.i64 x36,
 Value.int IntKind.i64 x37,
 Value.int IntKind.i64 x38],
 Value.int IntKind.i64 x16,
 Value.int IntKind.i64 (0 : Int)])
 H2))))
theorem v19 {s : ByteArray} {H : Heap} {K : Value → Heap → Prop} (h : F19 s H K) : Tr Try.prog 19 #[.string s] H K :=
  tr_of_eq (C := c19) Try.func19 (show vcFn c19 Try.f19 [.string s] H K = F19 s H K by kernel_rfl) h

/- tapestry/event.numbers -/
noncomputable def c41 : Cx := { P := Try.prog, res := [], pub := [], loops := [], quiet := [] }
def F41 (eId : Int) (eTime : Int) (eKind : Int) (eA : Int) (eB : Int) (eC : Int) (eD : Int) (eE : Int) (eF : Int) (H : Heap) (K : Value → Heap → Prop) : Prop :=
 K (Value.agg #[Value.int IntKind.i64 eA, Value.int IntKind.i64 eB, Value.int IntKind.i64 eC, Value.int IntKind.i64 eD, Value.int IntKind.i64 eE, Value.int IntKind.i64 eF]) H
theorem v41 {eId : Int} {eTime : Int} {eKind : Int} {eA : Int} {eB : Int} {eC : Int} {eD : Int} {eE : Int} {eF : Int} {H : Heap} {K : Value → Heap → Prop} (h : F41 eId eTime eKind eA eB eC eD eE eF H K) : Tr Try.prog 41 #[.agg #[.int .i64 eId, .int .i64 eTime, .int .i64 eKind, .int .i64 eA, .int .i64 eB, .int .i64 eC, .int .i64 eD, .int .i64 eE, .int .i64 eF]] H K :=
  tr_of_eq (C := c41) Try.func41 (show vcFn c41 Try.f41 [.agg #[.int .i64 eId, .int .i64 eTime, .int .i64 eKind, .int .i64 eA, .int .i64 eB, .int .i64 eC, .int .i64 eD, .int .i64 eE, .int .i64 eF]] H K = F41 eId eTime eKind eA eB eC eD eE eF H K by kernel_rfl) h

/- tapestry/event.right -/
noncomputable def c42 : Cx := { P := Try.prog, res := [], pub := [], loops := [], quiet := [61] }
def F42 (eId : Int) (eTime : Int) (eKind : Int) (eA : Int) (eB : Int) (eC : Int) (eD : Int) (eE : Int) (eF : Int) (H : Heap) (K : Value → Heap → Prop) : Prop :=
 ((eKind == (1 : Int)) = true →
 ∃ (b : Bool),
 (Tr Try.prog (61 : Nat) #[Value.int IntKind.i64 eA] H fun (v : Value) (H' : Heap) => v = Value.bool b ∧ Ax.Sub H H') ∧
 K (Value.bool (b && decide (eC ≥ (0 : Int)) && decide (eD ≥ (0 : Int)) && decide (eE ≥ (0 : Int)) && decide (eF ≥ (0 : Int)))) H) ∧
 ((eKind == (1 : Int)) = false →
 ((eKind == (3 : Int)) = true →
 ((eKind == (3 : Int)) = true →
 ∃ (b1 : Bool), (Tr Try.prog (61 : Nat) #[Value.int IntKind.i64 eA] H fun (v1 : Value) (H'1 : Heap) => v1 = Value.bool b1 ∧ Ax.Sub H H'1) ∧ K (Value.bool b1) H) ∧
 ((eKind == (3 : Int)) = false →
 ((eKind == (19 : Int)) = true →
 ((eKind == (19 : Int)) = true →
 ∃ (b2 : Bool),
 (Tr Try.prog (61 : Nat) #[Value.int IntKind.i64 eA] H fun (v2 : Value) (H'2 : Heap) => v2 = Value.bool b2 ∧ Ax.Sub H H'2) ∧
 K (Value.bool (b2 && decide (eC ≥ (0 : Int)))) H) ∧
 ((eKind == (19 : Int)) = false →
 ((eKind == (10 : Int)) = true → K (Value.bool (decide (eA ≥ (0 : Int)) && decide (eA < (4 : Int)))) H) ∧
 ((eKind == (10 : Int)) = false →
 ((eKind == (4 : Int)) = true →
 ((eKind == (4 : Int)) = true → K (Value.bool (decide (eA ≥ (0 : Int)))) H) ∧
 ((eKind == (4 : Int)) = false →
 ((eKind == (11 : Int)) = true →
 ((eKind == (11 : Int)) = true → K (Value.bool true) H) ∧
 ((eKind == (11 : Int)) = false →
 ((eKind == (18 : Int)) = true → K (Value.bool (decide (eB ≥ (1 : Int)))) H) ∧
 ((eKind == (18 : Int)) = false →
 ((eKind == (9 : Int)) = true →
 ∃ (b3 : Bool),
 (decide (eA ≥ (1 : Int)) = true →
 Tr Try.prog (61 : Nat) #[Value.int IntKind.i64 eB] H fun (v3 : Value) (H'3 : Heap) => v3 = Value.bool b3 ∧ Ax.Sub H H'3) ∧
 K (Value.bool (decide (eA ≥ (1 : Int)) && b3)) H) ∧
 ((eKind == (9 : Int)) = false →
 ((eKind == (14 : Int)) = true → K (Value.bool (decide (eA ≥ (1 : Int)) && (eC == (0 : Int) || eC == (1 : Int)))) H) ∧
 ((eKind == (14 : Int)) = false →
 ((eKind == (26 : Int)) = true → K (Value.bool (decide (eA ≥ (1 : Int)) && decide (eB ≥ (1 : Int)))) H) ∧
 ((eKind == (26 : Int)) = false →
 ((eKind == (28 : Int)) = true →
 K (Value.bool (decide (eA ≥ (1 : Int)) && decide (eC ≥ (0 : Int)) && decide (eC ≤ (4 : Int)))) H) ∧
 ((eKind == (28 : Int)) = false →
 ((eKind == (24 : Int)) = true →
 ((decide (eB < (1 : Int)) || decide (eB > (4 : Int))) = true → K (Value.bool false) H) ∧
 ((decide (eB < (1 : Int)) || decide (eB > (4 : Int))) = false →
 K (Value.bool (decide (eA ≥ (1 : Int)) && decide (eC ≥ (1 : Int)))) H)) ∧
 ((eKind == (24 : Int)) = false →
 ((eKind == (22 : Int)) = true →
 ((eKind == (22 : Int)) = true → K (Value.bool (decide (eA ≥ (1 : Int)) && decide (eC ≥ (1 : Int)))) H) ∧
 ((eKind == (22 : Int)) = false → K (Value.bool (decide (eA ≥ (1 : Int)))) H)) ∧
 ((eKind == (22 : Int)) = false →
 ((eKind == (23 : Int)) = true → K (Value.bool (decide (eA ≥ (1 : Int)) && decide (eC ≥ (1 : Int)))) H) ∧
 ((eKind == (23 : Int)) = false → K (Value.bool (decide (eA ≥ (1 : Int)))) H)))))))))) ∧
 ((eKind == (11 : Int)) = false →
 ((eKind == (15 : Int)) = true →
 ((eKind == (15 : Int)) = true → K (Value.bool true) H) ∧
 ((eKind == (15 : Int)) = false →
 ((eKind == (18 : Int)) = true → K (Value.bool (decide (eB ≥ (1 : Int)))) H) ∧
 ((eKind == (18 : Int)) = false →
 ((eKind == (9 : Int)) = true →
 ∃ (b4 : Bool),
 (decide (eA ≥ (1 : Int)) = true →
 Tr Try.prog (61 : Nat) #[Value.int IntKind.i64 eB] H fun (v4 : Value) (H'4 : Heap) => v4 = Value.bool b4 ∧ Ax.Sub H H'4) ∧
 K (Value.bool (decide (eA ≥ (1 : Int)) && b4)) H) ∧
 ((eKind == (9 : Int)) = false →
 ((eKind == (14 : Int)) = true → K (Value.bool (decide (eA ≥ (1 : Int)) && (eC == (0 : Int) || eC == (1 : Int)))) H) ∧
 ((eKind == (14 : Int)) = false →
 ((eKind == (26 : Int)) = true → K (Value.bool (decide (eA ≥ (1 : Int)) && decide (eB ≥ (1 : Int)))) H) ∧
 ((eKind == (26 : Int)) = false →
 ((eKind == (28 : Int)) = true →
 K (Value.bool (decide (eA ≥ (1 : Int)) && decide (eC ≥ (0 : Int)) && decide (eC ≤ (4 : Int)))) H) ∧
 ((eKind == (28 : Int)) = false →
 ((eKind == (24 : Int)) = true →
 ((decide (eB < (1 : Int)) || decide (eB > (4 : Int))) = true → K (Value.bool false) H) ∧
 ((decide (eB < (1 : Int)) || decide (eB > (4 : Int))) = false →
 K (Value.bool (decide (eA ≥ (1 : Int)) && decide (eC ≥ (1 : Int)))) H)) ∧
 ((eKind == (24 : Int)) = false →
 ((eKind == (22 : Int)) = true →
 ((eKind == (22 : Int)) = true → K (Value.bool (decide (eA ≥ (1 : Int)) && decide (eC ≥ (1 : Int)))) H) ∧
 ((eKind == (22 : Int)) = false → K (Value.bool (decide (eA ≥ (1 : Int)))) H)) ∧
 ((eKind == (22 : Int)) = false →
 ((eKind == (23 : Int)) = true → K (Value.bool (decide (eA ≥ (1 : Int)) && decide (eC ≥ (1 : Int)))) H) ∧
 ((eKind == (23 : Int)) = false → K (Value.bool (decide (eA ≥ (1 : Int)))) H)))))))))) ∧
 ((eKind == (15 : Int)) = false →
 ((eKind == (16 : Int)) = true →
 ((eKind == (16 : Int)) = true → K (Value.bool true) H) ∧
 ((eKind == (16 : Int)) = false →
 ((eKind == (18 : Int)) = true → K (Value.bool (decide (eB ≥ (1 : Int)))) H) ∧
 ((eKind == (18 : Int)) = false →
 ((eKind == (9 : Int)) = true →
 ∃ (b5 : Bool),
 (decide (eA ≥ (1 : Int)) = true →
 Tr Try.prog (61 : Nat) #[Value.int IntKind.i64 eB] H fun (v5 : Value) (H'5 : Heap) =>
 v5 = Value.bool b5 ∧ Ax.Sub H H'5) ∧
 K (Value.bool (decide (eA ≥ (1 : Int)) && b5)) H) ∧
 ((eKind == (9 : Int)) = false →
 ((eKind == (14 : Int)) = true → K (Value.bool (decide (eA ≥ (1 : Int)) && (eC == (0 : Int) || eC == (1 : Int)))) H) ∧
 ((eKind == (14 : Int)) = false →
 ((eKind == (26 : Int)) = true → K (Value.bool (decide (eA ≥ (1 : Int)) && decide (eB ≥ (1 : Int)))) H) ∧
 ((eKind == (26 : Int)) = false →
 ((eKind == (28 : Int)) = true →
 K (Value.bool (decide (eA ≥ (1 : Int)) && decide (eC ≥ (0 : Int)) && decide (eC ≤ (4 : Int)))) H) ∧
 ((eKind == (28 : Int)) = false →
 ((eKind == (24 : Int)) = true →
 ((decide (eB < (1 : Int)) || decide (eB > (4 : Int))) = true → K (Value.bool false) H) ∧
 ((decide (eB < (1 : Int)) || decide (eB > (4 : Int))) = false →
 K (Value.bool (decide (eA ≥ (1 : Int)) && decide (eC ≥ (1 : Int)))) H)) ∧
 ((eKind == (24 : Int)) = false →
 ((eKind == (22 : Int)) = true →
 ((eKind == (22 : Int)) = true → K (Value.bool (decide (eA ≥ (1 : Int)) && decide (eC ≥ (1 : Int)))) H) ∧
 ((eKind == (22 : Int)) = false → K (Value.bool (decide (eA ≥ (1 : Int)))) H)) ∧
 ((eKind == (22 : Int)) = false →
 ((eKind == (23 : Int)) = true → K (Value.bool (decide (eA ≥ (1 : Int)) && decide (eC ≥ (1 : Int)))) H) ∧
 ((eKind == (23 : Int)) = false → K (Value.bool (decide (eA ≥ (1 : Int)))) H)))))))))) ∧
 ((eKind == (16 : Int)) = false →
 ((eKind == (17 : Int)) = true →
 ((eKind == (17 : Int)) = true → K (Value.bool true) H) ∧
 ((eKind == (17 : Int)) = false →
 ((eKind == (18 : Int)) = true → K (Value.bool (decide (eB ≥ (1 : Int)))) H) ∧
 ((eKind == (18 : Int)) = false →
 ((eKind == (9 : Int)) = true →
 ∃ (b6 : Bool),
 (decide (eA ≥ (1 : Int)) = true →
 Tr Try.prog (61 : Nat) #[Value.int IntKind.i64 eB] H fun (v6 : Value) (H'6 : Heap) =>
 v6 = Value.bool b6 ∧ Ax.Sub H H'6) ∧
 K (Value.bool (decide (eA ≥ (1 : Int)) && b6)) H) ∧
 ((eKind == (9 : Int)) = false →
 ((eKind == (14 : Int)) = true → K (Value.bool (decide (eA ≥ (1 : Int)) && (eC == (0 : Int) || eC == (1 : Int)))) H) ∧
 ((eKind == (14 : Int)) = false →
 ((eKind == (26 : Int)) = true → K (Value.bool (decide (eA ≥ (1 : Int)) && decide (eB ≥ (1 : Int)))) H) ∧
 ((eKind == (26 : Int)) = false →
 ((eKind == (28 : Int)) = true →
 K (Value.bool (decide (eA ≥ (1 : Int)) && decide (eC ≥ (0 : Int)) && decide (eC ≤ (4 : Int)))) H) ∧
 ((eKind == (28 : Int)) = false →
 ((eKind == (24 : Int)) = true →
 ((decide (eB < (1 : Int)) || decide (eB > (4 : Int))) = true → K (Value.bool false) H) ∧
 ((decide (eB < (1 : Int)) || decide (eB > (4 : Int))) = false →
 K (Value.bool (decide (eA ≥ (1 : Int)) && decide (eC ≥ (1 : Int)))) H)) ∧
 ((eKind == (24 : Int)) = false →
 ((eKind == (22 : Int)) = true →
 ((eKind == (22 : Int)) = true →
 K (Value.bool (decide (eA ≥ (1 : Int)) && decide (eC ≥ (1 : Int)))) H) ∧
 ((eKind == (22 : Int)) = false → K (Value.bool (decide (eA ≥ (1 : Int)))) H)) ∧
 ((eKind == (22 : Int)) = false →
 ((eKind == (23 : Int)) = true →
 K (Value.bool (decide (eA ≥ (1 : Int)) && decide (eC ≥ (1 : Int)))) H) ∧
 ((eKind == (23 : Int)) = false → K (Value.bool (decide (eA ≥ (1 : Int)))) H)))))))))) ∧
 ((eKind == (17 : Int)) = false →
 ((eKind == (30 : Int)) = true →
 ((eKind == (30 : Int)) = true → K (Value.bool true) H) ∧
 ((eKind == (30 : Int)) = false →
 ((eKind == (18 : Int)) = true → K (Value.bool (decide (eB ≥ (1 : Int)))) H) ∧
 ((eKind == (18 : Int)) = false →
 ((eKind == (9 : Int)) = true →
 ∃ (b7 : Bool),
 (decide (eA ≥ (1 : Int)) = true →
 Tr Try.prog (61 : Nat) #[Value.int IntKind.i64 eB] H fun (v7 : Value) (H'7 : Heap) =>
 v7 = Value.bool b7 ∧ Ax.Sub H H'7) ∧
 K (Value.bool (decide (eA ≥ (1 : Int)) && b7)) H) ∧
 ((eKind == (9 : Int)) = false →
 ((eKind == (14 : Int)) = true →
 K (Value.bool (decide (eA ≥ (1 : Int)) && (eC == (0 : Int) || eC == (1 : Int)))) H) ∧
 ((eKind == (14 : Int)) = false →
 ((eKind == (26 : Int)) = true → K (Value.bool (decide (eA ≥ (1 : Int)) && decide (eB ≥ (1 : Int)))) H) ∧
 ((eKind == (26 : Int)) = false →
 ((eKind == (28 : Int)) = true →
 K (Value.bool (decide (eA ≥ (1 : Int)) && decide (eC ≥ (0 : Int)) && decide (eC ≤ (4 : Int)))) H) ∧
 ((eKind == (28 : Int)) = false →
 ((eKind == (24 : Int)) = true →
 ((decide (eB < (1 : Int)) || decide (eB > (4 : Int))) = true → K (Value.bool false) H) ∧
 ((decide (eB < (1 : Int)) || decide (eB > (4 : Int))) = false →
 K (Value.bool (decide (eA ≥ (1 : Int)) && decide (eC ≥ (1 : Int)))) H)) ∧
 ((eKind == (24 : Int)) = false →
 ((eKind == (22 : Int)) = true →
 ((eKind == (22 : Int)) = true →
 K (Value.bool (decide (eA ≥ (1 : Int)) && decide (eC ≥ (1 : Int)))) H) ∧
 ((eKind == (22 : Int)) = false → K (Value.bool (decide (eA ≥ (1 : Int)))) H)) ∧
 ((eKind == (22 : Int)) = false →
 ((eKind == (23 : Int)) = true →
 K (Value.bool (decide (eA ≥ (1 : Int)) && decide (eC ≥ (1 : Int)))) H) ∧
 ((eKind == (23 : Int)) = false → K (Value.bool (decide (eA ≥ (1 : Int)))) H)))))))))) ∧
 ((eKind == (30 : Int)) = false →
 ((eKind == (31 : Int)) = true → K (Value.bool true) H) ∧
 ((eKind == (31 : Int)) = false →
 ((eKind == (18 : Int)) = true → K (Value.bool (decide (eB ≥ (1 : Int)))) H) ∧
 ((eKind == (18 : Int)) = false →
 ((eKind == (9 : Int)) = true →
 ∃ (b8 : Bool),
 (decide (eA ≥ (1 : Int)) = true →
 Tr Try.prog (61 : Nat) #[Value.int IntKind.i64 eB] H fun (v8 : Value) (H'8 : Heap) =>
 v8 = Value.bool b8 ∧ Ax.Sub H H'8) ∧
 K (Value.bool (decide (eA ≥ (1 : Int)) && b8)) H) ∧
 ((eKind == (9 : Int)) = false →
 ((eKind == (14 : Int)) = true →
 K (Value.bool (decide (eA ≥ (1 : Int)) && (eC == (0 : Int) || eC == (1 : Int)))) H) ∧
 ((eKind == (14 : Int)) = false →
 ((eKind == (26 : Int)) = true → K (Value.bool (decide (eA ≥ (1 : Int)) && decide (eB ≥ (1 : Int)))) H) ∧
 ((eKind == (26 : Int)) = false →
 ((eKind == (28 : Int)) = true →
 K (Value.bool (decide (eA ≥ (1 : Int)) && decide (eC ≥ (0 : Int)) && decide (eC ≤ (4 : Int)))) H) ∧
 ((eKind == (28 : Int)) = false →
 ((eKind == (24 : Int)) = true →
 ((decide (eB < (1 : Int)) || decide (eB > (4 : Int))) = true → K (Value.bool false) H) ∧
 ((decide (eB < (1 : Int)) || decide (eB > (4 : Int))) = false →
 K (Value.bool (decide (eA ≥ (1 : Int)) && decide (eC ≥ (1 : Int)))) H)) ∧
 ((eKind == (24 : Int)) = false →
 ((eKind == (22 : Int)) = true →
 ((eKind == (22 : Int)) = true →
 K (Value.bool (decide (eA ≥ (1 : Int)) && decide (eC ≥ (1 : Int)))) H) ∧
 ((eKind == (22 : Int)) = false → K (Value.bool (decide (eA ≥ (1 : Int)))) H)) ∧
 ((eKind == (22 : Int)) = false →
 ((eKind == (23 : Int)) = true →
 K (Value.bool (decide (eA ≥ (1 : Int)) && decide (eC ≥ (1 : Int)))) H) ∧
 ((eKind == (23 : Int)) = false → K (Value.bool (decide (eA ≥ (1 : Int)))) H)))))))))))))))) ∧
 ((eKind == (4 : Int)) = false →
 ((eKind == (20 : Int)) = true → K (Value.bool (decide (eA ≥ (0 : Int)))) H) ∧
 ((eKind == (20 : Int)) = false →
 ((eKind == (11 : Int)) = true →
 ((eKind == (11 : Int)) = true → K (Value.bool true) H) ∧
 ((eKind == (11 : Int)) = false →
 ((eKind == (18 : Int)) = true → K (Value.bool (decide (eB ≥ (1 : Int)))) H) ∧
 ((eKind == (18 : Int)) = false →
 ((eKind == (9 : Int)) = true →
 ∃ (b9 : Bool),
 (decide (eA ≥ (1 : Int)) = true →
 Tr Try.prog (61 : Nat) #[Value.int IntKind.i64 eB] H fun (v9 : Value) (H'9 : Heap) => v9 = Value.bool b9 ∧ Ax.Sub H H'9) ∧
 K (Value.bool (decide (eA ≥ (1 : Int)) && b9)) H) ∧
 ((eKind == (9 : Int)) = false →
 ((eKind == (14 : Int)) = true → K (Value.bool (decide (eA ≥ (1 : Int)) && (eC == (0 : Int) || eC == (1 : Int)))) H) ∧
 ((eKind == (14 : Int)) = false →
 ((eKind == (26 : Int)) = true → K (Value.bool (decide (eA ≥ (1 : Int)) && decide (eB ≥ (1 : Int)))) H) ∧
 ((eKind == (26 : Int)) = false →
 ((eKind == (28 : Int)) = true →
 K (Value.bool (decide (eA ≥ (1 : Int)) && decide (eC ≥ (0 : Int)) && decide (eC ≤ (4 : Int)))) H) ∧
 ((eKind == (28 : Int)) = false →
 ((eKind == (24 : Int)) = true →
 ((decide (eB < (1 : Int)) || decide (eB > (4 : Int))) = true → K (Value.bool false) H) ∧
 ((decide (eB < (1 : Int)) || decide (eB > (4 : Int))) = false →
 K (Value.bool (decide (eA ≥ (1 : Int)) && decide (eC ≥ (1 : Int)))) H)) ∧
 ((eKind == (24 : Int)) = false →
 ((eKind == (22 : Int)) = true →
 ((eKind == (22 : Int)) = true → K (Value.bool (decide (eA ≥ (1 : Int)) && decide (eC ≥ (1 : Int)))) H) ∧
 ((eKind == (22 : Int)) = false → K (Value.bool (decide (eA ≥ (1 : Int)))) H)) ∧
 ((eKind == (22 : Int)) = false →
 ((eKind == (23 : Int)) = true → K (Value.bool (decide (eA ≥ (1 : Int)) && decide (eC ≥ (1 : Int)))) H) ∧
 ((eKind == (23 : Int)) = false → K (Value.bool (decide (eA ≥ (1 : Int)))) H)))))))))) ∧
 ((eKind == (11 : Int)) = false →
 ((eKind == (15 : Int)) = true →
 ((eKind == (15 : Int)) = true → K (Value.bool true) H) ∧
 ((eKind == (15 : Int)) = false →
 ((eKind == (18 : Int)) = true → K (Value.bool (decide (eB ≥ (1 : Int)))) H) ∧
 ((eKind == (18 : Int)) = false →
 ((eKind == (9 : Int)) = true →
 ∃ (b10 : Bool),
 (decide (eA ≥ (1 : Int)) = true →
 Tr Try.prog (61 : Nat) #[Value.int IntKind.i64 eB] H fun (v10 : Value) (H'10 : Heap) =>
 v10 = Value.bool b10 ∧ Ax.Sub H H'10) ∧
 K (Value.bool (decide (eA ≥ (1 : Int)) && b10)) H) ∧
 ((eKind == (9 : Int)) = false →
 ((eKind == (14 : Int)) = true → K (Value.bool (decide (eA ≥ (1 : Int)) && (eC == (0 : Int) || eC == (1 : Int)))) H) ∧
 ((eKind == (14 : Int)) = false →
 ((eKind == (26 : Int)) = true → K (Value.bool (decide (eA ≥ (1 : Int)) && decide (eB ≥ (1 : Int)))) H) ∧
 ((eKind == (26 : Int)) = false →
 ((eKind == (28 : Int)) = true →
 K (Value.bool (decide (eA ≥ (1 : Int)) && decide (eC ≥ (0 : Int)) && decide (eC ≤ (4 : Int)))) H) ∧
 ((eKind == (28 : Int)) = false →
 ((eKind == (24 : Int)) = true →
 ((decide (eB < (1 : Int)) || decide (eB > (4 : Int))) = true → K (Value.bool false) H) ∧
 ((decide (eB < (1 : Int)) || decide (eB > (4 : Int))) = false →
 K (Value.bool (decide (eA ≥ (1 : Int)) && decide (eC ≥ (1 : Int)))) H)) ∧
 ((eKind == (24 : Int)) = false →
 ((eKind == (22 : Int)) = true →
 ((eKind == (22 : Int)) = true → K (Value.bool (decide (eA ≥ (1 : Int)) && decide (eC ≥ (1 : Int)))) H) ∧
 ((eKind == (22 : Int)) = false → K (Value.bool (decide (eA ≥ (1 : Int)))) H)) ∧
 ((eKind == (22 : Int)) = false →
 ((eKind == (23 : Int)) = true → K (Value.bool (decide (eA ≥ (1 : Int)) && decide (eC ≥ (1 : Int)))) H) ∧
 ((eKind == (23 : Int)) = false → K (Value.bool (decide (eA ≥ (1 : Int)))) H)))))))))) ∧
 ((eKind == (15 : Int)) = false →
 ((eKind == (16 : Int)) = true →
 ((eKind == (16 : Int)) = true → K (Value.bool true) H) ∧
 ((eKind == (16 : Int)) = false →
 ((eKind == (18 : Int)) = true → K (Value.bool (decide (eB ≥ (1 : Int)))) H) ∧
 ((eKind == (18 : Int)) = false →
 ((eKind == (9 : Int)) = true →
 ∃ (b11 : Bool),
 (decide (eA ≥ (1 : Int)) = true →
 Tr Try.prog (61 : Nat) #[Value.int IntKind.i64 eB] H fun (v11 : Value) (H'11 : Heap) =>
 v11 = Value.bool b11 ∧ Ax.Sub H H'11) ∧
 K (Value.bool (decide (eA ≥ (1 : Int)) && b11)) H) ∧
 ((eKind == (9 : Int)) = false →
 ((eKind == (14 : Int)) = true → K (Value.bool (decide (eA ≥ (1 : Int)) && (eC == (0 : Int) || eC == (1 : Int)))) H) ∧
 ((eKind == (14 : Int)) = false →
 ((eKind == (26 : Int)) = true → K (Value.bool (decide (eA ≥ (1 : Int)) && decide (eB ≥ (1 : Int)))) H) ∧
 ((eKind == (26 : Int)) = false →
 ((eKind == (28 : Int)) = true →
 K (Value.bool (decide (eA ≥ (1 : Int)) && decide (eC ≥ (0 : Int)) && decide (eC ≤ (4 : Int)))) H) ∧
 ((eKind == (28 : Int)) = false →
 ((eKind == (24 : Int)) = true →
 ((decide (eB < (1 : Int)) || decide (eB > (4 : Int))) = true → K (Value.bool false) H) ∧
 ((decide (eB < (1 : Int)) || decide (eB > (4 : Int))) = false →
 K (Value.bool (decide (eA ≥ (1 : Int)) && decide (eC ≥ (1 : Int)))) H)) ∧
 ((eKind == (24 : Int)) = false →
 ((eKind == (22 : Int)) = true →
 ((eKind == (22 : Int)) = true → K (Value.bool (decide (eA ≥ (1 : Int)) && decide (eC ≥ (1 : Int)))) H) ∧
 ((eKind == (22 : Int)) = false → K (Value.bool (decide (eA ≥ (1 : Int)))) H)) ∧
 ((eKind == (22 : Int)) = false →
 ((eKind == (23 : Int)) = true → K (Value.bool (decide (eA ≥ (1 : Int)) && decide (eC ≥ (1 : Int)))) H) ∧
 ((eKind == (23 : Int)) = false → K (Value.bool (decide (eA ≥ (1 : Int)))) H)))))))))) ∧
 ((eKind == (16 : Int)) = false →
 ((eKind == (17 : Int)) = true →
 ((eKind == (17 : Int)) = true → K (Value.bool true) H) ∧
 ((eKind == (17 : Int)) = false →
 ((eKind == (18 : Int)) = true → K (Value.bool (decide (eB ≥ (1 : Int)))) H) ∧
 ((eKind == (18 : Int)) = false →
 ((eKind == (9 : Int)) = true →
 ∃ (b12 : Bool),
 (decide (eA ≥ (1 : Int)) = true →
 Tr Try.prog (61 : Nat) #[Value.int IntKind.i64 eB] H fun (v12 : Value) (H'12 : Heap) =>
 v12 = Value.bool b12 ∧ Ax.Sub H H'12) ∧
 K (Value.bool (decide (eA ≥ (1 : Int)) && b12)) H) ∧
 ((eKind == (9 : Int)) = false →
 ((eKind == (14 : Int)) = true → K (Value.bool (decide (eA ≥ (1 : Int)) && (eC == (0 : Int) || eC == (1 : Int)))) H) ∧
 ((eKind == (14 : Int)) = false →
 ((eKind == (26 : Int)) = true → K (Value.bool (decide (eA ≥ (1 : Int)) && decide (eB ≥ (1 : Int)))) H) ∧
 ((eKind == (26 : Int)) = false →
 ((eKind == (28 : Int)) = true →
 K (Value.bool (decide (eA ≥ (1 : Int)) && decide (eC ≥ (0 : Int)) && decide (eC ≤ (4 : Int)))) H) ∧
 ((eKind == (28 : Int)) = false →
 ((eKind == (24 : Int)) = true →
 ((decide (eB < (1 : Int)) || decide (eB > (4 : Int))) = true → K (Value.bool false) H) ∧
 ((decide (eB < (1 : Int)) || decide (eB > (4 : Int))) = false →
 K (Value.bool (decide (eA ≥ (1 : Int)) && decide (eC ≥ (1 : Int)))) H)) ∧
 ((eKind == (24 : Int)) = false →
 ((eKind == (22 : Int)) = true →
 ((eKind == (22 : Int)) = true →
 K (Value.bool (decide (eA ≥ (1 : Int)) && decide (eC ≥ (1 : Int)))) H) ∧
 ((eKind == (22 : Int)) = false → K (Value.bool (decide (eA ≥ (1 : Int)))) H)) ∧
 ((eKind == (22 : Int)) = false →
 ((eKind == (23 : Int)) = true →
 K (Value.bool (decide (eA ≥ (1 : Int)) && decide (eC ≥ (1 : Int)))) H) ∧
 ((eKind == (23 : Int)) = false → K (Value.bool (decide (eA ≥ (1 : Int)))) H)))))))))) ∧
 ((eKind == (17 : Int)) = false →
 ((eKind == (30 : Int)) = true →
 ((eKind == (30 : Int)) = true → K (Value.bool true) H) ∧
 ((eKind == (30 : Int)) = false →
 ((eKind == (18 : Int)) = true → K (Value.bool (decide (eB ≥ (1 : Int)))) H) ∧
 ((eKind == (18 : Int)) = false →
 ((eKind == (9 : Int)) = true →
 ∃ (b13 : Bool),
 (decide (eA ≥ (1 : Int)) = true →
 Tr Try.prog (61 : Nat) #[Value.int IntKind.i64 eB] H fun (v13 : Value) (H'13 : Heap) =>
 v13 = Value.bool b13 ∧ Ax.Sub H H'13) ∧
 K (Value.bool (decide (eA ≥ (1 : Int)) && b13)) H) ∧
 ((eKind == (9 : Int)) = false →
 ((eKind == (14 : Int)) = true →
 K (Value.bool (decide (eA ≥ (1 : Int)) && (eC == (0 : Int) || eC == (1 : Int)))) H) ∧
 ((eKind == (14 : Int)) = false →
 ((eKind == (26 : Int)) = true → K (Value.bool (decide (eA ≥ (1 : Int)) && decide (eB ≥ (1 : Int)))) H) ∧
 ((eKind == (26 : Int)) = false →
 ((eKind == (28 : Int)) = true →
 K (Value.bool (decide (eA ≥ (1 : Int)) && decide (eC ≥ (0 : Int)) && decide (eC ≤ (4 : Int)))) H) ∧
 ((eKind == (28 : Int)) = false →
 ((eKind == (24 : Int)) = true →
 ((decide (eB < (1 : Int)) || decide (eB > (4 : Int))) = true → K (Value.bool false) H) ∧
 ((decide (eB < (1 : Int)) || decide (eB > (4 : Int))) = false →
 K (Value.bool (decide (eA ≥ (1 : Int)) && decide (eC ≥ (1 : Int)))) H)) ∧
 ((eKind == (24 : Int)) = false →
 ((eKind == (22 : Int)) = true →
 ((eKind == (22 : Int)) = true →
 K (Value.bool (decide (eA ≥ (1 : Int)) && decide (eC ≥ (1 : Int)))) H) ∧
 ((eKind == (22 : Int)) = false → K (Value.bool (decide (eA ≥ (1 : Int)))) H)) ∧
 ((eKind == (22 : Int)) = false →
 ((eKind == (23 : Int)) = true →
 K (Value.bool (decide (eA ≥ (1 : Int)) && decide (eC ≥ (1 : Int)))) H) ∧
 ((eKind == (23 : Int)) = false → K (Value.bool (decide (eA ≥ (1 : Int)))) H)))))))))) ∧
 ((eKind == (30 : Int)) = false →
 ((eKind == (31 : Int)) = true → K (Value.bool true) H) ∧
 ((eKind == (31 : Int)) = false →
 ((eKind == (18 : Int)) = true → K (Value.bool (decide (eB ≥ (1 : Int)))) H) ∧
 ((eKind == (18 : Int)) = false →
 ((eKind == (9 : Int)) = true →
 ∃ (b14 : Bool),
 (decide (eA ≥ (1 : Int)) = true →
 Tr Try.prog (61 : Nat) #[Value.int IntKind.i64 eB] H fun (v14 : Value) (H'14 : Heap) =>
 v14 = Value.bool b14 ∧ Ax.Sub H H'14) ∧
 K (Value.bool (decide (eA ≥ (1 : Int)) && b14)) H) ∧
 ((eKind == (9 : Int)) = false →
 ((eKind == (14 : Int)) = true →
 K (Value.bool (decide (eA ≥ (1 : Int)) && (eC == (0 : Int) || eC == (1 : Int)))) H) ∧
 ((eKind == (14 : Int)) = false →
 ((eKind == (26 : Int)) = true → K (Value.bool (decide (eA ≥ (1 : Int)) && decide (eB ≥ (1 : Int)))) H) ∧
 ((eKind == (26 : Int)) = false →
 ((eKind == (28 : Int)) = true →
 K (Value.bool (decide (eA ≥ (1 : Int)) && decide (eC ≥ (0 : Int)) && decide (eC ≤ (4 : Int)))) H) ∧
 ((eKind == (28 : Int)) = false →
 ((eKind == (24 : Int)) = true →
 ((decide (eB < (1 : Int)) || decide (eB > (4 : Int))) = true → K (Value.bool false) H) ∧
 ((decide (eB < (1 : Int)) || decide (eB > (4 : Int))) = false →
 K (Value.bool (decide (eA ≥ (1 : Int)) && decide (eC ≥ (1 : Int)))) H)) ∧
 ((eKind == (24 : Int)) = false →
 ((eKind == (22 : Int)) = true →
 ((eKind == (22 : Int)) = true →
 K (Value.bool (decide (eA ≥ (1 : Int)) && decide (eC ≥ (1 : Int)))) H) ∧
 ((eKind == (22 : Int)) = false → K (Value.bool (decide (eA ≥ (1 : Int)))) H)) ∧
 ((eKind == (22 : Int)) = false →
 ((eKind == (23 : Int)) = true →
 K (Value.bool (decide (eA ≥ (1 : Int)) && decide (eC ≥ (1 : Int)))) H) ∧
 ((eKind == (23 : Int)) = false →
 K (Value.bool (decide (eA ≥ (1 : Int)))) H))))))))))))))))))) ∧
 ((eKind == (19 : Int)) = false →
 ((eKind == (21 : Int)) = true →
 ∃ (b15 : Bool),
 (Tr Try.prog (61 : Nat) #[Value.int IntKind.i64 eA] H fun (v15 : Value) (H'15 : Heap) => v15 = Value.bool b15 ∧ Ax.Sub H H'15) ∧
 K (Value.bool (b15 && decide (eC ≥ (0 : Int)))) H) ∧
 ((eKind == (21 : Int)) = false →
 ((eKind == (10 : Int)) = true → K (Value.bool (decide (eA ≥ (0 : Int)) && decide (eA < (4 : Int)))) H) ∧
 ((eKind == (10 : Int)) = false →
 ((eKind == (4 : Int)) = true →
 ((eKind == (4 : Int)) = true → K (Value.bool (decide (eA ≥ (0 : Int)))) H) ∧
 ((eKind == (4 : Int)) = false →
 ((eKind == (11 : Int)) = true →
 ((eKind == (11 : Int)) = true → K (Value.bool true) H) ∧
 ((eKind == (11 : Int)) = false →
 ((eKind == (18 : Int)) = true → K (Value.bool (decide (eB ≥ (1 : Int)))) H) ∧
 ((eKind == (18 : Int)) = false →
 ((eKind == (9 : Int)) = true →
 ∃ (b16 : Bool),
 (decide (eA ≥ (1 : Int)) = true →
 Tr Try.prog (61 : Nat) #[Value.int IntKind.i64 eB] H fun (v16 : Value) (H'16 : Heap) =>
 v16 = Value.bool b16 ∧ Ax.Sub H H'16) ∧
 K (Value.bool (decide (eA ≥ (1 : Int)) && b16)) H) ∧
 ((eKind == (9 : Int)) = false →
 ((eKind == (14 : Int)) = true → K (Value.bool (decide (eA ≥ (1 : Int)) && (eC == (0 : Int) || eC == (1 : Int)))) H) ∧
 ((eKind == (14 : Int)) = false →
 ((eKind == (26 : Int)) = true → K (Value.bool (decide (eA ≥ (1 : Int)) && decide (eB ≥ (1 : Int)))) H) ∧
 ((eKind == (26 : Int)) = false →
 ((eKind == (28 : Int)) = true →
 K (Value.bool (decide (eA ≥ (1 : Int)) && decide (eC ≥ (0 : Int)) && decide (eC ≤ (4 : Int)))) H) ∧
 ((eKind == (28 : Int)) = false →
 ((eKind == (24 : Int)) = true →
 ((decide (eB < (1 : Int)) || decide (eB > (4 : Int))) = true → K (Value.bool false) H) ∧
 ((decide (eB < (1 : Int)) || decide (eB > (4 : Int))) = false →
 K (Value.bool (decide (eA ≥ (1 : Int)) && decide (eC ≥ (1 : Int)))) H)) ∧
 ((eKind == (24 : Int)) = false →
 ((eKind == (22 : Int)) = true →
 ((eKind == (22 : Int)) = true → K (Value.bool (decide (eA ≥ (1 : Int)) && decide (eC ≥ (1 : Int)))) H) ∧
 ((eKind == (22 : Int)) = false → K (Value.bool (decide (eA ≥ (1 : Int)))) H)) ∧
 ((eKind == (22 : Int)) = false →
 ((eKind == (23 : Int)) = true → K (Value.bool (decide (eA ≥ (1 : Int)) && decide (eC ≥ (1 : Int)))) H) ∧
 ((eKind == (23 : Int)) = false → K (Value.bool (decide (eA ≥ (1 : Int)))) H)))))))))) ∧
 ((eKind == (11 : Int)) = false →
 ((eKind == (15 : Int)) = true →
 ((eKind == (15 : Int)) = true → K (Value.bool true) H) ∧
 ((eKind == (15 : Int)) = false →
 ((eKind == (18 : Int)) = true → K (Value.bool (decide (eB ≥ (1 : Int)))) H) ∧
 ((eKind == (18 : Int)) = false →
 ((eKind == (9 : Int)) = true →
 ∃ (b17 : Bool),
 (decide (eA ≥ (1 : Int)) = true →
 Tr Try.prog (61 : Nat) #[Value.int IntKind.i64 eB] H fun (v17 : Value) (H'17 : Heap) =>
 v17 = Value.bool b17 ∧ Ax.Sub H H'17) ∧
 K (Value.bool (decide (eA ≥ (1 : Int)) && b17)) H) ∧
 ((eKind == (9 : Int)) = false →
 ((eKind == (14 : Int)) = true → K (Value.bool (decide (eA ≥ (1 : Int)) && (eC == (0 : Int) || eC == (1 : Int)))) H) ∧
 ((eKind == (14 : Int)) = false →
 ((eKind == (26 : Int)) = true → K (Value.bool (decide (eA ≥ (1 : Int)) && decide (eB ≥ (1 : Int)))) H) ∧
 ((eKind == (26 : Int)) = false →
 ((eKind == (28 : Int)) = true →
 K (Value.bool (decide (eA ≥ (1 : Int)) && decide (eC ≥ (0 : Int)) && decide (eC ≤ (4 : Int)))) H) ∧
 ((eKind == (28 : Int)) = false →
 ((eKind == (24 : Int)) = true →
 ((decide (eB < (1 : Int)) || decide (eB > (4 : Int))) = true → K (Value.bool false) H) ∧
 ((decide (eB < (1 : Int)) || decide (eB > (4 : Int))) = false →
 K (Value.bool (decide (eA ≥ (1 : Int)) && decide (eC ≥ (1 : Int)))) H)) ∧
 ((eKind == (24 : Int)) = false →
 ((eKind == (22 : Int)) = true →
 ((eKind == (22 : Int)) = true → K (Value.bool (decide (eA ≥ (1 : Int)) && decide (eC ≥ (1 : Int)))) H) ∧
 ((eKind == (22 : Int)) = false → K (Value.bool (decide (eA ≥ (1 : Int)))) H)) ∧
 ((eKind == (22 : Int)) = false →
 ((eKind == (23 : Int)) = true → K (Value.bool (decide (eA ≥ (1 : Int)) && decide (eC ≥ (1 : Int)))) H) ∧
 ((eKind == (23 : Int)) = false → K (Value.bool (decide (eA ≥ (1 : Int)))) H)))))))))) ∧
 ((eKind == (15 : Int)) = false →
 ((eKind == (16 : Int)) = true →
 ((eKind == (16 : Int)) = true → K (Value.bool true) H) ∧
 ((eKind == (16 : Int)) = false →
 ((eKind == (18 : Int)) = true → K (Value.bool (decide (eB ≥ (1 : Int)))) H) ∧
 ((eKind == (18 : Int)) = false →
 ((eKind == (9 : Int)) = true →
 ∃ (b18 : Bool),
 (decide (eA ≥ (1 : Int)) = true →
 Tr Try.prog (61 : Nat) #[Value.int IntKind.i64 eB] H fun (v18 : Value) (H'18 : Heap) =>
 v18 = Value.bool b18 ∧ Ax.Sub H H'18) ∧
 K (Value.bool (decide (eA ≥ (1 : Int)) && b18)) H) ∧
 ((eKind == (9 : Int)) = false →
 ((eKind == (14 : Int)) = true → K (Value.bool (decide (eA ≥ (1 : Int)) && (eC == (0 : Int) || eC == (1 : Int)))) H) ∧
 ((eKind == (14 : Int)) = false →
 ((eKind == (26 : Int)) = true → K (Value.bool (decide (eA ≥ (1 : Int)) && decide (eB ≥ (1 : Int)))) H) ∧
 ((eKind == (26 : Int)) = false →
 ((eKind == (28 : Int)) = true →
 K (Value.bool (decide (eA ≥ (1 : Int)) && decide (eC ≥ (0 : Int)) && decide (eC ≤ (4 : Int)))) H) ∧
 ((eKind == (28 : Int)) = false →
 ((eKind == (24 : Int)) = true →
 ((decide (eB < (1 : Int)) || decide (eB > (4 : Int))) = true → K (Value.bool false) H) ∧
 ((decide (eB < (1 : Int)) || decide (eB > (4 : Int))) = false →
 K (Value.bool (decide (eA ≥ (1 : Int)) && decide (eC ≥ (1 : Int)))) H)) ∧
 ((eKind == (24 : Int)) = false →
 ((eKind == (22 : Int)) = true →
 ((eKind == (22 : Int)) = true → K (Value.bool (decide (eA ≥ (1 : Int)) && decide (eC ≥ (1 : Int)))) H) ∧
 ((eKind == (22 : Int)) = false → K (Value.bool (decide (eA ≥ (1 : Int)))) H)) ∧
 ((eKind == (22 : Int)) = false →
 ((eKind == (23 : Int)) = true → K (Value.bool (decide (eA ≥ (1 : Int)) && decide (eC ≥ (1 : Int)))) H) ∧
 ((eKind == (23 : Int)) = false → K (Value.bool (decide (eA ≥ (1 : Int)))) H)))))))))) ∧
 ((eKind == (16 : Int)) = false →
 ((eKind == (17 : Int)) = true →
 ((eKind == (17 : Int)) = true → K (Value.bool true) H) ∧
 ((eKind == (17 : Int)) = false →
 ((eKind == (18 : Int)) = true → K (Value.bool (decide (eB ≥ (1 : Int)))) H) ∧
 ((eKind == (18 : Int)) = false →
 ((eKind == (9 : Int)) = true →
 ∃ (b19 : Bool),
 (decide (eA ≥ (1 : Int)) = true →
 Tr Try.prog (61 : Nat) #[Value.int IntKind.i64 eB] H fun (v19 : Value) (H'19 : Heap) =>
 v19 = Value.bool b19 ∧ Ax.Sub H H'19) ∧
 K (Value.bool (decide (eA ≥ (1 : Int)) && b19)) H) ∧
 ((eKind == (9 : Int)) = false →
 ((eKind == (14 : Int)) = true → K (Value.bool (decide (eA ≥ (1 : Int)) && (eC == (0 : Int) || eC == (1 : Int)))) H) ∧
 ((eKind == (14 : Int)) = false →
 ((eKind == (26 : Int)) = true → K (Value.bool (decide (eA ≥ (1 : Int)) && decide (eB ≥ (1 : Int)))) H) ∧
 ((eKind == (26 : Int)) = false →
 ((eKind == (28 : Int)) = true →
 K (Value.bool (decide (eA ≥ (1 : Int)) && decide (eC ≥ (0 : Int)) && decide (eC ≤ (4 : Int)))) H) ∧
 ((eKind == (28 : Int)) = false →
 ((eKind == (24 : Int)) = true →
 ((decide (eB < (1 : Int)) || decide (eB > (4 : Int))) = true → K (Value.bool false) H) ∧
 ((decide (eB < (1 : Int)) || decide (eB > (4 : Int))) = false →
 K (Value.bool (decide (eA ≥ (1 : Int)) && decide (eC ≥ (1 : Int)))) H)) ∧
 ((eKind == (24 : Int)) = false →
 ((eKind == (22 : Int)) = true →
 ((eKind == (22 : Int)) = true →
 K (Value.bool (decide (eA ≥ (1 : Int)) && decide (eC ≥ (1 : Int)))) H) ∧
 ((eKind == (22 : Int)) = false → K (Value.bool (decide (eA ≥ (1 : Int)))) H)) ∧
 ((eKind == (22 : Int)) = false →
 ((eKind == (23 : Int)) = true →
 K (Value.bool (decide (eA ≥ (1 : Int)) && decide (eC ≥ (1 : Int)))) H) ∧
 ((eKind == (23 : Int)) = false → K (Value.bool (decide (eA ≥ (1 : Int)))) H)))))))))) ∧
 ((eKind == (17 : Int)) = false →
 ((eKind == (30 : Int)) = true →
 ((eKind == (30 : Int)) = true → K (Value.bool true) H) ∧
 ((eKind == (30 : Int)) = false →
 ((eKind == (18 : Int)) = true → K (Value.bool (decide (eB ≥ (1 : Int)))) H) ∧
 ((eKind == (18 : Int)) = false →
 ((eKind == (9 : Int)) = true →
 ∃ (b20 : Bool),
 (decide (eA ≥ (1 : Int)) = true →
 Tr Try.prog (61 : Nat) #[Value.int IntKind.i64 eB] H fun (v20 : Value) (H'20 : Heap) =>
 v20 = Value.bool b20 ∧ Ax.Sub H H'20) ∧
 K (Value.bool (decide (eA ≥ (1 : Int)) && b20)) H) ∧
 ((eKind == (9 : Int)) = false →
 ((eKind == (14 : Int)) = true →
 K (Value.bool (decide (eA ≥ (1 : Int)) && (eC == (0 : Int) || eC == (1 : Int)))) H) ∧
 ((eKind == (14 : Int)) = false →
 ((eKind == (26 : Int)) = true → K (Value.bool (decide (eA ≥ (1 : Int)) && decide (eB ≥ (1 : Int)))) H) ∧
 ((eKind == (26 : Int)) = false →
 ((eKind == (28 : Int)) = true →
 K (Value.bool (decide (eA ≥ (1 : Int)) && decide (eC ≥ (0 : Int)) && decide (eC ≤ (4 : Int)))) H) ∧
 ((eKind == (28 : Int)) = false →
 ((eKind == (24 : Int)) = true →
 ((decide (eB < (1 : Int)) || decide (eB > (4 : Int))) = true → K (Value.bool false) H) ∧
 ((decide (eB < (1 : Int)) || decide (eB > (4 : Int))) = false →
 K (Value.bool (decide (eA ≥ (1 : Int)) && decide (eC ≥ (1 : Int)))) H)) ∧
 ((eKind == (24 : Int)) = false →
 ((eKind == (22 : Int)) = true →
 ((eKind == (22 : Int)) = true →
 K (Value.bool (decide (eA ≥ (1 : Int)) && decide (eC ≥ (1 : Int)))) H) ∧
 ((eKind == (22 : Int)) = false → K (Value.bool (decide (eA ≥ (1 : Int)))) H)) ∧
 ((eKind == (22 : Int)) = false →
 ((eKind == (23 : Int)) = true →
 K (Value.bool (decide (eA ≥ (1 : Int)) && decide (eC ≥ (1 : Int)))) H) ∧
 ((eKind == (23 : Int)) = false → K (Value.bool (decide (eA ≥ (1 : Int)))) H)))))))))) ∧
 ((eKind == (30 : Int)) = false →
 ((eKind == (31 : Int)) = true → K (Value.bool true) H) ∧
 ((eKind == (31 : Int)) = false →
 ((eKind == (18 : Int)) = true → K (Value.bool (decide (eB ≥ (1 : Int)))) H) ∧
 ((eKind == (18 : Int)) = false →
 ((eKind == (9 : Int)) = true →
 ∃ (b21 : Bool),
 (decide (eA ≥ (1 : Int)) = true →
 Tr Try.prog (61 : Nat) #[Value.int IntKind.i64 eB] H fun (v21 : Value) (H'21 : Heap) =>
 v21 = Value.bool b21 ∧ Ax.Sub H H'21) ∧
 K (Value.bool (decide (eA ≥ (1 : Int)) && b21)) H) ∧
 ((eKind == (9 : Int)) = false →
 ((eKind == (14 : Int)) = true →
 K (Value.bool (decide (eA ≥ (1 : Int)) && (eC == (0 : Int) || eC == (1 : Int)))) H) ∧
 ((eKind == (14 : Int)) = false →
 ((eKind == (26 : Int)) = true → K (Value.bool (decide (eA ≥ (1 : Int)) && decide (eB ≥ (1 : Int)))) H) ∧
 ((eKind == (26 : Int)) = false →
 ((eKind == (28 : Int)) = true →
 K (Value.bool (decide (eA ≥ (1 : Int)) && decide (eC ≥ (0 : Int)) && decide (eC ≤ (4 : Int)))) H) ∧
 ((eKind == (28 : Int)) = false →
 ((eKind == (24 : Int)) = true →
 ((decide (eB < (1 : Int)) || decide (eB > (4 : Int))) = true → K (Value.bool false) H) ∧
 ((decide (eB < (1 : Int)) || decide (eB > (4 : Int))) = false →
 K (Value.bool (decide (eA ≥ (1 : Int)) && decide (eC ≥ (1 : Int)))) H)) ∧
 ((eKind == (24 : Int)) = false →
 ((eKind == (22 : Int)) = true →
 ((eKind == (22 : Int)) = true →
 K (Value.bool (decide (eA ≥ (1 : Int)) && decide (eC ≥ (1 : Int)))) H) ∧
 ((eKind == (22 : Int)) = false → K (Value.bool (decide (eA ≥ (1 : Int)))) H)) ∧
 ((eKind == (22 : Int)) = false →
 ((eKind == (23 : Int)) = true →
 K (Value.bool (decide (eA ≥ (1 : Int)) && decide (eC ≥ (1 : Int)))) H) ∧
 ((eKind == (23 : Int)) = false → K (Value.bool (decide (eA ≥ (1 : Int)))) H)))))))))))))))) ∧
 ((eKind == (4 : Int)) = false →
 ((eKind == (20 : Int)) = true → K (Value.bool (decide (eA ≥ (0 : Int)))) H) ∧
 ((eKind == (20 : Int)) = false →
 ((eKind == (11 : Int)) = true →
 ((eKind == (11 : Int)) = true → K (Value.bool true) H) ∧
 ((eKind == (11 : Int)) = false →
 ((eKind == (18 : Int)) = true → K (Value.bool (decide (eB ≥ (1 : Int)))) H) ∧
 ((eKind == (18 : Int)) = false →
 ((eKind == (9 : Int)) = true →
 ∃ (b22 : Bool),
 (decide (eA ≥ (1 : Int)) = true →
 Tr Try.prog (61 : Nat) #[Value.int IntKind.i64 eB] H fun (v22 : Value) (H'22 : Heap) =>
 v22 = Value.bool b22 ∧ Ax.Sub H H'22) ∧
 K (Value.bool (decide (eA ≥ (1 : Int)) && b22)) H) ∧
 ((eKind == (9 : Int)) = false →
 ((eKind == (14 : Int)) = true → K (Value.bool (decide (eA ≥ (1 : Int)) && (eC == (0 : Int) || eC == (1 : Int)))) H) ∧
 ((eKind == (14 : Int)) = false →
 ((eKind == (26 : Int)) = true → K (Value.bool (decide (eA ≥ (1 : Int)) && decide (eB ≥ (1 : Int)))) H) ∧
 ((eKind == (26 : Int)) = false →
 ((eKind == (28 : Int)) = true →
 K (Value.bool (decide (eA ≥ (1 : Int)) && decide (eC ≥ (0 : Int)) && decide (eC ≤ (4 : Int)))) H) ∧
 ((eKind == (28 : Int)) = false →
 ((eKind == (24 : Int)) = true →
 ((decide (eB < (1 : Int)) || decide (eB > (4 : Int))) = true → K (Value.bool false) H) ∧
 ((decide (eB < (1 : Int)) || decide (eB > (4 : Int))) = false →
 K (Value.bool (decide (eA ≥ (1 : Int)) && decide (eC ≥ (1 : Int)))) H)) ∧
 ((eKind == (24 : Int)) = false →
 ((eKind == (22 : Int)) = true →
 ((eKind == (22 : Int)) = true → K (Value.bool (decide (eA ≥ (1 : Int)) && decide (eC ≥ (1 : Int)))) H) ∧
 ((eKind == (22 : Int)) = false → K (Value.bool (decide (eA ≥ (1 : Int)))) H)) ∧
 ((eKind == (22 : Int)) = false →
 ((eKind == (23 : Int)) = true → K (Value.bool (decide (eA ≥ (1 : Int)) && decide (eC ≥ (1 : Int)))) H) ∧
 ((eKind == (23 : Int)) = false → K (Value.bool (decide (eA ≥ (1 : Int)))) H)))))))))) ∧
 ((eKind == (11 : Int)) = false →
 ((eKind == (15 : Int)) = true →
 ((eKind == (15 : Int)) = true → K (Value.bool true) H) ∧
 ((eKind == (15 : Int)) = false →
 ((eKind == (18 : Int)) = true → K (Value.bool (decide (eB ≥ (1 : Int)))) H) ∧
 ((eKind == (18 : Int)) = false →
 ((eKind == (9 : Int)) = true →
 ∃ (b23 : Bool),
 (decide (eA ≥ (1 : Int)) = true →
 Tr Try.prog (61 : Nat) #[Value.int IntKind.i64 eB] H fun (v23 : Value) (H'23 : Heap) =>
 v23 = Value.bool b23 ∧ Ax.Sub H H'23) ∧
 K (Value.bool (decide (eA ≥ (1 : Int)) && b23)) H) ∧
 ((eKind == (9 : Int)) = false →
 ((eKind == (14 : Int)) = true → K (Value.bool (decide (eA ≥ (1 : Int)) && (eC == (0 : Int) || eC == (1 : Int)))) H) ∧
 ((eKind == (14 : Int)) = false →
 ((eKind == (26 : Int)) = true → K (Value.bool (decide (eA ≥ (1 : Int)) && decide (eB ≥ (1 : Int)))) H) ∧
 ((eKind == (26 : Int)) = false →
 ((eKind == (28 : Int)) = true →
 K (Value.bool (decide (eA ≥ (1 : Int)) && decide (eC ≥ (0 : Int)) && decide (eC ≤ (4 : Int)))) H) ∧
 ((eKind == (28 : Int)) = false →
 ((eKind == (24 : Int)) = true →
 ((decide (eB < (1 : Int)) || decide (eB > (4 : Int))) = true → K (Value.bool false) H) ∧
 ((decide (eB < (1 : Int)) || decide (eB > (4 : Int))) = false →
 K (Value.bool (decide (eA ≥ (1 : Int)) && decide (eC ≥ (1 : Int)))) H)) ∧
 ((eKind == (24 : Int)) = false →
 ((eKind == (22 : Int)) = true →
 ((eKind == (22 : Int)) = true → K (Value.bool (decide (eA ≥ (1 : Int)) && decide (eC ≥ (1 : Int)))) H) ∧
 ((eKind == (22 : Int)) = false → K (Value.bool (decide (eA ≥ (1 : Int)))) H)) ∧
 ((eKind == (22 : Int)) = false →
 ((eKind == (23 : Int)) = true → K (Value.bool (decide (eA ≥ (1 : Int)) && decide (eC ≥ (1 : Int)))) H) ∧
 ((eKind == (23 : Int)) = false → K (Value.bool (decide (eA ≥ (1 : Int)))) H)))))))))) ∧
 ((eKind == (15 : Int)) = false →
 ((eKind == (16 : Int)) = true →
 ((eKind == (16 : Int)) = true → K (Value.bool true) H) ∧
 ((eKind == (16 : Int)) = false →
 ((eKind == (18 : Int)) = true → K (Value.bool (decide (eB ≥ (1 : Int)))) H) ∧
 ((eKind == (18 : Int)) = false →
 ((eKind == (9 : Int)) = true →
 ∃ (b24 : Bool),
 (decide (eA ≥ (1 : Int)) = true →
 Tr Try.prog (61 : Nat) #[Value.int IntKind.i64 eB] H fun (v24 : Value) (H'24 : Heap) =>
 v24 = Value.bool b24 ∧ Ax.Sub H H'24) ∧
 K (Value.bool (decide (eA ≥ (1 : Int)) && b24)) H) ∧
 ((eKind == (9 : Int)) = false →
 ((eKind == (14 : Int)) = true → K (Value.bool (decide (eA ≥ (1 : Int)) && (eC == (0 : Int) || eC == (1 : Int)))) H) ∧
 ((eKind == (14 : Int)) = false →
 ((eKind == (26 : Int)) = true → K (Value.bool (decide (eA ≥ (1 : Int)) && decide (eB ≥ (1 : Int)))) H) ∧
 ((eKind == (26 : Int)) = false →
 ((eKind == (28 : Int)) = true →
 K (Value.bool (decide (eA ≥ (1 : Int)) && decide (eC ≥ (0 : Int)) && decide (eC ≤ (4 : Int)))) H) ∧
 ((eKind == (28 : Int)) = false →
 ((eKind == (24 : Int)) = true →
 ((decide (eB < (1 : Int)) || decide (eB > (4 : Int))) = true → K (Value.bool false) H) ∧
 ((decide (eB < (1 : Int)) || decide (eB > (4 : Int))) = false →
 K (Value.bool (decide (eA ≥ (1 : Int)) && decide (eC ≥ (1 : Int)))) H)) ∧
 ((eKind == (24 : Int)) = false →
 ((eKind == (22 : Int)) = true →
 ((eKind == (22 : Int)) = true → K (Value.bool (decide (eA ≥ (1 : Int)) && decide (eC ≥ (1 : Int)))) H) ∧
 ((eKind == (22 : Int)) = false → K (Value.bool (decide (eA ≥ (1 : Int)))) H)) ∧
 ((eKind == (22 : Int)) = false →
 ((eKind == (23 : Int)) = true → K (Value.bool (decide (eA ≥ (1 : Int)) && decide (eC ≥ (1 : Int)))) H) ∧
 ((eKind == (23 : Int)) = false → K (Value.bool (decide (eA ≥ (1 : Int)))) H)))))))))) ∧
 ((eKind == (16 : Int)) = false →
 ((eKind == (17 : Int)) = true →
 ((eKind == (17 : Int)) = true → K (Value.bool true) H) ∧
 ((eKind == (17 : Int)) = false →
 ((eKind == (18 : Int)) = true → K (Value.bool (decide (eB ≥ (1 : Int)))) H) ∧
 ((eKind == (18 : Int)) = false →
 ((eKind == (9 : Int)) = true →
 ∃ (b25 : Bool),
 (decide (eA ≥ (1 : Int)) = true →
 Tr Try.prog (61 : Nat) #[Value.int IntKind.i64 eB] H fun (v25 : Value) (H'25 : Heap) =>
 v25 = Value.bool b25 ∧ Ax.Sub H H'25) ∧
 K (Value.bool (decide (eA ≥ (1 : Int)) && b25)) H) ∧
 ((eKind == (9 : Int)) = false →
 ((eKind == (14 : Int)) = true → K (Value.bool (decide (eA ≥ (1 : Int)) && (eC == (0 : Int) || eC == (1 : Int)))) H) ∧
 ((eKind == (14 : Int)) = false →
 ((eKind == (26 : Int)) = true → K (Value.bool (decide (eA ≥ (1 : Int)) && decide (eB ≥ (1 : Int)))) H) ∧
 ((eKind == (26 : Int)) = false →
 ((eKind == (28 : Int)) = true →
 K (Value.bool (decide (eA ≥ (1 : Int)) && decide (eC ≥ (0 : Int)) && decide (eC ≤ (4 : Int)))) H) ∧
 ((eKind == (28 : Int)) = false →
 ((eKind == (24 : Int)) = true →
 ((decide (eB < (1 : Int)) || decide (eB > (4 : Int))) = true → K (Value.bool false) H) ∧
 ((decide (eB < (1 : Int)) || decide (eB > (4 : Int))) = false →
 K (Value.bool (decide (eA ≥ (1 : Int)) && decide (eC ≥ (1 : Int)))) H)) ∧
 ((eKind == (24 : Int)) = false →
 ((eKind == (22 : Int)) = true →
 ((eKind == (22 : Int)) = true →
 K (Value.bool (decide (eA ≥ (1 : Int)) && decide (eC ≥ (1 : Int)))) H) ∧
 ((eKind == (22 : Int)) = false → K (Value.bool (decide (eA ≥ (1 : Int)))) H)) ∧
 ((eKind == (22 : Int)) = false →
 ((eKind == (23 : Int)) = true →
 K (Value.bool (decide (eA ≥ (1 : Int)) && decide (eC ≥ (1 : Int)))) H) ∧
 ((eKind == (23 : Int)) = false → K (Value.bool (decide (eA ≥ (1 : Int)))) H)))))))))) ∧
 ((eKind == (17 : Int)) = false →
 ((eKind == (30 : Int)) = true →
 ((eKind == (30 : Int)) = true → K (Value.bool true) H) ∧
 ((eKind == (30 : Int)) = false →
 ((eKind == (18 : Int)) = true → K (Value.bool (decide (eB ≥ (1 : Int)))) H) ∧
 ((eKind == (18 : Int)) = false →
 ((eKind == (9 : Int)) = true →
 ∃ (b26 : Bool),
 (decide (eA ≥ (1 : Int)) = true →
 Tr Try.prog (61 : Nat) #[Value.int IntKind.i64 eB] H fun (v26 : Value) (H'26 : Heap) =>
 v26 = Value.bool b26 ∧ Ax.Sub H H'26) ∧
 K (Value.bool (decide (eA ≥ (1 : Int)) && b26)) H) ∧
 ((eKind == (9 : Int)) = false →
 ((eKind == (14 : Int)) = true →
 K (Value.bool (decide (eA ≥ (1 : Int)) && (eC == (0 : Int) || eC == (1 : Int)))) H) ∧
 ((eKind == (14 : Int)) = false →
 ((eKind == (26 : Int)) = true → K (Value.bool (decide (eA ≥ (1 : Int)) && decide (eB ≥ (1 : Int)))) H) ∧
 ((eKind == (26 : Int)) = false →
 ((eKind == (28 : Int)) = true →
 K (Value.bool (decide (eA ≥ (1 : Int)) && decide (eC ≥ (0 : Int)) && decide (eC ≤ (4 : Int)))) H) ∧
 ((eKind == (28 : Int)) = false →
 ((eKind == (24 : Int)) = true →
 ((decide (eB < (1 : Int)) || decide (eB > (4 : Int))) = true → K (Value.bool false) H) ∧
 ((decide (eB < (1 : Int)) || decide (eB > (4 : Int))) = false →
 K (Value.bool (decide (eA ≥ (1 : Int)) && decide (eC ≥ (1 : Int)))) H)) ∧
 ((eKind == (24 : Int)) = false →
 ((eKind == (22 : Int)) = true →
 ((eKind == (22 : Int)) = true →
 K (Value.bool (decide (eA ≥ (1 : Int)) && decide (eC ≥ (1 : Int)))) H) ∧
 ((eKind == (22 : Int)) = false → K (Value.bool (decide (eA ≥ (1 : Int)))) H)) ∧
 ((eKind == (22 : Int)) = false →
 ((eKind == (23 : Int)) = true →
 K (Value.bool (decide (eA ≥ (1 : Int)) && decide (eC ≥ (1 : Int)))) H) ∧
 ((eKind == (23 : Int)) = false → K (Value.bool (decide (eA ≥ (1 : Int)))) H)))))))))) ∧
 ((eKind == (30 : Int)) = false →
 ((eKind == (31 : Int)) = true → K (Value.bool true) H) ∧
 ((eKind == (31 : Int)) = false →
 ((eKind == (18 : Int)) = true → K (Value.bool (decide (eB ≥ (1 : Int)))) H) ∧
 ((eKind == (18 : Int)) = false →
 ((eKind == (9 : Int)) = true →
 ∃ (b27 : Bool),
 (decide (eA ≥ (1 : Int)) = true →
 Tr Try.prog (61 : Nat) #[Value.int IntKind.i64 eB] H fun (v27 : Value) (H'27 : Heap) =>
 v27 = Value.bool b27 ∧ Ax.Sub H H'27) ∧
 K (Value.bool (decide (eA ≥ (1 : Int)) && b27)) H) ∧
 ((eKind == (9 : Int)) = false →
 ((eKind == (14 : Int)) = true →
 K (Value.bool (decide (eA ≥ (1 : Int)) && (eC == (0 : Int) || eC == (1 : Int)))) H) ∧
 ((eKind == (14 : Int)) = false →
 ((eKind == (26 : Int)) = true → K (Value.bool (decide (eA ≥ (1 : Int)) && decide (eB ≥ (1 : Int)))) H) ∧
 ((eKind == (26 : Int)) = false →
 ((eKind == (28 : Int)) = true →
 K (Value.bool (decide (eA ≥ (1 : Int)) && decide (eC ≥ (0 : Int)) && decide (eC ≤ (4 : Int)))) H) ∧
 ((eKind == (28 : Int)) = false →
 ((eKind == (24 : Int)) = true →
 ((decide (eB < (1 : Int)) || decide (eB > (4 : Int))) = true → K (Value.bool false) H) ∧
 ((decide (eB < (1 : Int)) || decide (eB > (4 : Int))) = false →
 K (Value.bool (decide (eA ≥ (1 : Int)) && decide (eC ≥ (1 : Int)))) H)) ∧
 ((eKind == (24 : Int)) = false →
 ((eKind == (22 : Int)) = true →
 ((eKind == (22 : Int)) = true →
 K (Value.bool (decide (eA ≥ (1 : Int)) && decide (eC ≥ (1 : Int)))) H) ∧
 ((eKind == (22 : Int)) = false → K (Value.bool (decide (eA ≥ (1 : Int)))) H)) ∧
 ((eKind == (22 : Int)) = false →
 ((eKind == (23 : Int)) = true →
 K (Value.bool (decide (eA ≥ (1 : Int)) && decide (eC ≥ (1 : Int)))) H) ∧
 ((eKind == (23 : Int)) = false →
 K (Value.bool (decide (eA ≥ (1 : Int)))) H))))))))))))))))))))) ∧
 ((eKind == (3 : Int)) = false →
 ((eKind == (5 : Int)) = true →
 ∃ (b28 : Bool), (Tr Try.prog (61 : Nat) #[Value.int IntKind.i64 eA] H fun (v28 : Value) (H'28 : Heap) => v28 = Value.bool b28 ∧ Ax.Sub H H'28) ∧ K (Value.bool b28) H) ∧
 ((eKind == (5 : Int)) = false →
 ((eKind == (19 : Int)) = true →
 ((eKind == (19 : Int)) = true →
 ∃ (b29 : Bool),
 (Tr Try.prog (61 : Nat) #[Value.int IntKind.i64 eA] H fun (v29 : Value) (H'29 : Heap) => v29 = Value.bool b29 ∧ Ax.Sub H H'29) ∧
 K (Value.bool (b29 && decide (eC ≥ (0 : Int)))) H) ∧
 ((eKind == (19 : Int)) = false →
 ((eKind == (10 : Int)) = true → K (Value.bool (decide (eA ≥ (0 : Int)) && decide (eA < (4 : Int)))) H) ∧
 ((eKind == (10 : Int)) = false →
 ((eKind == (4 : Int)) = true →
 ((eKind == (4 : Int)) = true → K (Value.bool (decide (eA ≥ (0 : Int)))) H) ∧
 ((eKind == (4 : Int)) = false →
 ((eKind == (11 : Int)) = true →
 ((eKind == (11 : Int)) = true → K (Value.bool true) H) ∧
 ((eKind == (11 : Int)) = false →
 ((eKind == (18 : Int)) = true → K (Value.bool (decide (eB ≥ (1 : Int)))) H) ∧
 ((eKind == (18 : Int)) = false →
 ((eKind == (9 : Int)) = true →
 ∃ (b30 : Bool),
 (decide (eA ≥ (1 : Int)) = true →
 Tr Try.prog (61 : Nat) #[Value.int IntKind.i64 eB] H fun (v30 : Value) (H'30 : Heap) =>
 v30 = Value.bool b30 ∧ Ax.Sub H H'30) ∧
 K (Value.bool (decide (eA ≥ (1 : Int)) && b30)) H) ∧
 ((eKind == (9 : Int)) = false →
 ((eKind == (14 : Int)) = true → K (Value.bool (decide (eA ≥ (1 : Int)) && (eC == (0 : Int) || eC == (1 : Int)))) H) ∧
 ((eKind == (14 : Int)) = false →
 ((eKind == (26 : Int)) = true → K (Value.bool (decide (eA ≥ (1 : Int)) && decide (eB ≥ (1 : Int)))) H) ∧
 ((eKind == (26 : Int)) = false →
 ((eKind == (28 : Int)) = true →
 K (Value.bool (decide (eA ≥ (1 : Int)) && decide (eC ≥ (0 : Int)) && decide (eC ≤ (4 : Int)))) H) ∧
 ((eKind == (28 : Int)) = false →
 ((eKind == (24 : Int)) = true →
 ((decide (eB < (1 : Int)) || decide (eB > (4 : Int))) = true → K (Value.bool false) H) ∧
 ((decide (eB < (1 : Int)) || decide (eB > (4 : Int))) = false →
 K (Value.bool (decide (eA ≥ (1 : Int)) && decide (eC ≥ (1 : Int)))) H)) ∧
 ((eKind == (24 : Int)) = false →
 ((eKind == (22 : Int)) = true →
 ((eKind == (22 : Int)) = true → K (Value.bool (decide (eA ≥ (1 : Int)) && decide (eC ≥ (1 : Int)))) H) ∧
 ((eKind == (22 : Int)) = false → K (Value.bool (decide (eA ≥ (1 : Int)))) H)) ∧
 ((eKind == (22 : Int)) = false →
 ((eKind == (23 : Int)) = true → K (Value.bool (decide (eA ≥ (1 : Int)) && decide (eC ≥ (1 : Int)))) H) ∧
 ((eKind == (23 : Int)) = false → K (Value.bool (decide (eA ≥ (1 : Int)))) H)))))))))) ∧
 ((eKind == (11 : Int)) = false →
 ((eKind == (15 : Int)) = true →
 ((eKind == (15 : Int)) = true → K (Value.bool true) H) ∧
 ((eKind == (15 : Int)) = false →
 ((eKind == (18 : Int)) = true → K (Value.bool (decide (eB ≥ (1 : Int)))) H) ∧
 ((eKind == (18 : Int)) = false →
 ((eKind == (9 : Int)) = true →
 ∃ (b31 : Bool),
 (decide (eA ≥ (1 : Int)) = true →
 Tr Try.prog (61 : Nat) #[Value.int IntKind.i64 eB] H fun (v31 : Value) (H'31 : Heap) =>
 v31 = Value.bool b31 ∧ Ax.Sub H H'31) ∧
 K (Value.bool (decide (eA ≥ (1 : Int)) && b31)) H) ∧
 ((eKind == (9 : Int)) = false →
 ((eKind == (14 : Int)) = true → K (Value.bool (decide (eA ≥ (1 : Int)) && (eC == (0 : Int) || eC == (1 : Int)))) H) ∧
 ((eKind == (14 : Int)) = false →
 ((eKind == (26 : Int)) = true → K (Value.bool (decide (eA ≥ (1 : Int)) && decide (eB ≥ (1 : Int)))) H) ∧
 ((eKind == (26 : Int)) = false →
 ((eKind == (28 : Int)) = true →
 K (Value.bool (decide (eA ≥ (1 : Int)) && decide (eC ≥ (0 : Int)) && decide (eC ≤ (4 : Int)))) H) ∧
 ((eKind == (28 : Int)) = false →
 ((eKind == (24 : Int)) = true →
 ((decide (eB < (1 : Int)) || decide (eB > (4 : Int))) = true → K (Value.bool false) H) ∧
 ((decide (eB < (1 : Int)) || decide (eB > (4 : Int))) = false →
 K (Value.bool (decide (eA ≥ (1 : Int)) && decide (eC ≥ (1 : Int)))) H)) ∧
 ((eKind == (24 : Int)) = false →
 ((eKind == (22 : Int)) = true →
 ((eKind == (22 : Int)) = true → K (Value.bool (decide (eA ≥ (1 : Int)) && decide (eC ≥ (1 : Int)))) H) ∧
 ((eKind == (22 : Int)) = false → K (Value.bool (decide (eA ≥ (1 : Int)))) H)) ∧
 ((eKind == (22 : Int)) = false →
 ((eKind == (23 : Int)) = true → K (Value.bool (decide (eA ≥ (1 : Int)) && decide (eC ≥ (1 : Int)))) H) ∧
 ((eKind == (23 : Int)) = false → K (Value.bool (decide (eA ≥ (1 : Int)))) H)))))))))) ∧
 ((eKind == (15 : Int)) = false →
 ((eKind == (16 : Int)) = true →
 ((eKind == (16 : Int)) = true → K (Value.bool true) H) ∧
 ((eKind == (16 : Int)) = false →
 ((eKind == (18 : Int)) = true → K (Value.bool (decide (eB ≥ (1 : Int)))) H) ∧
 ((eKind == (18 : Int)) = false →
 ((eKind == (9 : Int)) = true →
 ∃ (b32 : Bool),
 (decide (eA ≥ (1 : Int)) = true →
 Tr Try.prog (61 : Nat) #[Value.int IntKind.i64 eB] H fun (v32 : Value) (H'32 : Heap) =>
 v32 = Value.bool b32 ∧ Ax.Sub H H'32) ∧
 K (Value.bool (decide (eA ≥ (1 : Int)) && b32)) H) ∧
 ((eKind == (9 : Int)) = false →
 ((eKind == (14 : Int)) = true → K (Value.bool (decide (eA ≥ (1 : Int)) && (eC == (0 : Int) || eC == (1 : Int)))) H) ∧
 ((eKind == (14 : Int)) = false →
 ((eKind == (26 : Int)) = true → K (Value.bool (decide (eA ≥ (1 : Int)) && decide (eB ≥ (1 : Int)))) H) ∧
 ((eKind == (26 : Int)) = false →
 ((eKind == (28 : Int)) = true →
 K (Value.bool (decide (eA ≥ (1 : Int)) && decide (eC ≥ (0 : Int)) && decide (eC ≤ (4 : Int)))) H) ∧
 ((eKind == (28 : Int)) = false →
 ((eKind == (24 : Int)) = true →
 ((decide (eB < (1 : Int)) || decide (eB > (4 : Int))) = true → K (Value.bool false) H) ∧
 ((decide (eB < (1 : Int)) || decide (eB > (4 : Int))) = false →
 K (Value.bool (decide (eA ≥ (1 : Int)) && decide (eC ≥ (1 : Int)))) H)) ∧
 ((eKind == (24 : Int)) = false →
 ((eKind == (22 : Int)) = true →
 ((eKind == (22 : Int)) = true → K (Value.bool (decide (eA ≥ (1 : Int)) && decide (eC ≥ (1 : Int)))) H) ∧
 ((eKind == (22 : Int)) = false → K (Value.bool (decide (eA ≥ (1 : Int)))) H)) ∧
 ((eKind == (22 : Int)) = false →
 ((eKind == (23 : Int)) = true → K (Value.bool (decide (eA ≥ (1 : Int)) && decide (eC ≥ (1 : Int)))) H) ∧
 ((eKind == (23 : Int)) = false → K (Value.bool (decide (eA ≥ (1 : Int)))) H)))))))))) ∧
 ((eKind == (16 : Int)) = false →
 ((eKind == (17 : Int)) = true →
 ((eKind == (17 : Int)) = true → K (Value.bool true) H) ∧
 ((eKind == (17 : Int)) = false →
 ((eKind == (18 : Int)) = true → K (Value.bool (decide (eB ≥ (1 : Int)))) H) ∧
 ((eKind == (18 : Int)) = false →
 ((eKind == (9 : Int)) = true →
 ∃ (b33 : Bool),
 (decide (eA ≥ (1 : Int)) = true →
 Tr Try.prog (61 : Nat) #[Value.int IntKind.i64 eB] H fun (v33 : Value) (H'33 : Heap) =>
 v33 = Value.bool b33 ∧ Ax.Sub H H'33) ∧
 K (Value.bool (decide (eA ≥ (1 : Int)) && b33)) H) ∧
 ((eKind == (9 : Int)) = false →
 ((eKind == (14 : Int)) = true → K (Value.bool (decide (eA ≥ (1 : Int)) && (eC == (0 : Int) || eC == (1 : Int)))) H) ∧
 ((eKind == (14 : Int)) = false →
 ((eKind == (26 : Int)) = true → K (Value.bool (decide (eA ≥ (1 : Int)) && decide (eB ≥ (1 : Int)))) H) ∧
 ((eKind == (26 : Int)) = false →
 ((eKind == (28 : Int)) = true →
 K (Value.bool (decide (eA ≥ (1 : Int)) && decide (eC ≥ (0 : Int)) && decide (eC ≤ (4 : Int)))) H) ∧
 ((eKind == (28 : Int)) = false →
 ((eKind == (24 : Int)) = true →
 ((decide (eB < (1 : Int)) || decide (eB > (4 : Int))) = true → K (Value.bool false) H) ∧
 ((decide (eB < (1 : Int)) || decide (eB > (4 : Int))) = false →
 K (Value.bool (decide (eA ≥ (1 : Int)) && decide (eC ≥ (1 : Int)))) H)) ∧
 ((eKind == (24 : Int)) = false →
 ((eKind == (22 : Int)) = true →
 ((eKind == (22 : Int)) = true →
 K (Value.bool (decide (eA ≥ (1 : Int)) && decide (eC ≥ (1 : Int)))) H) ∧
 ((eKind == (22 : Int)) = false → K (Value.bool (decide (eA ≥ (1 : Int)))) H)) ∧
 ((eKind == (22 : Int)) = false →
 ((eKind == (23 : Int)) = true →
 K (Value.bool (decide (eA ≥ (1 : Int)) && decide (eC ≥ (1 : Int)))) H) ∧
 ((eKind == (23 : Int)) = false → K (Value.bool (decide (eA ≥ (1 : Int)))) H)))))))))) ∧
 ((eKind == (17 : Int)) = false →
 ((eKind == (30 : Int)) = true →
 ((eKind == (30 : Int)) = true → K (Value.bool true) H) ∧
 ((eKind == (30 : Int)) = false →
 ((eKind == (18 : Int)) = true → K (Value.bool (decide (eB ≥ (1 : Int)))) H) ∧
 ((eKind == (18 : Int)) = false →
 ((eKind == (9 : Int)) = true →
 ∃ (b34 : Bool),
 (decide (eA ≥ (1 : Int)) = true →
 Tr Try.prog (61 : Nat) #[Value.int IntKind.i64 eB] H fun (v34 : Value) (H'34 : Heap) =>
 v34 = Value.bool b34 ∧ Ax.Sub H H'34) ∧
 K (Value.bool (decide (eA ≥ (1 : Int)) && b34)) H) ∧
 ((eKind == (9 : Int)) = false →
 ((eKind == (14 : Int)) = true →
 K (Value.bool (decide (eA ≥ (1 : Int)) && (eC == (0 : Int) || eC == (1 : Int)))) H) ∧
 ((eKind == (14 : Int)) = false →
 ((eKind == (26 : Int)) = true → K (Value.bool (decide (eA ≥ (1 : Int)) && decide (eB ≥ (1 : Int)))) H) ∧
 ((eKind == (26 : Int)) = false →
 ((eKind == (28 : Int)) = true →
 K (Value.bool (decide (eA ≥ (1 : Int)) && decide (eC ≥ (0 : Int)) && decide (eC ≤ (4 : Int)))) H) ∧
 ((eKind == (28 : Int)) = false →
 ((eKind == (24 : Int)) = true →
 ((decide (eB < (1 : Int)) || decide (eB > (4 : Int))) = true → K (Value.bool false) H) ∧
 ((decide (eB < (1 : Int)) || decide (eB > (4 : Int))) = false →
 K (Value.bool (decide (eA ≥ (1 : Int)) && decide (eC ≥ (1 : Int)))) H)) ∧
 ((eKind == (24 : Int)) = false →
 ((eKind == (22 : Int)) = true →
 ((eKind == (22 : Int)) = true →
 K (Value.bool (decide (eA ≥ (1 : Int)) && decide (eC ≥ (1 : Int)))) H) ∧
 ((eKind == (22 : Int)) = false → K (Value.bool (decide (eA ≥ (1 : Int)))) H)) ∧
 ((eKind == (22 : Int)) = false →
 ((eKind == (23 : Int)) = true →
 K (Value.bool (decide (eA ≥ (1 : Int)) && decide (eC ≥ (1 : Int)))) H) ∧
 ((eKind == (23 : Int)) = false → K (Value.bool (decide (eA ≥ (1 : Int)))) H)))))))))) ∧
 ((eKind == (30 : Int)) = false →
 ((eKind == (31 : Int)) = true → K (Value.bool true) H) ∧
 ((eKind == (31 : Int)) = false →
 ((eKind == (18 : Int)) = true → K (Value.bool (decide (eB ≥ (1 : Int)))) H) ∧
 ((eKind == (18 : Int)) = false →
 ((eKind == (9 : Int)) = true →
 ∃ (b35 : Bool),
 (decide (eA ≥ (1 : Int)) = true →
 Tr Try.prog (61 : Nat) #[Value.int IntKind.i64 eB] H fun (v35 : Value) (H'35 : Heap) =>
 v35 = Value.bool b35 ∧ Ax.Sub H H'35) ∧
 K (Value.bool (decide (eA ≥ (1 : Int)) && b35)) H) ∧
 ((eKind == (9 : Int)) = false →
 ((eKind == (14 : Int)) = true →
 K (Value.bool (decide (eA ≥ (1 : Int)) && (eC == (0 : Int) || eC == (1 : Int)))) H) ∧
 ((eKind == (14 : Int)) = false →
 ((eKind == (26 : Int)) = true → K (Value.bool (decide (eA ≥ (1 : Int)) && decide (eB ≥ (1 : Int)))) H) ∧
 ((eKind == (26 : Int)) = false →
 ((eKind == (28 : Int)) = true →
 K (Value.bool (decide (eA ≥ (1 : Int)) && decide (eC ≥ (0 : Int)) && decide (eC ≤ (4 : Int)))) H) ∧
 ((eKind == (28 : Int)) = false →
 ((eKind == (24 : Int)) = true →
 ((decide (eB < (1 : Int)) || decide (eB > (4 : Int))) = true → K (Value.bool false) H) ∧
 ((decide (eB < (1 : Int)) || decide (eB > (4 : Int))) = false →
 K (Value.bool (decide (eA ≥ (1 : Int)) && decide (eC ≥ (1 : Int)))) H)) ∧
 ((eKind == (24 : Int)) = false →
 ((eKind == (22 : Int)) = true →
 ((eKind == (22 : Int)) = true →
 K (Value.bool (decide (eA ≥ (1 : Int)) && decide (eC ≥ (1 : Int)))) H) ∧
 ((eKind == (22 : Int)) = false → K (Value.bool (decide (eA ≥ (1 : Int)))) H)) ∧
 ((eKind == (22 : Int)) = false →
 ((eKind == (23 : Int)) = true →
 K (Value.bool (decide (eA ≥ (1 : Int)) && decide (eC ≥ (1 : Int)))) H) ∧
 ((eKind == (23 : Int)) = false → K (Value.bool (decide (eA ≥ (1 : Int)))) H)))))))))))))))) ∧
 ((eKind == (4 : Int)) = false →
 ((eKind == (20 : Int)) = true → K (Value.bool (decide (eA ≥ (0 : Int)))) H) ∧
 ((eKind == (20 : Int)) = false →
 ((eKind == (11 : Int)) = true →
 ((eKind == (11 : Int)) = true → K (Value.bool true) H) ∧
 ((eKind == (11 : Int)) = false →
 ((eKind == (18 : Int)) = true → K (Value.bool (decide (eB ≥ (1 : Int)))) H) ∧
 ((eKind == (18 : Int)) = false →
 ((eKind == (9 : Int)) = true →
 ∃ (b36 : Bool),
 (decide (eA ≥ (1 : Int)) = true →
 Tr Try.prog (61 : Nat) #[Value.int IntKind.i64 eB] H fun (v36 : Value) (H'36 : Heap) =>
 v36 = Value.bool b36 ∧ Ax.Sub H H'36) ∧
 K (Value.bool (decide (eA ≥ (1 : Int)) && b36)) H) ∧
 ((eKind == (9 : Int)) = false →
 ((eKind == (14 : Int)) = true → K (Value.bool (decide (eA ≥ (1 : Int)) && (eC == (0 : Int) || eC == (1 : Int)))) H) ∧
 ((eKind == (14 : Int)) = false →
 ((eKind == (26 : Int)) = true → K (Value.bool (decide (eA ≥ (1 : Int)) && decide (eB ≥ (1 : Int)))) H) ∧
 ((eKind == (26 : Int)) = false →
 ((eKind == (28 : Int)) = true →
 K (Value.bool (decide (eA ≥ (1 : Int)) && decide (eC ≥ (0 : Int)) && decide (eC ≤ (4 : Int)))) H) ∧
 ((eKind == (28 : Int)) = false →
 ((eKind == (24 : Int)) = true →
 ((decide (eB < (1 : Int)) || decide (eB > (4 : Int))) = true → K (Value.bool false) H) ∧
 ((decide (eB < (1 : Int)) || decide (eB > (4 : Int))) = false →
 K (Value.bool (decide (eA ≥ (1 : Int)) && decide (eC ≥ (1 : Int)))) H)) ∧
 ((eKind == (24 : Int)) = false →
 ((eKind == (22 : Int)) = true →
 ((eKind == (22 : Int)) = true → K (Value.bool (decide (eA ≥ (1 : Int)) && decide (eC ≥ (1 : Int)))) H) ∧
 ((eKind == (22 : Int)) = false → K (Value.bool (decide (eA ≥ (1 : Int)))) H)) ∧
 ((eKind == (22 : Int)) = false →
 ((eKind == (23 : Int)) = true → K (Value.bool (decide (eA ≥ (1 : Int)) && decide (eC ≥ (1 : Int)))) H) ∧
 ((eKind == (23 : Int)) = false → K (Value.bool (decide (eA ≥ (1 : Int)))) H)))))))))) ∧
 ((eKind == (11 : Int)) = false →
 ((eKind == (15 : Int)) = true →
 ((eKind == (15 : Int)) = true → K (Value.bool true) H) ∧
 ((eKind == (15 : Int)) = false →
 ((eKind == (18 : Int)) = true → K (Value.bool (decide (eB ≥ (1 : Int)))) H) ∧
 ((eKind == (18 : Int)) = false →
 ((eKind == (9 : Int)) = true →
 ∃ (b37 : Bool),
 (decide (eA ≥ (1 : Int)) = true →
 Tr Try.prog (61 : Nat) #[Value.int IntKind.i64 eB] H fun (v37 : Value) (H'37 : Heap) =>
 v37 = Value.bool b37 ∧ Ax.Sub H H'37) ∧
 K (Value.bool (decide (eA ≥ (1 : Int)) && b37)) H) ∧
 ((eKind == (9 : Int)) = false →
 ((eKind == (14 : Int)) = true → K (Value.bool (decide (eA ≥ (1 : Int)) && (eC == (0 : Int) || eC == (1 : Int)))) H) ∧
 ((eKind == (14 : Int)) = false →
 ((eKind == (26 : Int)) = true → K (Value.bool (decide (eA ≥ (1 : Int)) && decide (eB ≥ (1 : Int)))) H) ∧
 ((eKind == (26 : Int)) = false →
 ((eKind == (28 : Int)) = true →
 K (Value.bool (decide (eA ≥ (1 : Int)) && decide (eC ≥ (0 : Int)) && decide (eC ≤ (4 : Int)))) H) ∧
 ((eKind == (28 : Int)) = false →
 ((eKind == (24 : Int)) = true →
 ((decide (eB < (1 : Int)) || decide (eB > (4 : Int))) = true → K (Value.bool false) H) ∧
 ((decide (eB < (1 : Int)) || decide (eB > (4 : Int))) = false →
 K (Value.bool (decide (eA ≥ (1 : Int)) && decide (eC ≥ (1 : Int)))) H)) ∧
 ((eKind == (24 : Int)) = false →
 ((eKind == (22 : Int)) = true →
 ((eKind == (22 : Int)) = true → K (Value.bool (decide (eA ≥ (1 : Int)) && decide (eC ≥ (1 : Int)))) H) ∧
 ((eKind == (22 : Int)) = false → K (Value.bool (decide (eA ≥ (1 : Int)))) H)) ∧
 ((eKind == (22 : Int)) = false →
 ((eKind == (23 : Int)) = true → K (Value.bool (decide (eA ≥ (1 : Int)) && decide (eC ≥ (1 : Int)))) H) ∧
 ((eKind == (23 : Int)) = false → K (Value.bool (decide (eA ≥ (1 : Int)))) H)))))))))) ∧
 ((eKind == (15 : Int)) = false →
 ((eKind == (16 : Int)) = true →
 ((eKind == (16 : Int)) = true → K (Value.bool true) H) ∧
 ((eKind == (16 : Int)) = false →
 ((eKind == (18 : Int)) = true → K (Value.bool (decide (eB ≥ (1 : Int)))) H) ∧
 ((eKind == (18 : Int)) = false →
 ((eKind == (9 : Int)) = true →
 ∃ (b38 : Bool),
 (decide (eA ≥ (1 : Int)) = true →
 Tr Try.prog (61 : Nat) #[Value.int IntKind.i64 eB] H fun (v38 : Value) (H'38 : Heap) =>
 v38 = Value.bool b38 ∧ Ax.Sub H H'38) ∧
 K (Value.bool (decide (eA ≥ (1 : Int)) && b38)) H) ∧
 ((eKind == (9 : Int)) = false →
 ((eKind == (14 : Int)) = true → K (Value.bool (decide (eA ≥ (1 : Int)) && (eC == (0 : Int) || eC == (1 : Int)))) H) ∧
 ((eKind == (14 : Int)) = false →
 ((eKind == (26 : Int)) = true → K (Value.bool (decide (eA ≥ (1 : Int)) && decide (eB ≥ (1 : Int)))) H) ∧
 ((eKind == (26 : Int)) = false →
 ((eKind == (28 : Int)) = true →
 K (Value.bool (decide (eA ≥ (1 : Int)) && decide (eC ≥ (0 : Int)) && decide (eC ≤ (4 : Int)))) H) ∧
 ((eKind == (28 : Int)) = false →
 ((eKind == (24 : Int)) = true →
 ((decide (eB < (1 : Int)) || decide (eB > (4 : Int))) = true → K (Value.bool false) H) ∧
 ((decide (eB < (1 : Int)) || decide (eB > (4 : Int))) = false →
 K (Value.bool (decide (eA ≥ (1 : Int)) && decide (eC ≥ (1 : Int)))) H)) ∧
 ((eKind == (24 : Int)) = false →
 ((eKind == (22 : Int)) = true →
 ((eKind == (22 : Int)) = true → K (Value.bool (decide (eA ≥ (1 : Int)) && decide (eC ≥ (1 : Int)))) H) ∧
 ((eKind == (22 : Int)) = false → K (Value.bool (decide (eA ≥ (1 : Int)))) H)) ∧
 ((eKind == (22 : Int)) = false →
 ((eKind == (23 : Int)) = true → K (Value.bool (decide (eA ≥ (1 : Int)) && decide (eC ≥ (1 : Int)))) H) ∧
 ((eKind == (23 : Int)) = false → K (Value.bool (decide (eA ≥ (1 : Int)))) H)))))))))) ∧
 ((eKind == (16 : Int)) = false →
 ((eKind == (17 : Int)) = true →
 ((eKind == (17 : Int)) = true → K (Value.bool true) H) ∧
 ((eKind == (17 : Int)) = false →
 ((eKind == (18 : Int)) = true → K (Value.bool (decide (eB ≥ (1 : Int)))) H) ∧
 ((eKind == (18 : Int)) = false →
 ((eKind == (9 : Int)) = true →
 ∃ (b39 : Bool),
 (decide (eA ≥ (1 : Int)) = true →
 Tr Try.prog (61 : Nat) #[Value.int IntKind.i64 eB] H fun (v39 : Value) (H'39 : Heap) =>
 v39 = Value.bool b39 ∧ Ax.Sub H H'39) ∧
 K (Value.bool (decide (eA ≥ (1 : Int)) && b39)) H) ∧
 ((eKind == (9 : Int)) = false →
 ((eKind == (14 : Int)) = true → K (Value.bool (decide (eA ≥ (1 : Int)) && (eC == (0 : Int) || eC == (1 : Int)))) H) ∧
 ((eKind == (14 : Int)) = false →
 ((eKind == (26 : Int)) = true → K (Value.bool (decide (eA ≥ (1 : Int)) && decide (eB ≥ (1 : Int)))) H) ∧
 ((eKind == (26 : Int)) = false →
 ((eKind == (28 : Int)) = true →
 K (Value.bool (decide (eA ≥ (1 : Int)) && decide (eC ≥ (0 : Int)) && decide (eC ≤ (4 : Int)))) H) ∧
 ((eKind == (28 : Int)) = false →
 ((eKind == (24 : Int)) = true →
 ((decide (eB < (1 : Int)) || decide (eB > (4 : Int))) = true → K (Value.bool false) H) ∧
 ((decide (eB < (1 : Int)) || decide (eB > (4 : Int))) = false →
 K (Value.bool (decide (eA ≥ (1 : Int)) && decide (eC ≥ (1 : Int)))) H)) ∧
 ((eKind == (24 : Int)) = false →
 ((eKind == (22 : Int)) = true →
 ((eKind == (22 : Int)) = true →
 K (Value.bool (decide (eA ≥ (1 : Int)) && decide (eC ≥ (1 : Int)))) H) ∧
 ((eKind == (22 : Int)) = false → K (Value.bool (decide (eA ≥ (1 : Int)))) H)) ∧
 ((eKind == (22 : Int)) = false →
 ((eKind == (23 : Int)) = true →
 K (Value.bool (decide (eA ≥ (1 : Int)) && decide (eC ≥ (1 : Int)))) H) ∧
 ((eKind == (23 : Int)) = false → K (Value.bool (decide (eA ≥ (1 : Int)))) H)))))))))) ∧
 ((eKind == (17 : Int)) = false →
 ((eKind == (30 : Int)) = true →
 ((eKind == (30 : Int)) = true → K (Value.bool true) H) ∧
 ((eKind == (30 : Int)) = false →
 ((eKind == (18 : Int)) = true → K (Value.bool (decide (eB ≥ (1 : Int)))) H) ∧
 ((eKind == (18 : Int)) = false →
 ((eKind == (9 : Int)) = true →
 ∃ (b40 : Bool),
 (decide (eA ≥ (1 : Int)) = true →
 Tr Try.prog (61 : Nat) #[Value.int IntKind.i64 eB] H fun (v40 : Value) (H'40 : Heap) =>
 v40 = Value.bool b40 ∧ Ax.Sub H H'40) ∧
 K (Value.bool (decide (eA ≥ (1 : Int)) && b40)) H) ∧
 ((eKind == (9 : Int)) = false →
 ((eKind == (14 : Int)) = true →
 K (Value.bool (decide (eA ≥ (1 : Int)) && (eC == (0 : Int) || eC == (1 : Int)))) H) ∧
 ((eKind == (14 : Int)) = false →
 ((eKind == (26 : Int)) = true → K (Value.bool (decide (eA ≥ (1 : Int)) && decide (eB ≥ (1 : Int)))) H) ∧
 ((eKind == (26 : Int)) = false →
 ((eKind == (28 : Int)) = true →
 K (Value.bool (decide (eA ≥ (1 : Int)) && decide (eC ≥ (0 : Int)) && decide (eC ≤ (4 : Int)))) H) ∧
 ((eKind == (28 : Int)) = false →
 ((eKind == (24 : Int)) = true →
 ((decide (eB < (1 : Int)) || decide (eB > (4 : Int))) = true → K (Value.bool false) H) ∧
 ((decide (eB < (1 : Int)) || decide (eB > (4 : Int))) = false →
 K (Value.bool (decide (eA ≥ (1 : Int)) && decide (eC ≥ (1 : Int)))) H)) ∧
 ((eKind == (24 : Int)) = false →
 ((eKind == (22 : Int)) = true →
 ((eKind == (22 : Int)) = true →
 K (Value.bool (decide (eA ≥ (1 : Int)) && decide (eC ≥ (1 : Int)))) H) ∧
 ((eKind == (22 : Int)) = false → K (Value.bool (decide (eA ≥ (1 : Int)))) H)) ∧
 ((eKind == (22 : Int)) = false →
 ((eKind == (23 : Int)) = true →
 K (Value.bool (decide (eA ≥ (1 : Int)) && decide (eC ≥ (1 : Int)))) H) ∧
 ((eKind == (23 : Int)) = false → K (Value.bool (decide (eA ≥ (1 : Int)))) H)))))))))) ∧
 ((eKind == (30 : Int)) = false →
 ((eKind == (31 : Int)) = true → K (Value.bool true) H) ∧
 ((eKind == (31 : Int)) = false →
 ((eKind == (18 : Int)) = true → K (Value.bool (decide (eB ≥ (1 : Int)))) H) ∧
 ((eKind == (18 : Int)) = false →
 ((eKind == (9 : Int)) = true →
 ∃ (b41 : Bool),
 (decide (eA ≥ (1 : Int)) = true →
 Tr Try.prog (61 : Nat) #[Value.int IntKind.i64 eB] H fun (v41 : Value) (H'41 : Heap) =>
 v41 = Value.bool b41 ∧ Ax.Sub H H'41) ∧
 K (Value.bool (decide (eA ≥ (1 : Int)) && b41)) H) ∧
 ((eKind == (9 : Int)) = false →
 ((eKind == (14 : Int)) = true →
 K (Value.bool (decide (eA ≥ (1 : Int)) && (eC == (0 : Int) || eC == (1 : Int)))) H) ∧
 ((eKind == (14 : Int)) = false →
 ((eKind == (26 : Int)) = true → K (Value.bool (decide (eA ≥ (1 : Int)) && decide (eB ≥ (1 : Int)))) H) ∧
 ((eKind == (26 : Int)) = false →
 ((eKind == (28 : Int)) = true →
 K (Value.bool (decide (eA ≥ (1 : Int)) && decide (eC ≥ (0 : Int)) && decide (eC ≤ (4 : Int)))) H) ∧
 ((eKind == (28 : Int)) = false →
 ((eKind == (24 : Int)) = true →
 ((decide (eB < (1 : Int)) || decide (eB > (4 : Int))) = true → K (Value.bool false) H) ∧
 ((decide (eB < (1 : Int)) || decide (eB > (4 : Int))) = false →
 K (Value.bool (decide (eA ≥ (1 : Int)) && decide (eC ≥ (1 : Int)))) H)) ∧
 ((eKind == (24 : Int)) = false →
 ((eKind == (22 : Int)) = true →
 ((eKind == (22 : Int)) = true →
 K (Value.bool (decide (eA ≥ (1 : Int)) && decide (eC ≥ (1 : Int)))) H) ∧
 ((eKind == (22 : Int)) = false → K (Value.bool (decide (eA ≥ (1 : Int)))) H)) ∧
 ((eKind == (22 : Int)) = false →
 ((eKind == (23 : Int)) = true →
 K (Value.bool (decide (eA ≥ (1 : Int)) && decide (eC ≥ (1 : Int)))) H) ∧
 ((eKind == (23 : Int)) = false →
 K (Value.bool (decide (eA ≥ (1 : Int)))) H))))))))))))))))))) ∧
 ((eKind == (19 : Int)) = false →
 ((eKind == (21 : Int)) = true →
 ∃ (b42 : Bool),
 (Tr Try.prog (61 : Nat) #[Value.int IntKind.i64 eA] H fun (v42 : Value) (H'42 : Heap) => v42 = Value.bool b42 ∧ Ax.Sub H H'42) ∧
 K (Value.bool (b42 && decide (eC ≥ (0 : Int)))) H) ∧
 ((eKind == (21 : Int)) = false →
 ((eKind == (10 : Int)) = true → K (Value.bool (decide (eA ≥ (0 : Int)) && decide (eA < (4 : Int)))) H) ∧
 ((eKind == (10 : Int)) = false →
 ((eKind == (4 : Int)) = true →
 ((eKind == (4 : Int)) = true → K (Value.bool (decide (eA ≥ (0 : Int)))) H) ∧
 ((eKind == (4 : Int)) = false →
 ((eKind == (11 : Int)) = true →
 ((eKind == (11 : Int)) = true → K (Value.bool true) H) ∧
 ((eKind == (11 : Int)) = false →
 ((eKind == (18 : Int)) = true → K (Value.bool (decide (eB ≥ (1 : Int)))) H) ∧
 ((eKind == (18 : Int)) = false →
 ((eKind == (9 : Int)) = true →
 ∃ (b43 : Bool),
 (decide (eA ≥ (1 : Int)) = true →
 Tr Try.prog (61 : Nat) #[Value.int IntKind.i64 eB] H fun (v43 : Value) (H'43 : Heap) =>
 v43 = Value.bool b43 ∧ Ax.Sub H H'43) ∧
 K (Value.bool (decide (eA ≥ (1 : Int)) && b43)) H) ∧
 ((eKind == (9 : Int)) = false →
 ((eKind == (14 : Int)) = true → K (Value.bool (decide (eA ≥ (1 : Int)) && (eC == (0 : Int) || eC == (1 : Int)))) H) ∧
 ((eKind == (14 : Int)) = false →
 ((eKind == (26 : Int)) = true → K (Value.bool (decide (eA ≥ (1 : Int)) && decide (eB ≥ (1 : Int)))) H) ∧
 ((eKind == (26 : Int)) = false →
 ((eKind == (28 : Int)) = true →
 K (Value.bool (decide (eA ≥ (1 : Int)) && decide (eC ≥ (0 : Int)) && decide (eC ≤ (4 : Int)))) H) ∧
 ((eKind == (28 : Int)) = false →
 ((eKind == (24 : Int)) = true →
 ((decide (eB < (1 : Int)) || decide (eB > (4 : Int))) = true → K (Value.bool false) H) ∧
 ((decide (eB < (1 : Int)) || decide (eB > (4 : Int))) = false →
 K (Value.bool (decide (eA ≥ (1 : Int)) && decide (eC ≥ (1 : Int)))) H)) ∧
 ((eKind == (24 : Int)) = false →
 ((eKind == (22 : Int)) = true →
 ((eKind == (22 : Int)) = true → K (Value.bool (decide (eA ≥ (1 : Int)) && decide (eC ≥ (1 : Int)))) H) ∧
 ((eKind == (22 : Int)) = false → K (Value.bool (decide (eA ≥ (1 : Int)))) H)) ∧
 ((eKind == (22 : Int)) = false →
 ((eKind == (23 : Int)) = true → K (Value.bool (decide (eA ≥ (1 : Int)) && decide (eC ≥ (1 : Int)))) H) ∧
 ((eKind == (23 : Int)) = false → K (Value.bool (decide (eA ≥ (1 : Int)))) H)))))))))) ∧
 ((eKind == (11 : Int)) = false →
 ((eKind == (15 : Int)) = true →
 ((eKind == (15 : Int)) = true → K (Value.bool true) H) ∧
 ((eKind == (15 : Int)) = false →
 ((eKind == (18 : Int)) = true → K (Value.bool (decide (eB ≥ (1 : Int)))) H) ∧
 ((eKind == (18 : Int)) = false →
 ((eKind == (9 : Int)) = true →
 ∃ (b44 : Bool),
 (decide (eA ≥ (1 : Int)) = true →
 Tr Try.prog (61 : Nat) #[Value.int IntKind.i64 eB] H fun (v44 : Value) (H'44 : Heap) =>
 v44 = Value.bool b44 ∧ Ax.Sub H H'44) ∧
 K (Value.bool (decide (eA ≥ (1 : Int)) && b44)) H) ∧
 ((eKind == (9 : Int)) = false →
 ((eKind == (14 : Int)) = true → K (Value.bool (decide (eA ≥ (1 : Int)) && (eC == (0 : Int) || eC == (1 : Int)))) H) ∧
 ((eKind == (14 : Int)) = false →
 ((eKind == (26 : Int)) = true → K (Value.bool (decide (eA ≥ (1 : Int)) && decide (eB ≥ (1 : Int)))) H) ∧
 ((eKind == (26 : Int)) = false →
 ((eKind == (28 : Int)) = true →
 K (Value.bool (decide (eA ≥ (1 : Int)) && decide (eC ≥ (0 : Int)) && decide (eC ≤ (4 : Int)))) H) ∧
 ((eKind == (28 : Int)) = false →
 ((eKind == (24 : Int)) = true →
 ((decide (eB < (1 : Int)) || decide (eB > (4 : Int))) = true → K (Value.bool false) H) ∧
 ((decide (eB < (1 : Int)) || decide (eB > (4 : Int))) = false →
 K (Value.bool (decide (eA ≥ (1 : Int)) && decide (eC ≥ (1 : Int)))) H)) ∧
 ((eKind == (24 : Int)) = false →
 ((eKind == (22 : Int)) = true →
 ((eKind == (22 : Int)) = true → K (Value.bool (decide (eA ≥ (1 : Int)) && decide (eC ≥ (1 : Int)))) H) ∧
 ((eKind == (22 : Int)) = false → K (Value.bool (decide (eA ≥ (1 : Int)))) H)) ∧
 ((eKind == (22 : Int)) = false →
 ((eKind == (23 : Int)) = true → K (Value.bool (decide (eA ≥ (1 : Int)) && decide (eC ≥ (1 : Int)))) H) ∧
 ((eKind == (23 : Int)) = false → K (Value.bool (decide (eA ≥ (1 : Int)))) H)))))))))) ∧
 ((eKind == (15 : Int)) = false →
 ((eKind == (16 : Int)) = true →
 ((eKind == (16 : Int)) = true → K (Value.bool true) H) ∧
 ((eKind == (16 : Int)) = false →
 ((eKind == (18 : Int)) = true → K (Value.bool (decide (eB ≥ (1 : Int)))) H) ∧
 ((eKind == (18 : Int)) = false →
 ((eKind == (9 : Int)) = true →
 ∃ (b45 : Bool),
 (decide (eA ≥ (1 : Int)) = true →
 Tr Try.prog (61 : Nat) #[Value.int IntKind.i64 eB] H fun (v45 : Value) (H'45 : Heap) =>
 v45 = Value.bool b45 ∧ Ax.Sub H H'45) ∧
 K (Value.bool (decide (eA ≥ (1 : Int)) && b45)) H) ∧
 ((eKind == (9 : Int)) = false →
 ((eKind == (14 : Int)) = true → K (Value.bool (decide (eA ≥ (1 : Int)) && (eC == (0 : Int) || eC == (1 : Int)))) H) ∧
 ((eKind == (14 : Int)) = false →
 ((eKind == (26 : Int)) = true → K (Value.bool (decide (eA ≥ (1 : Int)) && decide (eB ≥ (1 : Int)))) H) ∧
 ((eKind == (26 : Int)) = false →
 ((eKind == (28 : Int)) = true →
 K (Value.bool (decide (eA ≥ (1 : Int)) && decide (eC ≥ (0 : Int)) && decide (eC ≤ (4 : Int)))) H) ∧
 ((eKind == (28 : Int)) = false →
 ((eKind == (24 : Int)) = true →
 ((decide (eB < (1 : Int)) || decide (eB > (4 : Int))) = true → K (Value.bool false) H) ∧
 ((decide (eB < (1 : Int)) || decide (eB > (4 : Int))) = false →
 K (Value.bool (decide (eA ≥ (1 : Int)) && decide (eC ≥ (1 : Int)))) H)) ∧
 ((eKind == (24 : Int)) = false →
 ((eKind == (22 : Int)) = true →
 ((eKind == (22 : Int)) = true → K (Value.bool (decide (eA ≥ (1 : Int)) && decide (eC ≥ (1 : Int)))) H) ∧
 ((eKind == (22 : Int)) = false → K (Value.bool (decide (eA ≥ (1 : Int)))) H)) ∧
 ((eKind == (22 : Int)) = false →
 ((eKind == (23 : Int)) = true → K (Value.bool (decide (eA ≥ (1 : Int)) && decide (eC ≥ (1 : Int)))) H) ∧
 ((eKind == (23 : Int)) = false → K (Value.bool (decide (eA ≥ (1 : Int)))) H)))))))))) ∧
 ((eKind == (16 : Int)) = false →
 ((eKind == (17 : Int)) = true →
 ((eKind == (17 : Int)) = true → K (Value.bool true) H) ∧
 ((eKind == (17 : Int)) = false →
 ((eKind == (18 : Int)) = true → K (Value.bool (decide (eB ≥ (1 : Int)))) H) ∧
 ((eKind == (18 : Int)) = false →
 ((eKind == (9 : Int)) = true →
 ∃ (b46 : Bool),
 (decide (eA ≥ (1 : Int)) = true →
 Tr Try.prog (61 : Nat) #[Value.int IntKind.i64 eB] H fun (v46 : Value) (H'46 : Heap) =>
 v46 = Value.bool b46 ∧ Ax.Sub H H'46) ∧
 K (Value.bool (decide (eA ≥ (1 : Int)) && b46)) H) ∧
 ((eKind == (9 : Int)) = false →
 ((eKind == (14 : Int)) = true → K (Value.bool (decide (eA ≥ (1 : Int)) && (eC == (0 : Int) || eC == (1 : Int)))) H) ∧
 ((eKind == (14 : Int)) = false →
 ((eKind == (26 : Int)) = true → K (Value.bool (decide (eA ≥ (1 : Int)) && decide (eB ≥ (1 : Int)))) H) ∧
 ((eKind == (26 : Int)) = false →
 ((eKind == (28 : Int)) = true →
 K (Value.bool (decide (eA ≥ (1 : Int)) && decide (eC ≥ (0 : Int)) && decide (eC ≤ (4 : Int)))) H) ∧
 ((eKind == (28 : Int)) = false →
 ((eKind == (24 : Int)) = true →
 ((decide (eB < (1 : Int)) || decide (eB > (4 : Int))) = true → K (Value.bool false) H) ∧
 ((decide (eB < (1 : Int)) || decide (eB > (4 : Int))) = false →
 K (Value.bool (decide (eA ≥ (1 : Int)) && decide (eC ≥ (1 : Int)))) H)) ∧
 ((eKind == (24 : Int)) = false →
 ((eKind == (22 : Int)) = true →
 ((eKind == (22 : Int)) = true →
 K (Value.bool (decide (eA ≥ (1 : Int)) && decide (eC ≥ (1 : Int)))) H) ∧
 ((eKind == (22 : Int)) = false → K (Value.bool (decide (eA ≥ (1 : Int)))) H)) ∧
 ((eKind == (22 : Int)) = false →
 ((eKind == (23 : Int)) = true →
 K (Value.bool (decide (eA ≥ (1 : Int)) && decide (eC ≥ (1 : Int)))) H) ∧
 ((eKind == (23 : Int)) = false → K (Value.bool (decide (eA ≥ (1 : Int)))) H)))))))))) ∧
 ((eKind == (17 : Int)) = false →
 ((eKind == (30 : Int)) = true →
 ((eKind == (30 : Int)) = true → K (Value.bool true) H) ∧
 ((eKind == (30 : Int)) = false →
 ((eKind == (18 : Int)) = true → K (Value.bool (decide (eB ≥ (1 : Int)))) H) ∧
 ((eKind == (18 : Int)) = false →
 ((eKind == (9 : Int)) = true →
 ∃ (b47 : Bool),
 (decide (eA ≥ (1 : Int)) = true →
 Tr Try.prog (61 : Nat) #[Value.int IntKind.i64 eB] H fun (v47 : Value) (H'47 : Heap) =>
 v47 = Value.bool b47 ∧ Ax.Sub H H'47) ∧
 K (Value.bool (decide (eA ≥ (1 : Int)) && b47)) H) ∧
 ((eKind == (9 : Int)) = false →
 ((eKind == (14 : Int)) = true →
 K (Value.bool (decide (eA ≥ (1 : Int)) && (eC == (0 : Int) || eC == (1 : Int)))) H) ∧
 ((eKind == (14 : Int)) = false →
 ((eKind == (26 : Int)) = true → K (Value.bool (decide (eA ≥ (1 : Int)) && decide (eB ≥ (1 : Int)))) H) ∧
 ((eKind == (26 : Int)) = false →
 ((eKind == (28 : Int)) = true →
 K (Value.bool (decide (eA ≥ (1 : Int)) && decide (eC ≥ (0 : Int)) && decide (eC ≤ (4 : Int)))) H) ∧
 ((eKind == (28 : Int)) = false →
 ((eKind == (24 : Int)) = true →
 ((decide (eB < (1 : Int)) || decide (eB > (4 : Int))) = true → K (Value.bool false) H) ∧
 ((decide (eB < (1 : Int)) || decide (eB > (4 : Int))) = false →
 K (Value.bool (decide (eA ≥ (1 : Int)) && decide (eC ≥ (1 : Int)))) H)) ∧
 ((eKind == (24 : Int)) = false →
 ((eKind == (22 : Int)) = true →
 ((eKind == (22 : Int)) = true →
 K (Value.bool (decide (eA ≥ (1 : Int)) && decide (eC ≥ (1 : Int)))) H) ∧
 ((eKind == (22 : Int)) = false → K (Value.bool (decide (eA ≥ (1 : Int)))) H)) ∧
 ((eKind == (22 : Int)) = false →
 ((eKind == (23 : Int)) = true →
 K (Value.bool (decide (eA ≥ (1 : Int)) && decide (eC ≥ (1 : Int)))) H) ∧
 ((eKind == (23 : Int)) = false → K (Value.bool (decide (eA ≥ (1 : Int)))) H)))))))))) ∧
 ((eKind == (30 : Int)) = false →
 ((eKind == (31 : Int)) = true → K (Value.bool true) H) ∧
 ((eKind == (31 : Int)) = false →
 ((eKind == (18 : Int)) = true → K (Value.bool (decide (eB ≥ (1 : Int)))) H) ∧
 ((eKind == (18 : Int)) = false →
 ((eKind == (9 : Int)) = true →
 ∃ (b48 : Bool),
 (decide (eA ≥ (1 : Int)) = true →
 Tr Try.prog (61 : Nat) #[Value.int IntKind.i64 eB] H fun (v48 : Value) (H'48 : Heap) =>
 v48 = Value.bool b48 ∧ Ax.Sub H H'48) ∧
 K (Value.bool (decide (eA ≥ (1 : Int)) && b48)) H) ∧
 ((eKind == (9 : Int)) = false →
 ((eKind == (14 : Int)) = true →
 K (Value.bool (decide (eA ≥ (1 : Int)) && (eC == (0 : Int) || eC == (1 : Int)))) H) ∧
 ((eKind == (14 : Int)) = false →
 ((eKind == (26 : Int)) = true → K (Value.bool (decide (eA ≥ (1 : Int)) && decide (eB ≥ (1 : Int)))) H) ∧
 ((eKind == (26 : Int)) = false →
 ((eKind == (28 : Int)) = true →
 K (Value.bool (decide (eA ≥ (1 : Int)) && decide (eC ≥ (0 : Int)) && decide (eC ≤ (4 : Int)))) H) ∧
 ((eKind == (28 : Int)) = false →
 ((eKind == (24 : Int)) = true →
 ((decide (eB < (1 : Int)) || decide (eB > (4 : Int))) = true → K (Value.bool false) H) ∧
 ((decide (eB < (1 : Int)) || decide (eB > (4 : Int))) = false →
 K (Value.bool (decide (eA ≥ (1 : Int)) && decide (eC ≥ (1 : Int)))) H)) ∧
 ((eKind == (24 : Int)) = false →
 ((eKind == (22 : Int)) = true →
 ((eKind == (22 : Int)) = true →
 K (Value.bool (decide (eA ≥ (1 : Int)) && decide (eC ≥ (1 : Int)))) H) ∧
 ((eKind == (22 : Int)) = false → K (Value.bool (decide (eA ≥ (1 : Int)))) H)) ∧
 ((eKind == (22 : Int)) = false →
 ((eKind == (23 : Int)) = true →
 K (Value.bool (decide (eA ≥ (1 : Int)) && decide (eC ≥ (1 : Int)))) H) ∧
 ((eKind == (23 : Int)) = false → K (Value.bool (decide (eA ≥ (1 : Int)))) H)))))))))))))))) ∧
 ((eKind == (4 : Int)) = false →
 ((eKind == (20 : Int)) = true → K (Value.bool (decide (eA ≥ (0 : Int)))) H) ∧
 ((eKind == (20 : Int)) = false →
 ((eKind == (11 : Int)) = true →
 ((eKind == (11 : Int)) = true → K (Value.bool true) H) ∧
 ((eKind == (11 : Int)) = false →
 ((eKind == (18 : Int)) = true → K (Value.bool (decide (eB ≥ (1 : Int)))) H) ∧
 ((eKind == (18 : Int)) = false →
 ((eKind == (9 : Int)) = true →
 ∃ (b49 : Bool),
 (decide (eA ≥ (1 : Int)) = true →
 Tr Try.prog (61 : Nat) #[Value.int IntKind.i64 eB] H fun (v49 : Value) (H'49 : Heap) =>
 v49 = Value.bool b49 ∧ Ax.Sub H H'49) ∧
 K (Value.bool (decide (eA ≥ (1 : Int)) && b49)) H) ∧
 ((eKind == (9 : Int)) = false →
 ((eKind == (14 : Int)) = true → K (Value.bool (decide (eA ≥ (1 : Int)) && (eC == (0 : Int) || eC == (1 : Int)))) H) ∧
 ((eKind == (14 : Int)) = false →
 ((eKind == (26 : Int)) = true → K (Value.bool (decide (eA ≥ (1 : Int)) && decide (eB ≥ (1 : Int)))) H) ∧
 ((eKind == (26 : Int)) = false →
 ((eKind == (28 : Int)) = true →
 K (Value.bool (decide (eA ≥ (1 : Int)) && decide (eC ≥ (0 : Int)) && decide (eC ≤ (4 : Int)))) H) ∧
 ((eKind == (28 : Int)) = false →
 ((eKind == (24 : Int)) = true →
 ((decide (eB < (1 : Int)) || decide (eB > (4 : Int))) = true → K (Value.bool false) H) ∧
 ((decide (eB < (1 : Int)) || decide (eB > (4 : Int))) = false →
 K (Value.bool (decide (eA ≥ (1 : Int)) && decide (eC ≥ (1 : Int)))) H)) ∧
 ((eKind == (24 : Int)) = false →
 ((eKind == (22 : Int)) = true →
 ((eKind == (22 : Int)) = true → K (Value.bool (decide (eA ≥ (1 : Int)) && decide (eC ≥ (1 : Int)))) H) ∧
 ((eKind == (22 : Int)) = false → K (Value.bool (decide (eA ≥ (1 : Int)))) H)) ∧
 ((eKind == (22 : Int)) = false →
 ((eKind == (23 : Int)) = true → K (Value.bool (decide (eA ≥ (1 : Int)) && decide (eC ≥ (1 : Int)))) H) ∧
 ((eKind == (23 : Int)) = false → K (Value.bool (decide (eA ≥ (1 : Int)))) H)))))))))) ∧
 ((eKind == (11 : Int)) = false →
 ((eKind == (15 : Int)) = true →
 ((eKind == (15 : Int)) = true → K (Value.bool true) H) ∧
 ((eKind == (15 : Int)) = false →
 ((eKind == (18 : Int)) = true → K (Value.bool (decide (eB ≥ (1 : Int)))) H) ∧
 ((eKind == (18 : Int)) = false →
 ((eKind == (9 : Int)) = true →
 ∃ (b50 : Bool),
 (decide (eA ≥ (1 : Int)) = true →
 Tr Try.prog (61 : Nat) #[Value.int IntKind.i64 eB] H fun (v50 : Value) (H'50 : Heap) =>
 v50 = Value.bool b50 ∧ Ax.Sub H H'50) ∧
 K (Value.bool (decide (eA ≥ (1 : Int)) && b50)) H) ∧
 ((eKind == (9 : Int)) = false →
 ((eKind == (14 : Int)) = true → K (Value.bool (decide (eA ≥ (1 : Int)) && (eC == (0 : Int) || eC == (1 : Int)))) H) ∧
 ((eKind == (14 : Int)) = false →
 ((eKind == (26 : Int)) = true → K (Value.bool (decide (eA ≥ (1 : Int)) && decide (eB ≥ (1 : Int)))) H) ∧
 ((eKind == (26 : Int)) = false →
 ((eKind == (28 : Int)) = true →
 K (Value.bool (decide (eA ≥ (1 : Int)) && decide (eC ≥ (0 : Int)) && decide (eC ≤ (4 : Int)))) H) ∧
 ((eKind == (28 : Int)) = false →
 ((eKind == (24 : Int)) = true →
 ((decide (eB < (1 : Int)) || decide (eB > (4 : Int))) = true → K (Value.bool false) H) ∧
 ((decide (eB < (1 : Int)) || decide (eB > (4 : Int))) = false →
 K (Value.bool (decide (eA ≥ (1 : Int)) && decide (eC ≥ (1 : Int)))) H)) ∧
 ((eKind == (24 : Int)) = false →
 ((eKind == (22 : Int)) = true →
 ((eKind == (22 : Int)) = true → K (Value.bool (decide (eA ≥ (1 : Int)) && decide (eC ≥ (1 : Int)))) H) ∧
 ((eKind == (22 : Int)) = false → K (Value.bool (decide (eA ≥ (1 : Int)))) H)) ∧
 ((eKind == (22 : Int)) = false →
 ((eKind == (23 : Int)) = true → K (Value.bool (decide (eA ≥ (1 : Int)) && decide (eC ≥ (1 : Int)))) H) ∧
 ((eKind == (23 : Int)) = false → K (Value.bool (decide (eA ≥ (1 : Int)))) H)))))))))) ∧
 ((eKind == (15 : Int)) = false →
 ((eKind == (16 : Int)) = true →
 ((eKind == (16 : Int)) = true → K (Value.bool true) H) ∧
 ((eKind == (16 : Int)) = false →
 ((eKind == (18 : Int)) = true → K (Value.bool (decide (eB ≥ (1 : Int)))) H) ∧
 ((eKind == (18 : Int)) = false →
 ((eKind == (9 : Int)) = true →
 ∃ (b51 : Bool),
 (decide (eA ≥ (1 : Int)) = true →
 Tr Try.prog (61 : Nat) #[Value.int IntKind.i64 eB] H fun (v51 : Value) (H'51 : Heap) =>
 v51 = Value.bool b51 ∧ Ax.Sub H H'51) ∧
 K (Value.bool (decide (eA ≥ (1 : Int)) && b51)) H) ∧
 ((eKind == (9 : Int)) = false →
 ((eKind == (14 : Int)) = true → K (Value.bool (decide (eA ≥ (1 : Int)) && (eC == (0 : Int) || eC == (1 : Int)))) H) ∧
 ((eKind == (14 : Int)) = false →
 ((eKind == (26 : Int)) = true → K (Value.bool (decide (eA ≥ (1 : Int)) && decide (eB ≥ (1 : Int)))) H) ∧
 ((eKind == (26 : Int)) = false →
 ((eKind == (28 : Int)) = true →
 K (Value.bool (decide (eA ≥ (1 : Int)) && decide (eC ≥ (0 : Int)) && decide (eC ≤ (4 : Int)))) H) ∧
 ((eKind == (28 : Int)) = false →
 ((eKind == (24 : Int)) = true →
 ((decide (eB < (1 : Int)) || decide (eB > (4 : Int))) = true → K (Value.bool false) H) ∧
 ((decide (eB < (1 : Int)) || decide (eB > (4 : Int))) = false →
 K (Value.bool (decide (eA ≥ (1 : Int)) && decide (eC ≥ (1 : Int)))) H)) ∧
 ((eKind == (24 : Int)) = false →
 ((eKind == (22 : Int)) = true →
 ((eKind == (22 : Int)) = true → K (Value.bool (decide (eA ≥ (1 : Int)) && decide (eC ≥ (1 : Int)))) H) ∧
 ((eKind == (22 : Int)) = false → K (Value.bool (decide (eA ≥ (1 : Int)))) H)) ∧
 ((eKind == (22 : Int)) = false →
 ((eKind == (23 : Int)) = true → K (Value.bool (decide (eA ≥ (1 : Int)) && decide (eC ≥ (1 : Int)))) H) ∧
 ((eKind == (23 : Int)) = false → K (Value.bool (decide (eA ≥ (1 : Int)))) H)))))))))) ∧
 ((eKind == (16 : Int)) = false →
 ((eKind == (17 : Int)) = true →
 ((eKind == (17 : Int)) = true → K (Value.bool true) H) ∧
 ((eKind == (17 : Int)) = false →
 ((eKind == (18 : Int)) = true → K (Value.bool (decide (eB ≥ (1 : Int)))) H) ∧
 ((eKind == (18 : Int)) = false →
 ((eKind == (9 : Int)) = true →
 ∃ (b52 : Bool),
 (decide (eA ≥ (1 : Int)) = true →
 Tr Try.prog (61 : Nat) #[Value.int IntKind.i64 eB] H fun (v52 : Value) (H'52 : Heap) =>
 v52 = Value.bool b52 ∧ Ax.Sub H H'52) ∧
 K (Value.bool (decide (eA ≥ (1 : Int)) && b52)) H) ∧
 ((eKind == (9 : Int)) = false →
 ((eKind == (14 : Int)) = true → K (Value.bool (decide (eA ≥ (1 : Int)) && (eC == (0 : Int) || eC == (1 : Int)))) H) ∧
 ((eKind == (14 : Int)) = false →
 ((eKind == (26 : Int)) = true → K (Value.bool (decide (eA ≥ (1 : Int)) && decide (eB ≥ (1 : Int)))) H) ∧
 ((eKind == (26 : Int)) = false →
 ((eKind == (28 : Int)) = true →
 K (Value.bool (decide (eA ≥ (1 : Int)) && decide (eC ≥ (0 : Int)) && decide (eC ≤ (4 : Int)))) H) ∧
 ((eKind == (28 : Int)) = false →
 ((eKind == (24 : Int)) = true →
 ((decide (eB < (1 : Int)) || decide (eB > (4 : Int))) = true → K (Value.bool false) H) ∧
 ((decide (eB < (1 : Int)) || decide (eB > (4 : Int))) = false →
 K (Value.bool (decide (eA ≥ (1 : Int)) && decide (eC ≥ (1 : Int)))) H)) ∧
 ((eKind == (24 : Int)) = false →
 ((eKind == (22 : Int)) = true →
 ((eKind == (22 : Int)) = true →
 K (Value.bool (decide (eA ≥ (1 : Int)) && decide (eC ≥ (1 : Int)))) H) ∧
 ((eKind == (22 : Int)) = false → K (Value.bool (decide (eA ≥ (1 : Int)))) H)) ∧
 ((eKind == (22 : Int)) = false →
 ((eKind == (23 : Int)) = true →
 K (Value.bool (decide (eA ≥ (1 : Int)) && decide (eC ≥ (1 : Int)))) H) ∧
 ((eKind == (23 : Int)) = false → K (Value.bool (decide (eA ≥ (1 : Int)))) H)))))))))) ∧
 ((eKind == (17 : Int)) = false →
 ((eKind == (30 : Int)) = true →
 ((eKind == (30 : Int)) = true → K (Value.bool true) H) ∧
 ((eKind == (30 : Int)) = false →
 ((eKind == (18 : Int)) = true → K (Value.bool (decide (eB ≥ (1 : Int)))) H) ∧
 ((eKind == (18 : Int)) = false →
 ((eKind == (9 : Int)) = true →
 ∃ (b53 : Bool),
 (decide (eA ≥ (1 : Int)) = true →
 Tr Try.prog (61 : Nat) #[Value.int IntKind.i64 eB] H fun (v53 : Value) (H'53 : Heap) =>
 v53 = Value.bool b53 ∧ Ax.Sub H H'53) ∧
 K (Value.bool (decide (eA ≥ (1 : Int)) && b53)) H) ∧
 ((eKind == (9 : Int)) = false →
 ((eKind == (14 : Int)) = true →
 K (Value.bool (decide (eA ≥ (1 : Int)) && (eC == (0 : Int) || eC == (1 : Int)))) H) ∧
 ((eKind == (14 : Int)) = false →
 ((eKind == (26 : Int)) = true → K (Value.bool (decide (eA ≥ (1 : Int)) && decide (eB ≥ (1 : Int)))) H) ∧
 ((eKind == (26 : Int)) = false →
 ((eKind == (28 : Int)) = true →
 K (Value.bool (decide (eA ≥ (1 : Int)) && decide (eC ≥ (0 : Int)) && decide (eC ≤ (4 : Int)))) H) ∧
 ((eKind == (28 : Int)) = false →
 ((eKind == (24 : Int)) = true →
 ((decide (eB < (1 : Int)) || decide (eB > (4 : Int))) = true → K (Value.bool false) H) ∧
 ((decide (eB < (1 : Int)) || decide (eB > (4 : Int))) = false →
 K (Value.bool (decide (eA ≥ (1 : Int)) && decide (eC ≥ (1 : Int)))) H)) ∧
 ((eKind == (24 : Int)) = false →
 ((eKind == (22 : Int)) = true →
 ((eKind == (22 : Int)) = true →
 K (Value.bool (decide (eA ≥ (1 : Int)) && decide (eC ≥ (1 : Int)))) H) ∧
 ((eKind == (22 : Int)) = false → K (Value.bool (decide (eA ≥ (1 : Int)))) H)) ∧
 ((eKind == (22 : Int)) = false →
 ((eKind == (23 : Int)) = true →
 K (Value.bool (decide (eA ≥ (1 : Int)) && decide (eC ≥ (1 : Int)))) H) ∧
 ((eKind == (23 : Int)) = false → K (Value.bool (decide (eA ≥ (1 : Int)))) H)))))))))) ∧
 ((eKind == (30 : Int)) = false →
 ((eKind == (31 : Int)) = true → K (Value.bool true) H) ∧
 ((eKind == (31 : Int)) = false →
 ((eKind == (18 : Int)) = true → K (Value.bool (decide (eB ≥ (1 : Int)))) H) ∧
 ((eKind == (18 : Int)) = false →
 ((eKind == (9 : Int)) = true →
 ∃ (b54 : Bool),
 (decide (eA ≥ (1 : Int)) = true →
 Tr Try.prog (61 : Nat) #[Value.int IntKind.i64 eB] H fun (v54 : Value) (H'54 : Heap) =>
 v54 = Value.bool b54 ∧ Ax.Sub H H'54) ∧
 K (Value.bool (decide (eA ≥ (1 : Int)) && b54)) H) ∧
 ((eKind == (9 : Int)) = false →
 ((eKind == (14 : Int)) = true →
 K (Value.bool (decide (eA ≥ (1 : Int)) && (eC == (0 : Int) || eC == (1 : Int)))) H) ∧
 ((eKind == (14 : Int)) = false →
 ((eKind == (26 : Int)) = true → K (Value.bool (decide (eA ≥ (1 : Int)) && decide (eB ≥ (1 : Int)))) H) ∧
 ((eKind == (26 : Int)) = false →
 ((eKind == (28 : Int)) = true →
 K (Value.bool (decide (eA ≥ (1 : Int)) && decide (eC ≥ (0 : Int)) && decide (eC ≤ (4 : Int)))) H) ∧
 ((eKind == (28 : Int)) = false →
 ((eKind == (24 : Int)) = true →
 ((decide (eB < (1 : Int)) || decide (eB > (4 : Int))) = true → K (Value.bool false) H) ∧
 ((decide (eB < (1 : Int)) || decide (eB > (4 : Int))) = false →
 K (Value.bool (decide (eA ≥ (1 : Int)) && decide (eC ≥ (1 : Int)))) H)) ∧
 ((eKind == (24 : Int)) = false →
 ((eKind == (22 : Int)) = true →
 ((eKind == (22 : Int)) = true →
 K (Value.bool (decide (eA ≥ (1 : Int)) && decide (eC ≥ (1 : Int)))) H) ∧
 ((eKind == (22 : Int)) = false → K (Value.bool (decide (eA ≥ (1 : Int)))) H)) ∧
 ((eKind == (22 : Int)) = false →
 ((eKind == (23 : Int)) = true →
 K (Value.bool (decide (eA ≥ (1 : Int)) && decide (eC ≥ (1 : Int)))) H) ∧
 ((eKind == (23 : Int)) = false →
 K (Value.bool (decide (eA ≥ (1 : Int)))) H))))))))))))))))))))))
theorem v42 {eId : Int} {eTime : Int} {eKind : Int} {eA : Int} {eB : Int} {eC : Int} {eD : Int} {eE : Int} {eF : Int} {H : Heap} {K : Value → Heap → Prop} (h : F42 eId eTime eKind eA eB eC eD eE eF H K) : Tr Try.prog 42 #[.agg #[.int .i64 eId, .int .i64 eTime, .int .i64 eKind, .int .i64 eA, .int .i64 eB, .int .i64 eC, .int .i64 eD, .int .i64 eE, .int .i64 eF]] H K :=
  tr_of_eq (C := c42) Try.func42 (show vcFn c42 Try.f42 [.agg #[.int .i64 eId, .int .i64 eTime, .int .i64 eKind, .int .i64 eA, .int .i64 eB, .int .i64 eC, .int .i64 eD, .int .i64 eE, .int .i64 eF]] H K = F42 eId eTime eKind eA eB eC eD eE eF H K by kernel_rfl) h

/- tapestry/tapestryref14.Numbers -/
noncomputable def c43 : Cx := { P := Try.prog, res := [], pub := [15], loops := [], quiet := [] }
def F43 (eId : Int) (eTime : Int) (eKind : Int) (eA : Int) (eB : Int) (eC : Int) (eD : Int) (eE : Int) (eF : Int) (H : Heap) (K : Value → Heap → Prop) : Prop :=
 ∀ (b : Nat),
 H b = none →
 K (Value.slice (some ({ block := b, off := (0 : Nat) } : Addr)) (6 : Nat) (6 : Nat))
 (H.upd b
 (Obj.cells #[Value.int IntKind.i64 eA, Value.int IntKind.i64 eB, Value.int IntKind.i64 eC, Value.int IntKind.i64 eD, Value.int IntKind.i64 eE, Value.int IntKind.i64 eF]
 (2 : Nat)))
theorem v43 {eId : Int} {eTime : Int} {eKind : Int} {eA : Int} {eB : Int} {eC : Int} {eD : Int} {eE : Int} {eF : Int} {H : Heap} {K : Value → Heap → Prop} (h : F43 eId eTime eKind eA eB eC eD eE eF H K) : Tr Try.prog 43 #[.agg #[.int .i64 eId, .int .i64 eTime, .int .i64 eKind, .int .i64 eA, .int .i64 eB, .int .i64 eC, .int .i64 eD, .int .i64 eE, .int .i64 eF]] H K :=
  tr_of_eq (C := c43) Try.func43 (show vcFn c43 Try.f43 [.agg #[.int .i64 eId, .int .i64 eTime, .int .i64 eKind, .int .i64 eA, .int .i64 eB, .int .i64 eC, .int .i64 eD, .int .i64 eE, .int .i64 eF]] H K = F43 eId eTime eKind eA eB eC eD eE eF H K by kernel_rfl) h

/- tapestry/tapestryref14.span -/
noncomputable def c44 : Cx := { P := Try.prog, res := [], pub := [], loops := [], quiet := [] }
def F44 (kind : Int) (k : Int) (H : Heap) (K : Value → Heap → Prop) : Prop :=
 ((k == (0 : Int) && (kind == (1 : Int) || kind == (3 : Int) || kind == (5 : Int) || kind == (19 : Int) || kind == (21 : Int)) || k == (1 : Int) && kind == (9 : Int)) = true →
 K (Value.tuple #[Value.int IntKind.i64 (0 : Int), Value.int IntKind.i64 (7 : Int)]) H) ∧
 ((k == (0 : Int) && (kind == (1 : Int) || kind == (3 : Int) || kind == (5 : Int) || kind == (19 : Int) || kind == (21 : Int)) || k == (1 : Int) && kind == (9 : Int)) = false →
 ((k == (0 : Int) &&
 (kind == (2 : Int) || decide (kind ≥ (6 : Int)) && decide (kind ≤ (9 : Int)) || decide (kind ≥ (12 : Int)) && decide (kind ≤ (14 : Int)) ||
 decide (kind ≥ (22 : Int)) && decide (kind ≤ (29 : Int))) ||
 (k == (2 : Int) && decide (kind ≥ (22 : Int)) && decide (kind ≤ (24 : Int)) || k == (1 : Int) && (kind == (18 : Int) || kind == (26 : Int)))) =
 true →
 K (Value.tuple #[Value.int IntKind.i64 (1 : Int), Value.int IntKind.i64 (9223372036854775807 : Int)]) H) ∧
 ((k == (0 : Int) &&
 (kind == (2 : Int) || decide (kind ≥ (6 : Int)) && decide (kind ≤ (9 : Int)) || decide (kind ≥ (12 : Int)) && decide (kind ≤ (14 : Int)) ||
 decide (kind ≥ (22 : Int)) && decide (kind ≤ (29 : Int))) ||
 (k == (2 : Int) && decide (kind ≥ (22 : Int)) && decide (kind ≤ (24 : Int)) || k == (1 : Int) && (kind == (18 : Int) || kind == (26 : Int)))) =
 false →
 ((kind == (1 : Int) && decide (k ≥ (2 : Int)) || k == (0 : Int) && (kind == (4 : Int) || kind == (20 : Int)) ||
 k == (2 : Int) && (kind == (19 : Int) || kind == (21 : Int))) =
 true →
 K (Value.tuple #[Value.int IntKind.i64 (0 : Int), Value.int IntKind.i64 (9223372036854775807 : Int)]) H) ∧
 ((kind == (1 : Int) && decide (k ≥ (2 : Int)) || k == (0 : Int) && (kind == (4 : Int) || kind == (20 : Int)) ||
 k == (2 : Int) && (kind == (19 : Int) || kind == (21 : Int))) =
 false →
 ((kind == (10 : Int) && k == (0 : Int)) = true → K (Value.tuple #[Value.int IntKind.i64 (0 : Int), Value.int IntKind.i64 (3 : Int)]) H) ∧
 ((kind == (10 : Int) && k == (0 : Int)) = false →
 ((kind == (14 : Int) && k == (2 : Int)) = true → K (Value.tuple #[Value.int IntKind.i64 (0 : Int), Value.int IntKind.i64 (1 : Int)]) H) ∧
 ((kind == (14 : Int) && k == (2 : Int)) = false →
 ((kind == (24 : Int) && k == (1 : Int)) = true → K (Value.tuple #[Value.int IntKind.i64 (1 : Int), Value.int IntKind.i64 (4 : Int)]) H) ∧
 ((kind == (24 : Int) && k == (1 : Int)) = false →
 ((kind == (28 : Int) && k == (2 : Int)) = true → K (Value.tuple #[Value.int IntKind.i64 (0 : Int), Value.int IntKind.i64 (4 : Int)]) H) ∧
 ((kind == (28 : Int) && k == (2 : Int)) = false →
 K (Value.tuple #[Value.int IntKind.i64 (-9223372036854775808 : Int), Value.int IntKind.i64 (9223372036854775807 : Int)]) H)))))))
theorem v44 {kind : Int} {k : Int} {H : Heap} {K : Value → Heap → Prop} (h : F44 kind k H K) : Tr Try.prog 44 #[.int .i64 kind, .int .i64 k] H K :=
  tr_of_eq (C := c44) Try.func44 (show vcFn c44 Try.f44 [.int .i64 kind, .int .i64 k] H K = F44 kind k H K by kernel_rfl) h

/- tapestry/event.with -/
noncomputable def c51 : Cx := { P := Try.prog, res := [], pub := [3], loops := [], quiet := [], draws := [⟨1, [1, 3, 5, 7, 9, 11], [0], true, false⟩] }
def F51 (eId : Int) (eTime : Int) (eKind : Int) (eA : Int) (eB : Int) (eC : Int) (eD : Int) (eE : Int) (eF : Int) (n0 : Int) (n1 : Int) (n2 : Int) (n3 : Int) (n4 : Int) (n5 : Int) (H : Heap) (K : Value → Heap → Prop) : Prop :=
 ∀ (b : Nat),
 H b = none →
 ∃ (Hs : Heap),
 Ax.Sub Hs
 (H.upd b
 (Obj.cells #[Value.int IntKind.i64 n0, Value.int IntKind.i64 n1, Value.int IntKind.i64 n2, Value.int IntKind.i64 n3, Value.int IntKind.i64 n4, Value.int IntKind.i64 n5]
 (67 : Nat))) ∧
 ((0 : Int) ≤ (0 : Int) ∧ (0 : Int) < (↑(6 : Nat) : Int)) ∧
 ((0 : Int) ≤ (1 : Int) ∧ (1 : Int) < (↑(6 : Nat) : Int)) ∧
 ((0 : Int) ≤ (2 : Int) ∧ (2 : Int) < (↑(6 : Nat) : Int)) ∧
 ((0 : Int) ≤ (3 : Int) ∧ (3 : Int) < (↑(6 : Nat) : Int)) ∧
 ((0 : Int) ≤ (4 : Int) ∧ (4 : Int) < (↑(6 : Nat) : Int)) ∧
 ((0 : Int) ≤ (5 : Int) ∧ (5 : Int) < (↑(6 : Nat) : Int)) ∧
 ∃ (x : Int),
 At Hs (({ block := b, off := (0 : Nat) } : Addr).add (Int.toNat (0 : Int) * nat_lit 1)) [Value.int IntKind.i64 x] ∧
 ∃ (x1 : Int),
 At Hs (({ block := b, off := (0 : Nat) } : Addr).add (Int.toNat (1 : Int) * nat_lit 1)) [Value.int IntKind.i64 x1] ∧
 ∃ (x2 : Int),
 At Hs (({ block := b, off := (0 : Nat) } : Addr).add (Int.toNat (2 : Int) * nat_lit 1)) [Value.int IntKind.i64 x2] ∧
 ∃ (x3 : Int),
 At Hs (({ block := b, off := (0 : Nat) } : Addr).add (Int.toNat (3 : Int) * nat_lit 1)) [Value.int IntKind.i64 x3] ∧
 ∃ (x4 : Int),
 At Hs (({ block := b, off := (0 : Nat) } : Addr).add (Int.toNat (4 : Int) * nat_lit 1)) [Value.int IntKind.i64 x4] ∧
 ∃ (x5 : Int),
 At Hs (({ block := b, off := (0 : Nat) } : Addr).add (Int.toNat (5 : Int) * nat_lit 1)) [Value.int IntKind.i64 x5] ∧
 Ax.Sub Hs
 (H.upd b
 (Obj.cells
 #[Value.int IntKind.i64 n0, Value.int IntKind.i64 n1, Value.int IntKind.i64 n2, Value.int IntKind.i64 n3,
 Value.int IntKind.i64 n4, Value.int IntKind.i64 n5]
 (67 : Nat))) ∧
 Ax.Sub Hs
 (H.upd b
 (Obj.cells
 #[Value.int IntKind.i64 n0, Value.int IntKind.i64 n1, Value.int IntKind.i64 n2, Value.int IntKind.i64 n3,
 Value.int IntKind.i64 n4, Value.int IntKind.i64 n5]
 (67 : Nat))) ∧
 Ax.Sub Hs
 (H.upd b
 (Obj.cells
 #[Value.int IntKind.i64 n0, Value.int IntKind.i64 n1, Value.int IntKind.i64 n2, Value.int IntKind.i64 n3,
 Value.int IntKind.i64 n4, Value.int IntKind.i64 n5]
 (67 : Nat))) ∧
 Ax.Sub Hs
 (H.upd b
 (Obj.cells
 #[Value.int IntKind.i64 n0, Value.int IntKind.i64 n1, Value.int IntKind.i64 n2, Value.int IntKind.i64 n3,
 Value.int IntKind.i64 n4, Value.int IntKind.i64 n5]
 (67 : Nat))) ∧
 Ax.Sub Hs
 (H.upd b
 (Obj.cells
 #[Value.int IntKind.i64 n0, Value.int IntKind.i64 n1, Value.int IntKind.i64 n2, Value.int IntKind.i64 n3,
 Value.int IntKind.i64 n4, Value.int IntKind.i64 n5]
 (67 : Nat))) ∧
 Ax.Sub Hs
 (H.upd b
 (Obj.cells
 #[Value.int IntKind.i64 n0, Value.int IntKind.i64 n1, Value.int IntKind.i64 n2, Value.int IntKind.i64 n3,
 Value.int IntKind.i64 n4, Value.int IntKind.i64 n5]
 (67 : Nat))) ∧
 K
 (Value.agg
 #[Value.int IntKind.i64 eId, Value.int IntKind.i64 eTime, Value.int IntKind.i64 eKind, Value.int IntKind.i64 x,
 Value.int IntKind.i64 x1, Value.int IntKind.i64 x2, Value.int IntKind.i64 x3, Value.int IntKind.i64 x4,
 Value.int IntKind.i64 x5])
 (H.upd b
 (Obj.cells
 #[Value.int IntKind.i64 n0, Value.int IntKind.i64 n1, Value.int IntKind.i64 n2, Value.int IntKind.i64 n3,
 Value.int IntKind.i64 n4, Value.int IntKind.i64 n5]
 (67 : Nat)))
theorem v51 {eId : Int} {eTime : Int} {eKind : Int} {eA : Int} {eB : Int} {eC : Int} {eD : Int} {eE : Int} {eF : Int} {n0 : Int} {n1 : Int} {n2 : Int} {n3 : Int} {n4 : Int} {n5 : Int} {H : Heap} {K : Value → Heap → Prop} (h : F51 eId eTime eKind eA eB eC eD eE eF n0 n1 n2 n3 n4 n5 H K) : Tr Try.prog 51 #[.agg #[.int .i64 eId, .int .i64 eTime, .int .i64 eKind, .int .i64 eA, .int .i64 eB, .int .i64 eC, .int .i64 eD, .int .i64 eE, .int .i64 eF], .agg #[.int .i64 n0, .int .i64 n1, .int .i64 n2, .int .i64 n3, .int .i64 n4, .int .i64 n5]] H K :=
  tr_of_eq (C := c51) Try.func51 (show vcFn c51 Try.f51 [.agg #[.int .i64 eId, .int .i64 eTime, .int .i64 eKind, .int .i64 eA, .int .i64 eB, .int .i64 eC, .int .i64 eD, .int .i64 eE, .int .i64 eF], .agg #[.int .i64 n0, .int .i64 n1, .int .i64 n2, .int .i64 n3, .int .i64 n4, .int .i64 n5]] H K = F51 eId eTime eKind eA eB eC eD eE eF n0 n1 n2 n3 n4 n5 H K by kernel_rfl) h

end Go.Proofs.Ytbojjcmhdklhbaa
