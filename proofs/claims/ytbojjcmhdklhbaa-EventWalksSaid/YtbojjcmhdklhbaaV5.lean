/- By program (axgen.py): the formulas of functions of the translation, and that each gives its function's contract. Conditions: none. -/
import Derived.Test.YtbojjcmhdklhbaaProg
import Derived.Test.YtbojjcmhdklhbaaAxF
set_option maxRecDepth 100000
set_option linter.unusedVariables false
namespace Go.Proofs.Ytbojjcmhdklhbaa
open Go.Ax

/- tapestry/tapestrylaw14.EventRows -/
noncomputable def c6 : Cx := { P := Try.prog, res := [], pub := [], loops := [⟨8, [(17, .int .i64)], [48, 49, 50, 51, 52, 53, 54, 55, 56, 57], []⟩], quiet := [13, 26, 27, 30] }
def F6 (lA : Option Addr) (ln lc : Nat) (s : ByteArray) (H : Heap) (K : Value → Heap → Prop) : Prop :=
 ∃ (b : Bool),
 (Tr Try.prog (13 : Nat) #[] H fun (v : Value) (H' : Heap) => v = Value.bool b ∧ Ax.Sub H H') ∧
 ∃ (s1 : ByteArray),
 ∃ (x : Int),
 (Tr Try.prog (26 : Nat) #[Value.slice lA ln lc] H fun (v1 : Value) (H'1 : Heap) => v1 = Value.tuple #[Value.string s1, Value.int IntKind.i64 x] ∧ Ax.Sub H H'1) ∧
 ∃ (s2 : ByteArray),
 ∃ (x1 : Int),
 (Tr Try.prog (27 : Nat) #[Value.slice lA ln lc] H fun (v2 : Value) (H'2 : Heap) => v2 = Value.tuple #[Value.string s2, Value.int IntKind.i64 x1] ∧ Ax.Sub H H'2) ∧
 Tr Try.prog (28 : Nat) #[Value.string s] H fun (v3 : Value) (H'3 : Heap) =>
 ∃ (A : Option Addr),
 ∃ (n : Nat),
 ∃ (c : Nat),
 ∃ (x2 : Int),
 ∃ (x3 : Int),
 v3 = Value.tuple #[Value.slice A n c, Value.int IntKind.i64 x2, Value.int IntKind.i64 x3] ∧
 Tr Try.prog (29 : Nat) #[Value.string s] H'3 fun (v4 : Value) (H'4 : Heap) =>
 ∃ (A1 : Option Addr),
 ∃ (n1 : Nat),
 ∃ (c1 : Nat),
 ∃ (x4 : Int),
 ∃ (x5 : Int),
 v4 = Value.tuple #[Value.slice A1 n1 c1, Value.int IntKind.i64 x4, Value.int IntKind.i64 x5] ∧
 ∃ (b1 : Bool),
 (Tr Try.prog (30 : Nat) #[Value.slice A n c, Value.slice A1 n1 c1] H'4 fun (v5 : Value) (H'5 : Heap) =>
 v5 = Value.bool b1 ∧ Ax.Sub H'4 H'5) ∧
 ∃ (Rel : Int → Heap → Prop),
 ∃ (mu : Int → Heap → Nat),
 Rel (0 : Int) H'4 ∧
 ∀ (x6 : Int) (H1 : Heap),
 Rel x6 H1 →
 (decide (x6 < (↑n : Int)) = true →
 ∃ (a : Addr),
 (A = some a ∧ (0 : Int) ≤ x6 ∧ x6 < (↑n : Int)) ∧
 ∃ (c2 : Array Value),
 ∃ (T : TypeId),
 H1 (a.add (x6.toNat * nat_lit 9)).block = some (Obj.cells c2 T) ∧
 (a.add (x6.toNat * nat_lit 9)).spot = none ∧
 (a.add (x6.toNat * nat_lit 9)).off +
 [Value.int IntKind.i64 (-1 : Int), Value.int IntKind.i64 (0 : Int), Value.int IntKind.i64 (0 : Int),
 Value.int IntKind.i64 (0 : Int), Value.int IntKind.i64 (0 : Int),
 Value.int IntKind.i64 (0 : Int), Value.int IntKind.i64 (0 : Int),
 Value.int IntKind.i64 (0 : Int), Value.int IntKind.i64 (0 : Int)].length ≤
 c2.size ∧
 Rel (IntKind.i64.wrap (x6 + (1 : Int)))
 (H1.upd (a.add (x6.toNat * nat_lit 9)).block
 (Obj.cells
 (splice c2 (a.add (x6.toNat * nat_lit 9)).off
 [Value.int IntKind.i64 (-1 : Int), Value.int IntKind.i64 (0 : Int),
 Value.int IntKind.i64 (0 : Int), Value.int IntKind.i64 (0 : Int),
 Value.int IntKind.i64 (0 : Int), Value.int IntKind.i64 (0 : Int),
 Value.int IntKind.i64 (0 : Int), Value.int IntKind.i64 (0 : Int),
 Value.int IntKind.i64 (0 : Int)])
 T)) ∧
 mu (IntKind.i64.wrap (x6 + (1 : Int)))
 (H1.upd (a.add (x6.toNat * nat_lit 9)).block
 (Obj.cells
 (splice c2 (a.add (x6.toNat * nat_lit 9)).off
 [Value.int IntKind.i64 (-1 : Int), Value.int IntKind.i64 (0 : Int),
 Value.int IntKind.i64 (0 : Int), Value.int IntKind.i64 (0 : Int),
 Value.int IntKind.i64 (0 : Int), Value.int IntKind.i64 (0 : Int),
 Value.int IntKind.i64 (0 : Int), Value.int IntKind.i64 (0 : Int),
 Value.int IntKind.i64 (0 : Int)])
 T)) <
 mu x6 H1) ∧
 (decide (x6 < (↑n : Int)) = false →
 Tr Try.prog (28 : Nat) #[Value.string s] H1 fun (v6 : Value) (H'6 : Heap) =>
 ∃ (A2 : Option Addr),
 ∃ (n2 : Nat),
 ∃ (c3 : Nat),
 ∃ (x7 : Int),
 ∃ (x8 : Int),
 v6 = Value.tuple #[Value.slice A2 n2 c3, Value.int IntKind.i64 x7, Value.int IntKind.i64 x8] ∧
 ∃ (b2 : Bool),
 (Tr Try.prog (30 : Nat) #[Value.slice A2 n2 c3, Value.slice A1 n1 c1] H'6
 fun (v7 : Value) (H'7 : Heap) => v7 = Value.bool b2 ∧ Ax.Sub H'6 H'7) ∧
 K (Value.bool (b && beqS s1 s2 && x == x1 && b1 && b2 && x2 == x4 && x3 == x5)) H'6)
theorem v6 {lA : Option Addr} {ln lc : Nat} {s : ByteArray} {H : Heap} {K : Value → Heap → Prop} (h : F6 lA ln lc s H K) : Tr Try.prog 6 #[.slice lA ln lc, .string s] H K :=
  tr_of_eq (C := c6) Try.func6 (show vcFn c6 Try.f6 [.slice lA ln lc, .string s] H K = F6 lA ln lc s H K by kernel_rfl) h

/- tapestry/tapestrylaw14.EventBack -/
noncomputable def c8 : Cx := { P := Try.prog, res := [], pub := [], loops := [⟨8, [(13, .int .i64)], [6, 14, 15, 16, 52, 53, 54, 55, 56, 57, 58, 59, 60, 61, 62, 63, 64, 65, 66, 67], []⟩], quiet := [13, 16, 26, 30] }
def F8 (xId : Int) (xTime : Int) (xKind : Int) (xA : Int) (xB : Int) (xC : Int) (xD : Int) (xE : Int) (xF : Int) (lA : Option Addr) (ln lc : Nat) (more : ByteArray) (H : Heap) (K : Value → Heap → Prop) : Prop :=
 ∃ (b : Bool),
 (Tr Try.prog (13 : Nat) #[] H fun (v : Value) (H' : Heap) => v = Value.bool b ∧ Ax.Sub H H') ∧
 ∃ (s : ByteArray),
 ∃ (x : Int),
 (Tr Try.prog (16 : Nat)
 #[Value.agg
 #[Value.int IntKind.i64 xId, Value.int IntKind.i64 xTime, Value.int IntKind.i64 xKind, Value.int IntKind.i64 xA, Value.int IntKind.i64 xB, Value.int IntKind.i64 xC,
 Value.int IntKind.i64 xD, Value.int IntKind.i64 xE, Value.int IntKind.i64 xF]]
 H fun (v1 : Value) (H'1 : Heap) => v1 = Value.tuple #[Value.string s, Value.int IntKind.i64 x] ∧ Ax.Sub H H'1) ∧
 ((x == (0 : Int)) = true →
 s.size + more.size ≤ (9223372036854775807 : Nat) ∧
 Tr Try.prog (18 : Nat) #[Value.string (s ++ more)] H fun (v2 : Value) (H'2 : Heap) =>
 ∃ (x1 : Int),
 ∃ (x2 : Int),
 ∃ (x3 : Int),
 ∃ (x4 : Int),
 ∃ (x5 : Int),
 ∃ (x6 : Int),
 ∃ (x7 : Int),
 ∃ (x8 : Int),
 ∃ (x9 : Int),
 ∃ (x10 : Int),
 ∃ (x11 : Int),
 v2 =
 Value.tuple
 #[Value.agg
 #[Value.int IntKind.i64 x1, Value.int IntKind.i64 x2, Value.int IntKind.i64 x3, Value.int IntKind.i64 x4,
 Value.int IntKind.i64 x5, Value.int IntKind.i64 x6, Value.int IntKind.i64 x7, Value.int IntKind.i64 x8,
 Value.int IntKind.i64 x9],
 Value.int IntKind.i64 x10, Value.int IntKind.i64 x11] ∧
 ((x11 != (0 : Int) ||
 !(x1 == xId &&
 (x2 == xTime &&
 (x3 == xKind && (x4 == xA && (x5 == xB && (x6 == xC && (x7 == xD && (x8 == xE && (x9 == xF && true))))))))) ||
 x10 != (↑s.size : Int)) =
 true →
 K (Value.bool false) H'2) ∧
 ((x11 != (0 : Int) ||
 !(x1 == xId &&
 (x2 == xTime &&
 (x3 == xKind && (x4 == xA && (x5 == xB && (x6 == xC && (x7 == xD && (x8 == xE && (x9 == xF && true))))))))) ||
 x10 != (↑s.size : Int)) =
 false →
 ∃ (Rel : Int → Heap → Prop),
 ∃ (mu : Int → Heap → Nat),
 Rel (0 : Int) H'2 ∧
 ∀ (x12 : Int) (H1 : Heap),
 Rel x12 H1 →
 (decide (x12 < (↑s.size : Int)) = true →
 ((0 : Int) ≤ x12 ∧ x12 ≤ (↑s.size : Int)) ∧
 Tr Try.prog (18 : Nat) #[Value.string (s.extract (0 : Nat) x12.toNat)] H1 fun (v3 : Value) (H'3 : Heap) =>
 ∃ (x13 : Int),
 ∃ (x14 : Int),
 ∃ (x15 : Int),
 ∃ (x16 : Int),
 ∃ (x17 : Int),
 ∃ (x18 : Int),
 ∃ (x19 : Int),
 ∃ (x20 : Int),
 ∃ (x21 : Int),
 ∃ (x22 : Int),
 ∃ (x23 : Int),
 v3 =
 Value.tuple
 #[Value.agg
 #[Value.int IntKind.i64 x13, Value.int IntKind.i64 x14, Value.int IntKind.i64 x15,
 Value.int IntKind.i64 x16, Value.int IntKind.i64 x17, Value.int IntKind.i64 x18,
 Value.int IntKind.i64 x19, Value.int IntKind.i64 x20, Value.int IntKind.i64 x21],
 Value.int IntKind.i64 x22, Value.int IntKind.i64 x23] ∧
 ((x23 == (0 : Int)) = true → K (Value.bool false) H'3) ∧
 ((x23 == (0 : Int)) = false →
 Rel (IntKind.i64.wrap (x12 + (1 : Int))) H'3 ∧
 mu (IntKind.i64.wrap (x12 + (1 : Int))) H'3 < mu x12 H1)) ∧
 (decide (x12 < (↑s.size : Int)) = false →
 ∃ (s1 : ByteArray),
 ∃ (x24 : Int),
 (Tr Try.prog (26 : Nat) #[Value.slice lA ln lc] H1 fun (v4 : Value) (H'4 : Heap) =>
 v4 = Value.tuple #[Value.string s1, Value.int IntKind.i64 x24] ∧ Ax.Sub H1 H'4) ∧
 ((x24 == (0 : Int)) = true →
 Tr Try.prog (28 : Nat) #[Value.string s1] H1 fun (v5 : Value) (H'5 : Heap) =>
 ∃ (A : Option Addr),
 ∃ (n : Nat),
 ∃ (c : Nat),
 ∃ (x25 : Int),
 ∃ (x26 : Int),
 v5 = Value.tuple #[Value.slice A n c, Value.int IntKind.i64 x25, Value.int IntKind.i64 x26] ∧
 ∃ (b1 : Bool),
 (Tr Try.prog (30 : Nat) #[Value.slice A n c, Value.slice lA ln lc] H'5
 fun (v6 : Value) (H'6 : Heap) => v6 = Value.bool b1 ∧ Ax.Sub H'5 H'6) ∧
 ((x25 != (0 : Int) || !b1) = true → K (Value.bool false) H'5) ∧
 ((x25 != (0 : Int) || !b1) = false → K (Value.bool b) H'5)) ∧
 ((x24 == (0 : Int)) = false → K (Value.bool b) H1)))) ∧
 ((x == (0 : Int)) = false →
 ∃ (s2 : ByteArray),
 ∃ (x27 : Int),
 (Tr Try.prog (26 : Nat) #[Value.slice lA ln lc] H fun (v7 : Value) (H'7 : Heap) =>
 v7 = Value.tuple #[Value.string s2, Value.int IntKind.i64 x27] ∧ Ax.Sub H H'7) ∧
 ((x27 == (0 : Int)) = true →
 Tr Try.prog (28 : Nat) #[Value.string s2] H fun (v8 : Value) (H'8 : Heap) =>
 ∃ (A1 : Option Addr),
 ∃ (n1 : Nat),
 ∃ (c1 : Nat),
 ∃ (x28 : Int),
 ∃ (x29 : Int),
 v8 = Value.tuple #[Value.slice A1 n1 c1, Value.int IntKind.i64 x28, Value.int IntKind.i64 x29] ∧
 ∃ (b2 : Bool),
 (Tr Try.prog (30 : Nat) #[Value.slice A1 n1 c1, Value.slice lA ln lc] H'8 fun (v9 : Value) (H'9 : Heap) =>
 v9 = Value.bool b2 ∧ Ax.Sub H'8 H'9) ∧
 ((x28 != (0 : Int) || !b2) = true → K (Value.bool false) H'8) ∧ ((x28 != (0 : Int) || !b2) = false → K (Value.bool b) H'8)) ∧
 ((x27 == (0 : Int)) = false → K (Value.bool b) H))
theorem v8 {xId : Int} {xTime : Int} {xKind : Int} {xA : Int} {xB : Int} {xC : Int} {xD : Int} {xE : Int} {xF : Int} {lA : Option Addr} {ln lc : Nat} {more : ByteArray} {H : Heap} {K : Value → Heap → Prop} (h : F8 xId xTime xKind xA xB xC xD xE xF lA ln lc more H K) : Tr Try.prog 8 #[.agg #[.int .i64 xId, .int .i64 xTime, .int .i64 xKind, .int .i64 xA, .int .i64 xB, .int .i64 xC, .int .i64 xD, .int .i64 xE, .int .i64 xF], .slice lA ln lc, .string more] H K :=
  tr_of_eq (C := c8) Try.func8 (show vcFn c8 Try.f8 [.agg #[.int .i64 xId, .int .i64 xTime, .int .i64 xKind, .int .i64 xA, .int .i64 xB, .int .i64 xC, .int .i64 xD, .int .i64 xE, .int .i64 xF], .slice lA ln lc, .string more] H K = F8 xId xTime xKind xA xB xC xD xE xF lA ln lc more H K by kernel_rfl) h

/- tapestry/tapestryref14.Pack -/
noncomputable def c27 : Cx := { P := Try.prog, res := [], pub := [], loops := [⟨3, [(4, .str), (5, .int .i64)], [2, 3, 6, 7, 8, 9, 10, 11, 12, 13, 14, 15, 16, 17, 18, 19, 20, 21, 22, 23, 24, 25, 26, 27], []⟩], quiet := [17] }
def F27 (lA : Option Addr) (ln lc : Nat) (H : Heap) (K : Value → Heap → Prop) : Prop :=
 ∃ (Rel : ByteArray → Int → Heap → Prop),
 ∃ (mu : ByteArray → Int → Heap → Nat),
 Rel { data := #[] } (0 : Int) H ∧
 ∀ (s : ByteArray) (x : Int) (H1 : Heap),
 Rel s x H1 →
 (decide (x < (↑ln : Int)) = true →
 ∃ (a : Addr),
 (lA = some a ∧ (0 : Int) ≤ x ∧ x < (↑ln : Int)) ∧
 ∃ (x1 : Int),
 ∃ (x2 : Int),
 ∃ (x3 : Int),
 ∃ (x4 : Int),
 ∃ (x5 : Int),
 ∃ (x6 : Int),
 ∃ (x7 : Int),
 ∃ (x8 : Int),
 ∃ (x9 : Int),
 At H1 (a.add (x.toNat * nat_lit 9))
 [Value.int IntKind.i64 x1, Value.int IntKind.i64 x2, Value.int IntKind.i64 x3, Value.int IntKind.i64 x4, Value.int IntKind.i64 x5,
 Value.int IntKind.i64 x6, Value.int IntKind.i64 x7, Value.int IntKind.i64 x8, Value.int IntKind.i64 x9] ∧
 ∃ (s1 : ByteArray),
 ∃ (x10 : Int),
 (Tr Try.prog (17 : Nat)
 #[Value.agg
 #[Value.int IntKind.i64 x1, Value.int IntKind.i64 x2, Value.int IntKind.i64 x3, Value.int IntKind.i64 x4,
 Value.int IntKind.i64 x5, Value.int IntKind.i64 x6, Value.int IntKind.i64 x7, Value.int IntKind.i64 x8,
 Value.int IntKind.i64 x9]]
 H1 fun (v : Value) (H' : Heap) => v = Value.tuple #[Value.string s1, Value.int IntKind.i64 x10] ∧ Ax.Sub H1 H') ∧
 ((x10 != (0 : Int)) = true → K (Value.tuple #[Value.string { data := #[] }, Value.int IntKind.i64 x10]) H1) ∧
 ((x10 != (0 : Int)) = false →
 s.size + s1.size ≤ (9223372036854775807 : Nat) ∧
 Rel (s ++ s1) (IntKind.i64.wrap (x + (1 : Int))) H1 ∧ mu (s ++ s1) (IntKind.i64.wrap (x + (1 : Int))) H1 < mu s x H1)) ∧
 (decide (x < (↑ln : Int)) = false → K (Value.tuple #[Value.string s, Value.int IntKind.i64 (0 : Int)]) H1)
theorem v27 {lA : Option Addr} {ln lc : Nat} {H : Heap} {K : Value → Heap → Prop} (h : F27 lA ln lc H K) : Tr Try.prog 27 #[.slice lA ln lc] H K :=
  tr_of_eq (C := c27) Try.func27 (show vcFn c27 Try.f27 [.slice lA ln lc] H K = F27 lA ln lc H K by kernel_rfl) h

/- tapestry/event.Unpack -/
noncomputable def c28 : Cx := { P := Try.prog, res := [], pub := [], loops := [⟨3, [(5, .sl), (6, .int .i64)], [2, 3, 4, 7, 8, 9, 10, 11, 12, 13, 14, 15, 16, 17, 18, 19, 20, 21, 22, 23, 24, 25, 26, 27, 28, 29, 30, 31, 32], []⟩], quiet := [] }
def F28 (s : ByteArray) (H : Heap) (K : Value → Heap → Prop) : Prop :=
 ∃ (Rel : Option Addr → Nat → Nat → Int → Heap → Prop),
 ∃ (mu : Option Addr → Nat → Nat → Int → Heap → Nat),
 Rel none (0 : Nat) (0 : Nat) (0 : Int) H ∧
 ∀ (A : Option Addr) (n c : Nat) (x : Int) (H1 : Heap),
 Rel A n c x H1 →
 (decide (x < (↑s.size : Int)) = true →
 ((0 : Int) ≤ x ∧ x ≤ (↑s.size : Int)) ∧
 Tr Try.prog (18 : Nat) #[Value.string (s.extract x.toNat s.size)] H1 fun (v : Value) (H' : Heap) =>
 ∃ (x1 : Int),
 ∃ (x2 : Int),
 ∃ (x3 : Int),
 ∃ (x4 : Int),
 ∃ (x5 : Int),
 ∃ (x6 : Int),
 ∃ (x7 : Int),
 ∃ (x8 : Int),
 ∃ (x9 : Int),
 ∃ (x10 : Int),
 ∃ (x11 : Int),
 v =
 Value.tuple
 #[Value.agg
 #[Value.int IntKind.i64 x1, Value.int IntKind.i64 x2, Value.int IntKind.i64 x3, Value.int IntKind.i64 x4,
 Value.int IntKind.i64 x5, Value.int IntKind.i64 x6, Value.int IntKind.i64 x7, Value.int IntKind.i64 x8,
 Value.int IntKind.i64 x9],
 Value.int IntKind.i64 x10, Value.int IntKind.i64 x11] ∧
 ((x11 != (0 : Int)) = true →
 K (Value.tuple #[Value.slice none (0 : Nat) (0 : Nat), Value.int IntKind.i64 x11, Value.int IntKind.i64 x]) H') ∧
 ((x11 != (0 : Int)) = false →
 appC (23 : Nat) (nat_lit 9) (nat_lit 72) H' A n c
 [Value.int IntKind.i64 x1, Value.int IntKind.i64 x2, Value.int IntKind.i64 x3, Value.int IntKind.i64 x4, Value.int IntKind.i64 x5,
 Value.int IntKind.i64 x6, Value.int IntKind.i64 x7, Value.int IntKind.i64 x8, Value.int IntKind.i64 x9]
 (1 : Nat) fun (A' : Option Addr) (n' c' : Nat) (H'1 : Heap) =>
 Rel A' n' c' (IntKind.i64.wrap (x + x10)) H'1 ∧ mu A' n' c' (IntKind.i64.wrap (x + x10)) H'1 < mu A n c x H1)) ∧
 (decide (x < (↑s.size : Int)) = false → K (Value.tuple #[Value.slice A n c, Value.int IntKind.i64 (0 : Int), Value.int IntKind.i64 (0 : Int)]) H1)
theorem v28 {s : ByteArray} {H : Heap} {K : Value → Heap → Prop} (h : F28 s H K) : Tr Try.prog 28 #[.string s] H K :=
  tr_of_eq (C := c28) Try.func28 (show vcFn c28 Try.f28 [.string s] H K = F28 s H K by kernel_rfl) h

/- tapestry/tapestryref14.Unpack -/
noncomputable def c29 : Cx := { P := Try.prog, res := [], pub := [], loops := [⟨3, [(5, .sl), (6, .int .i64)], [2, 3, 4, 7, 8, 9, 10, 11, 12, 13, 14, 15, 16, 17, 18, 19, 20, 21, 22, 23, 24, 25, 26, 27, 28, 29, 30, 31, 32], []⟩], quiet := [] }
def F29 (s : ByteArray) (H : Heap) (K : Value → Heap → Prop) : Prop :=
 ∃ (Rel : Option Addr → Nat → Nat → Int → Heap → Prop),
 ∃ (mu : Option Addr → Nat → Nat → Int → Heap → Nat),
 Rel none (0 : Nat) (0 : Nat) (0 : Int) H ∧
 ∀ (A : Option Addr) (n c : Nat) (x : Int) (H1 : Heap),
 Rel A n c x H1 →
 (decide (x < (↑s.size : Int)) = true →
 ((0 : Int) ≤ x ∧ x ≤ (↑s.size : Int)) ∧
 Tr Try.prog (19 : Nat) #[Value.string (s.extract x.toNat s.size)] H1 fun (v : Value) (H' : Heap) =>
 ∃ (x1 : Int),
 ∃ (x2 : Int),
 ∃ (x3 : Int),
 ∃ (x4 : Int),
 ∃ (x5 : Int),
 ∃ (x6 : Int),
 ∃ (x7 : Int),
 ∃ (x8 : Int),
 ∃ (x9 : Int),
 ∃ (x10 : Int),
 ∃ (x11 : Int),
 v =
 Value.tuple
 #[Value.agg
 #[Value.int IntKind.i64 x1, Value.int IntKind.i64 x2, Value.int IntKind.i64 x3, Value.int IntKind.i64 x4,
 Value.int IntKind.i64 x5, Value.int IntKind.i64 x6, Value.int IntKind.i64 x7, Value.int IntKind.i64 x8,
 Value.int IntKind.i64 x9],
 Value.int IntKind.i64 x10, Value.int IntKind.i64 x11] ∧
 ((x11 != (0 : Int)) = true →
 K (Value.tuple #[Value.slice none (0 : Nat) (0 : Nat), Value.int IntKind.i64 x11, Value.int IntKind.i64 x]) H') ∧
 ((x11 != (0 : Int)) = false →
 appC (23 : Nat) (nat_lit 9) (nat_lit 72) H' A n c
 [Value.int IntKind.i64 x1, Value.int IntKind.i64 x2, Value.int IntKind.i64 x3, Value.int IntKind.i64 x4, Value.int IntKind.i64 x5,
 Value.int IntKind.i64 x6, Value.int IntKind.i64 x7, Value.int IntKind.i64 x8, Value.int IntKind.i64 x9]
 (1 : Nat) fun (A' : Option Addr) (n' c' : Nat) (H'1 : Heap) =>
 Rel A' n' c' (IntKind.i64.wrap (x + x10)) H'1 ∧ mu A' n' c' (IntKind.i64.wrap (x + x10)) H'1 < mu A n c x H1)) ∧
 (decide (x < (↑s.size : Int)) = false → K (Value.tuple #[Value.slice A n c, Value.int IntKind.i64 (0 : Int), Value.int IntKind.i64 (0 : Int)]) H1)
theorem v29 {s : ByteArray} {H : Heap} {K : Value → Heap → Prop} (h : F29 s H K) : Tr Try.prog 29 #[.string s] H K :=
  tr_of_eq (C := c29) Try.func29 (show vcFn c29 Try.f29 [.string s] H K = F29 s H K by kernel_rfl) h

/- tapestry/tapestryref14.Same -/
noncomputable def c30 : Cx := { P := Try.prog, res := [], pub := [], loops := [⟨4, [(5, .int .i64)], [4, 11, 12, 13, 14, 15, 16, 17, 18, 19, 20, 21, 22, 23, 24, 25], []⟩], quiet := [] }
def F30 (aA : Option Addr) (an ac : Nat) (bA : Option Addr) (bn bc : Nat) (H : Heap) (K : Value → Heap → Prop) : Prop :=
 (((↑an : Int) != (↑bn : Int)) = true → K (Value.bool false) H) ∧
 (((↑an : Int) != (↑bn : Int)) = false →
 ∃ (Rel : Int → Heap → Prop),
 ∃ (mu : Int → Heap → Nat),
 Rel (0 : Int) H ∧
 ∀ (x : Int) (H1 : Heap),
 Rel x H1 →
 (decide (x < (↑an : Int)) = true →
 ∃ (a : Addr),
 (aA = some a ∧ (0 : Int) ≤ x ∧ x < (↑an : Int)) ∧
 ∃ (x1 : Int),
 ∃ (x2 : Int),
 ∃ (x3 : Int),
 ∃ (x4 : Int),
 ∃ (x5 : Int),
 ∃ (x6 : Int),
 ∃ (x7 : Int),
 ∃ (x8 : Int),
 ∃ (x9 : Int),
 At H1 (a.add (x.toNat * nat_lit 9))
 [Value.int IntKind.i64 x1, Value.int IntKind.i64 x2, Value.int IntKind.i64 x3, Value.int IntKind.i64 x4, Value.int IntKind.i64 x5,
 Value.int IntKind.i64 x6, Value.int IntKind.i64 x7, Value.int IntKind.i64 x8, Value.int IntKind.i64 x9] ∧
 ∃ (a1 : Addr),
 (bA = some a1 ∧ (0 : Int) ≤ x ∧ x < (↑bn : Int)) ∧
 ∃ (x10 : Int),
 ∃ (x11 : Int),
 ∃ (x12 : Int),
 ∃ (x13 : Int),
 ∃ (x14 : Int),
 ∃ (x15 : Int),
 ∃ (x16 : Int),
 ∃ (x17 : Int),
 ∃ (x18 : Int),
 At H1 (a1.add (x.toNat * nat_lit 9))
 [Value.int IntKind.i64 x10, Value.int IntKind.i64 x11, Value.int IntKind.i64 x12, Value.int IntKind.i64 x13,
 Value.int IntKind.i64 x14, Value.int IntKind.i64 x15, Value.int IntKind.i64 x16, Value.int IntKind.i64 x17,
 Value.int IntKind.i64 x18] ∧
 ((!(x1 == x10 &&
 (x2 == x11 &&
 (x3 == x12 &&
 (x4 == x13 && (x5 == x14 && (x6 == x15 && (x7 == x16 && (x8 == x17 && (x9 == x18 && true)))))))))) =
 true →
 K (Value.bool false) H1) ∧
 ((!(x1 == x10 &&
 (x2 == x11 &&
 (x3 == x12 &&
 (x4 == x13 && (x5 == x14 && (x6 == x15 && (x7 == x16 && (x8 == x17 && (x9 == x18 && true)))))))))) =
 false →
 Rel (IntKind.i64.wrap (x + (1 : Int))) H1 ∧ mu (IntKind.i64.wrap (x + (1 : Int))) H1 < mu x H1)) ∧
 (decide (x < (↑an : Int)) = false → K (Value.bool true) H1))
theorem v30 {aA : Option Addr} {an ac : Nat} {bA : Option Addr} {bn bc : Nat} {H : Heap} {K : Value → Heap → Prop} (h : F30 aA an ac bA bn bc H K) : Tr Try.prog 30 #[.slice aA an ac, .slice bA bn bc] H K :=
  tr_of_eq (C := c30) Try.func30 (show vcFn c30 Try.f30 [.slice aA an ac, .slice bA bn bc] H K = F30 aA an ac bA bn bc H K by kernel_rfl) h

/- tapestry/tapestryref14.Has -/
noncomputable def c31 : Cx := { P := Try.prog, res := [], pub := [], loops := [⟨2, [(5, .int .i64)], [4, 6, 7, 8, 9, 10, 11, 12, 13, 14, 15, 16, 17], []⟩], quiet := [] }
def F31 (kindsA : Option Addr) (kindsn kindsc : Nat) (kind : Int) (H : Heap) (K : Value → Heap → Prop) : Prop :=
 ∃ (Rel : Int → Heap → Prop),
 ∃ (mu : Int → Heap → Nat),
 Rel (0 : Int) H ∧
 ∀ (x : Int) (H1 : Heap),
 Rel x H1 →
 (decide (x < (↑kindsn : Int)) = true →
 ∃ (a : Addr),
 (kindsA = some a ∧ (0 : Int) ≤ x ∧ x < (↑kindsn : Int)) ∧
 ∃ (x1 : Int),
 At H1 (a.add (x.toNat * nat_lit 1)) [Value.int IntKind.i64 x1] ∧
 ((x1 == kind) = true → K (Value.bool true) H1) ∧
 ((x1 == kind) = false → Rel (IntKind.i64.wrap (x + (1 : Int))) H1 ∧ mu (IntKind.i64.wrap (x + (1 : Int))) H1 < mu x H1)) ∧
 (decide (x < (↑kindsn : Int)) = false → K (Value.bool ((↑kindsn : Int) == (0 : Int))) H1)
theorem v31 {kindsA : Option Addr} {kindsn kindsc : Nat} {kind : Int} {H : Heap} {K : Value → Heap → Prop} (h : F31 kindsA kindsn kindsc kind H K) : Tr Try.prog 31 #[.slice kindsA kindsn kindsc, .int .i64 kind] H K :=
  tr_of_eq (C := c31) Try.func31 (show vcFn c31 Try.f31 [.slice kindsA kindsn kindsc, .int .i64 kind] H K = F31 kindsA kindsn kindsc kind H K by kernel_rfl) h

end Go.Proofs.Ytbojjcmhdklhbaa
