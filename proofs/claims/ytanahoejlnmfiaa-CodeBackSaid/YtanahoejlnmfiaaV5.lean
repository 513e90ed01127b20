/- By program (axgen.py): the formulas of functions of the translation, and that each gives its function's contract. Conditions: none. -/
import Derived.Test.YtanahoejlnmfiaaProg
import Derived.Test.YtanahoejlnmfiaaAxF
set_option maxRecDepth 100000
set_option linter.unusedVariables false
namespace Go.Proofs.Ytanahoejlnmfiaa
open Go.Ax

/- tapestry/code.Decode -/
noncomputable def c40 : Cx := { P := Try.prog, res := [], pub := [12], loops := [⟨4, [(15, .int .i64)], [16, 17, 18, 19, 20, 21, 22, 23, 24], [(1, 0, .sl)]⟩, ⟨8, [(27, .int .i64)], [28, 29, 30, 31, 32, 33, 34, 35, 36], [(1, 1, .sl)]⟩], quiet := [33], draws := [⟨5, [], [1], false, true⟩, ⟨9, [], [1], false, true⟩, ⟨14, [4, 8], [0], true, true⟩], asm := true }
def F40 (s : ByteArray) (H : Heap) (K : Value → Heap → Prop) : Prop :=
 ∀ (b : Nat),
 H b = none →
 ∀ (H1 : Heap),
 H1 = H.upd b (Obj.cells #[Value.string s, Value.int IntKind.i64 (0 : Int), Value.int IntKind.i64 (0 : Int)] (90 : Nat)) →
 Tr Try.prog (58 : Nat) #[Value.pointer (some ({ block := b, off := (0 : Nat) } : Addr)), Value.int IntKind.i64 (16 : Int)] H1 fun (v : Value) (H' : Heap) =>
 ∃ (x : Int),
 v = Value.int IntKind.i64 x ∧
 ∃ (Rel : Int → Option Addr → Nat → Nat → Heap → Prop),
 ∃ (mu : Int → Option Addr → Nat → Nat → Heap → Nat),
 Rel (0 : Int) none (0 : Nat) (0 : Nat) H' ∧
 ∀ (x1 : Int) (A : Option Addr) (n c : Nat) (H1 : Heap),
 Rel x1 A n c H1 →
 (decide (x1 < x) = true →
 (Tr Try.prog (59 : Nat) #[Value.pointer (some ({ block := b, off := (0 : Nat) } : Addr))] H1 fun (v1 : Value) (H'1 : Heap) =>
 ∃ (x2 : Int),
 ∃ (x3 : Int),
 ∃ (A1 : Option Addr),
 ∃ (n1 : Nat),
 ∃ (c1 : Nat),
 v1 = Value.agg #[Value.int IntKind.i64 x2, Value.int IntKind.i64 x3, Value.slice A1 n1 c1] ∧
 appC (70 : Nat) (nat_lit 3) (nat_lit 40) H'1 A n c [Value.int IntKind.i64 x2, Value.int IntKind.i64 x3, Value.slice A1 n1 c1] (1 : Nat)
 fun (A' : Option Addr) (n' c' : Nat) (H'2 : Heap) =>
 Rel (IntKind.i64.wrap (x1 + (1 : Int))) A' n' c' H'2 ∧ mu (IntKind.i64.wrap (x1 + (1 : Int))) A' n' c' H'2 < mu x1 A n c H1) ∧
 Tr Try.prog (59 : Nat) #[Value.pointer (some ({ block := b, off := (0 : Nat) } : Addr))] H1 fun (v2 : Value) (H'3 : Heap) =>
 ∃ (x4 : Int),
 ∃ (x5 : Int),
 ∃ (A2 : Option Addr),
 ∃ (n2 : Nat),
 ∃ (c2 : Nat),
 v2 = Value.agg #[Value.int IntKind.i64 x4, Value.int IntKind.i64 x5, Value.slice A2 n2 c2] ∧
 (appC (70 : Nat) (nat_lit 3) (nat_lit 40) H'3 A n c [Value.int IntKind.i64 x4, Value.int IntKind.i64 x5, Value.slice A2 n2 c2] (1 : Nat)
 fun (A'1 : Option Addr) (n'1 c'1 : Nat) (H'4 : Heap) =>
 Rel (IntKind.i64.wrap (x1 + (1 : Int))) A'1 n'1 c'1 H'4 ∧ mu (IntKind.i64.wrap (x1 + (1 : Int))) A'1 n'1 c'1 H'4 < mu x1 A n c H1) ∧
 appC (70 : Nat) (nat_lit 3) (nat_lit 40) H'3 A n c [Value.int IntKind.i64 x4, Value.int IntKind.i64 x5, Value.slice A2 n2 c2]
 (1 : Nat) fun (A'2 : Option Addr) (n'2 c'2 : Nat) (H'5 : Heap) =>
 Rel (IntKind.i64.wrap (x1 + (1 : Int))) A'2 n'2 c'2 H'5 ∧ mu (IntKind.i64.wrap (x1 + (1 : Int))) A'2 n'2 c'2 H'5 < mu x1 A n c H1) ∧
 (decide (x1 < x) = false →
 Tr Try.prog (58 : Nat) #[Value.pointer (some ({ block := b, off := (0 : Nat) } : Addr)), Value.int IntKind.i64 (8 : Int)] H1 fun (v3 : Value) (H'6 : Heap) =>
 ∃ (x6 : Int),
 v3 = Value.int IntKind.i64 x6 ∧
 ∃ (Rel1 : Int → Option Addr → Nat → Nat → Heap → Prop),
 ∃ (mu1 : Int → Option Addr → Nat → Nat → Heap → Nat),
 Rel1 (0 : Int) none (0 : Nat) (0 : Nat) H'6 ∧
 ∀ (x7 : Int) (A3 : Option Addr) (n3 c3 : Nat) (H2 : Heap),
 Rel1 x7 A3 n3 c3 H2 →
 (decide (x7 < x6) = true →
 (Tr Try.prog (60 : Nat) #[Value.pointer (some ({ block := b, off := (0 : Nat) } : Addr))] H2 fun (v4 : Value) (H'7 : Heap) =>
 ∃ (x8 : Int),
 ∃ (x9 : Int),
 ∃ (x10 : Int),
 ∃ (x11 : Int),
 ∃ (x12 : Int),
 ∃ (x13 : Int),
 ∃ (x14 : Int),
 ∃ (x15 : Int),
 ∃ (x16 : Int),
 ∃ (x17 : Int),
 ∃ (x18 : Int),
 v4 =
 Value.agg
 #[Value.int IntKind.i64 x8, Value.int IntKind.i64 x9, Value.int IntKind.i64 x10,
 Value.int IntKind.i64 x11, Value.int IntKind.i64 x12, Value.int IntKind.i64 x13,
 Value.int IntKind.i64 x14, Value.int IntKind.i64 x15, Value.int IntKind.i64 x16,
 Value.int IntKind.i64 x17, Value.int IntKind.i64 x18] ∧
 appC (23 : Nat) (nat_lit 11) (nat_lit 88) H'7 A3 n3 c3
 [Value.int IntKind.i64 x8, Value.int IntKind.i64 x9, Value.int IntKind.i64 x10,
 Value.int IntKind.i64 x11, Value.int IntKind.i64 x12, Value.int IntKind.i64 x13,
 Value.int IntKind.i64 x14, Value.int IntKind.i64 x15, Value.int IntKind.i64 x16,
 Value.int IntKind.i64 x17, Value.int IntKind.i64 x18]
 (1 : Nat) fun (A'3 : Option Addr) (n'3 c'3 : Nat) (H'8 : Heap) =>
 Rel1 (IntKind.i64.wrap (x7 + (1 : Int))) A'3 n'3 c'3 H'8 ∧
 mu1 (IntKind.i64.wrap (x7 + (1 : Int))) A'3 n'3 c'3 H'8 < mu1 x7 A3 n3 c3 H2) ∧
 Tr Try.prog (60 : Nat) #[Value.pointer (some ({ block := b, off := (0 : Nat) } : Addr))] H2 fun (v5 : Value) (H'9 : Heap) =>
 ∃ (x19 : Int),
 ∃ (x20 : Int),
 ∃ (x21 : Int),
 ∃ (x22 : Int),
 ∃ (x23 : Int),
 ∃ (x24 : Int),
 ∃ (x25 : Int),
 ∃ (x26 : Int),
 ∃ (x27 : Int),
 ∃ (x28 : Int),
 ∃ (x29 : Int),
 v5 =
 Value.agg
 #[Value.int IntKind.i64 x19, Value.int IntKind.i64 x20, Value.int IntKind.i64 x21,
 Value.int IntKind.i64 x22, Value.int IntKind.i64 x23, Value.int IntKind.i64 x24,
 Value.int IntKind.i64 x25, Value.int IntKind.i64 x26, Value.int IntKind.i64 x27,
 Value.int IntKind.i64 x28, Value.int IntKind.i64 x29] ∧
 (appC (23 : Nat) (nat_lit 11) (nat_lit 88) H'9 A3 n3 c3
 [Value.int IntKind.i64 x19, Value.int IntKind.i64 x20, Value.int IntKind.i64 x21,
 Value.int IntKind.i64 x22, Value.int IntKind.i64 x23, Value.int IntKind.i64 x24,
 Value.int IntKind.i64 x25, Value.int IntKind.i64 x26, Value.int IntKind.i64 x27,
 Value.int IntKind.i64 x28, Value.int IntKind.i64 x29]
 (1 : Nat) fun (A'4 : Option Addr) (n'4 c'4 : Nat) (H'10 : Heap) =>
 Rel1 (IntKind.i64.wrap (x7 + (1 : Int))) A'4 n'4 c'4 H'10 ∧
 mu1 (IntKind.i64.wrap (x7 + (1 : Int))) A'4 n'4 c'4 H'10 < mu1 x7 A3 n3 c3 H2) ∧
 appC (23 : Nat) (nat_lit 11) (nat_lit 88) H'9 A3 n3 c3
 [Value.int IntKind.i64 x19, Value.int IntKind.i64 x20, Value.int IntKind.i64 x21,
 Value.int IntKind.i64 x22, Value.int IntKind.i64 x23, Value.int IntKind.i64 x24,
 Value.int IntKind.i64 x25, Value.int IntKind.i64 x26, Value.int IntKind.i64 x27,
 Value.int IntKind.i64 x28, Value.int IntKind.i64 x29]
 (1 : Nat) fun (A'5 : Option Addr) (n'5 c'5 : Nat) (H'11 : Heap) =>
 Rel1 (IntKind.i64.wrap (x7 + (1 : Int))) A'5 n'5 c'5 H'11 ∧
 mu1 (IntKind.i64.wrap (x7 + (1 : Int))) A'5 n'5 c'5 H'11 < mu1 x7 A3 n3 c3 H2) ∧
 (decide (x7 < x6) = false →
 ∃ (a : Addr),
 some ({ block := b, off := (0 : Nat) } : Addr) = some a ∧
 ∃ (x30 : Int),
 At H2 (a.add (nat_lit 2)) [Value.int IntKind.i64 x30] ∧
 ∃ (a1 : Addr),
 ((x30 == (0 : Int)) = true → some ({ block := b, off := (0 : Nat) } : Addr) = some a1) ∧
 ∃ (x31 : Int),
 ((x30 == (0 : Int)) = true → At H2 (a1.add (nat_lit 1)) [Value.int IntKind.i64 x31]) ∧
 ((x30 == (0 : Int) && decide (x31 < (↑s.size : Int))) = true →
 ∃ (a2 : Addr),
 some ({ block := b, off := (0 : Nat) } : Addr) = some a2 ∧
 ∃ (c4 : Array Value),
 ∃ (T : TypeId),
 H2 (a2.add (nat_lit 2)).block = some (Obj.cells c4 T) ∧
 (a2.add (nat_lit 2)).spot = none ∧
 (a2.add (nat_lit 2)).off + [Value.int IntKind.i64 (3 : Int)].length ≤ c4.size ∧
 ∀ (H11 : Heap),
 H11 =
 H2.upd (a2.add (nat_lit 2)).block
 (Obj.cells (splice c4 (a2.add (nat_lit 2)).off [Value.int IntKind.i64 (3 : Int)]) T) →
 ∃ (a3 : Addr),
 some ({ block := b, off := (0 : Nat) } : Addr) = some a3 ∧
 ∃ (x32 : Int),
 At H11 (a3.add (nat_lit 2)) [Value.int IntKind.i64 x32] ∧
 ((x32 != (0 : Int)) = true →
 ∃ (Hs : Heap),
 Ax.Sub Hs H11 ∧
 ∃ (a4 : Addr),
 some ({ block := b, off := (0 : Nat) } : Addr) = some a4 ∧
 ∃ (a5 : Addr),
 some ({ block := b, off := (0 : Nat) } : Addr) = some a5 ∧
 ∃ (x33 : Int),
 At Hs (a4.add (nat_lit 2)) [Value.int IntKind.i64 x33] ∧
 ∃ (x34 : Int),
 At Hs (a5.add (nat_lit 1)) [Value.int IntKind.i64 x34] ∧
 Ax.Sub Hs H11 ∧
 K
 (Value.tuple
 #[Value.agg
 #[Value.slice none (0 : Nat) (0 : Nat),
 Value.slice none (0 : Nat) (0 : Nat)],
 Value.int IntKind.i64 x33, Value.int IntKind.i64 x34])
 H11) ∧
 ((x32 != (0 : Int)) = false →
 ∃ (x35 : Int),
 ∃ (x36 : Int),
 ∃ (x37 : Int),
 (Tr Try.prog (33 : Nat)
 #[Value.agg #[Value.slice A n c, Value.slice A3 n3 c3]] H11
 fun (v6 : Value) (H'12 : Heap) =>
 v6 =
 Value.tuple
 #[Value.int IntKind.i64 x35, Value.int IntKind.i64 x36,
 Value.int IntKind.i64 x37] ∧
 Ax.Sub H11 H'12) ∧
 ((x35 != (0 : Int)) = true →
 K
 (Value.tuple
 #[Value.agg
 #[Value.slice none (0 : Nat) (0 : Nat),
 Value.slice none (0 : Nat) (0 : Nat)],
 Value.int IntKind.i64 x35, Value.int IntKind.i64 (0 : Int)])
 H11) ∧
 ((x35 != (0 : Int)) = false →
 K
 (Value.tuple
 #[Value.agg #[Value.slice A n c, Value.slice A3 n3 c3],
 Value.int IntKind.i64 (0 : Int),
 Value.int IntKind.i64 (0 : Int)])
 H11))) ∧
 ((x30 == (0 : Int) && decide (x31 < (↑s.size : Int))) = false →
 ∃ (a6 : Addr),
 some ({ block := b, off := (0 : Nat) } : Addr) = some a6 ∧
 ∃ (x38 : Int),
 At H2 (a6.add (nat_lit 2)) [Value.int IntKind.i64 x38] ∧
 ((x38 != (0 : Int)) = true →
 ∃ (Hs1 : Heap),
 Ax.Sub Hs1 H2 ∧
 ∃ (a7 : Addr),
 some ({ block := b, off := (0 : Nat) } : Addr) = some a7 ∧
 ∃ (a8 : Addr),
 some ({ block := b, off := (0 : Nat) } : Addr) = some a8 ∧
 ∃ (x39 : Int),
 At Hs1 (a7.add (nat_lit 2)) [Value.int IntKind.i64 x39] ∧
 ∃ (x40 : Int),
 At Hs1 (a8.add (nat_lit 1)) [Value.int IntKind.i64 x40] ∧
 Ax.Sub Hs1 H2 ∧
 K
 (Value.tuple
 #[Value.agg
 #[Value.slice none (0 : Nat) (0 : Nat),
 Value.slice none (0 : Nat) (0 : Nat)],
 Value.int IntKind.i64 x39, Value.int IntKind.i64 x40])
 H2) ∧
 ((x38 != (0 : Int)) = false →
 ∃ (x41 : Int),
 ∃ (x42 : Int),
 ∃ (x43 : Int),
 (Tr Try.prog (33 : Nat) #[Value.agg #[Value.slice A n c, Value.slice A3 n3 c3]] H2
 fun (v7 : Value) (H'13 : Heap) =>
 v7 =
 Value.tuple
 #[Value.int IntKind.i64 x41, Value.int IntKind.i64 x42, Value.int IntKind.i64 x43] ∧
 Ax.Sub H2 H'13) ∧
 ((x41 != (0 : Int)) = true →
 K
 (Value.tuple
 #[Value.agg
 #[Value.slice none (0 : Nat) (0 : Nat), Value.slice none (0 : Nat) (0 : Nat)],
 Value.int IntKind.i64 x41, Value.int IntKind.i64 (0 : Int)])
 H2) ∧
 ((x41 != (0 : Int)) = false →
 K
 (Value.tuple
 #[Value.agg #[Value.slice A n c, Value.slice A3 n3 c3],
 Value.int IntKind.i64 (0 : Int), Value.int IntKind.i64 (0 : Int)])
 H2)))))
theorem v40 {s : ByteArray} {H : Heap} {K : Value → Heap → Prop} (h : F40 s H K) : Tr Try.prog 40 #[.string s] H K :=
  tr_of_eq (C := c40) Try.func40 (show vcFn c40 Try.f40 [.string s] H K = F40 s H K by kernel_rfl) h

/- tapestry/tapestryref13.Decode -/
noncomputable def c41 : Cx := { P := Try.prog, res := [], pub := [15], loops := [⟨5, [(8, .int .i64)], [19, 20, 21, 22, 23, 24, 25, 26, 27, 28, 29, 30, 31, 32, 33, 34, 35, 36, 37], [(1, 0, .sl)]⟩, ⟨10, [(9, .int .i64)], [40, 41, 42, 43, 44, 45, 46, 47, 48, 49, 50, 51, 52, 53, 54, 55, 56, 57, 58], [(1, 1, .sl)]⟩], quiet := [34], draws := [⟨7, [], [1], false, true⟩, ⟨12, [], [1], false, true⟩, ⟨16, [4, 8], [0], true, true⟩], asm := true }
def F41 (s : ByteArray) (H : Heap) (K : Value → Heap → Prop) : Prop :=
 ∀ (b : Nat),
 H b = none →
 ∀ (H1 : Heap),
 H1 = H.upd b (Obj.cells #[Value.string s, Value.int IntKind.i64 (0 : Int), Value.int IntKind.i64 (0 : Int)] (95 : Nat)) →
 Tr Try.prog (61 : Nat) #[Value.pointer (some ({ block := b, off := (0 : Nat) } : Addr)), Value.int IntKind.u64 (16 : Int)] H1 fun (v : Value) (H' : Heap) =>
 ∃ (x : Int),
 v = Value.int IntKind.i64 x ∧
 ∃ (Rel : Int → Option Addr → Nat → Nat → Heap → Prop),
 ∃ (mu : Int → Option Addr → Nat → Nat → Heap → Nat),
 Rel (0 : Int) none (0 : Nat) (0 : Nat) H' ∧
 ∀ (x1 : Int) (A : Option Addr) (n c : Nat) (H1 : Heap),
 Rel x1 A n c H1 →
 ∃ (a : Addr),
 (decide (x1 < x) = true → some ({ block := b, off := (0 : Nat) } : Addr) = some a) ∧
 ∃ (x2 : Int),
 (decide (x1 < x) = true → At H1 (a.add (nat_lit 2)) [Value.int IntKind.i64 x2]) ∧
 ((decide (x1 < x) && x2 == (0 : Int)) = true →
 (Tr Try.prog (62 : Nat) #[Value.pointer (some ({ block := b, off := (0 : Nat) } : Addr))] H1 fun (v1 : Value) (H'1 : Heap) =>
 ∃ (x3 : Int),
 ∃ (x4 : Int),
 ∃ (A1 : Option Addr),
 ∃ (n1 : Nat),
 ∃ (c1 : Nat),
 v1 = Value.agg #[Value.int IntKind.i64 x3, Value.int IntKind.i64 x4, Value.slice A1 n1 c1] ∧
 appC (70 : Nat) (nat_lit 3) (nat_lit 40) H'1 A n c [Value.int IntKind.i64 x3, Value.int IntKind.i64 x4, Value.slice A1 n1 c1]
 (1 : Nat) fun (A' : Option Addr) (n' c' : Nat) (H'2 : Heap) =>
 Rel (IntKind.i64.wrap (x1 + (1 : Int))) A' n' c' H'2 ∧ mu (IntKind.i64.wrap (x1 + (1 : Int))) A' n' c' H'2 < mu x1 A n c H1) ∧
 Tr Try.prog (62 : Nat) #[Value.pointer (some ({ block := b, off := (0 : Nat) } : Addr))] H1 fun (v2 : Value) (H'3 : Heap) =>
 ∃ (x5 : Int),
 ∃ (x6 : Int),
 ∃ (A2 : Option Addr),
 ∃ (n2 : Nat),
 ∃ (c2 : Nat),
 v2 = Value.agg #[Value.int IntKind.i64 x5, Value.int IntKind.i64 x6, Value.slice A2 n2 c2] ∧
 (appC (70 : Nat) (nat_lit 3) (nat_lit 40) H'3 A n c [Value.int IntKind.i64 x5, Value.int IntKind.i64 x6, Value.slice A2 n2 c2]
 (1 : Nat) fun (A'1 : Option Addr) (n'1 c'1 : Nat) (H'4 : Heap) =>
 Rel (IntKind.i64.wrap (x1 + (1 : Int))) A'1 n'1 c'1 H'4 ∧
 mu (IntKind.i64.wrap (x1 + (1 : Int))) A'1 n'1 c'1 H'4 < mu x1 A n c H1) ∧
 appC (70 : Nat) (nat_lit 3) (nat_lit 40) H'3 A n c [Value.int IntKind.i64 x5, Value.int IntKind.i64 x6, Value.slice A2 n2 c2]
 (1 : Nat) fun (A'2 : Option Addr) (n'2 c'2 : Nat) (H'5 : Heap) =>
 Rel (IntKind.i64.wrap (x1 + (1 : Int))) A'2 n'2 c'2 H'5 ∧
 mu (IntKind.i64.wrap (x1 + (1 : Int))) A'2 n'2 c'2 H'5 < mu x1 A n c H1) ∧
 ((decide (x1 < x) && x2 == (0 : Int)) = false →
 Tr Try.prog (61 : Nat) #[Value.pointer (some ({ block := b, off := (0 : Nat) } : Addr)), Value.int IntKind.u64 (8 : Int)] H1
 fun (v3 : Value) (H'6 : Heap) =>
 ∃ (x7 : Int),
 v3 = Value.int IntKind.i64 x7 ∧
 ∃ (Rel1 : Int → Option Addr → Nat → Nat → Heap → Prop),
 ∃ (mu1 : Int → Option Addr → Nat → Nat → Heap → Nat),
 Rel1 (0 : Int) none (0 : Nat) (0 : Nat) H'6 ∧
 ∀ (x8 : Int) (A3 : Option Addr) (n3 c3 : Nat) (H2 : Heap),
 Rel1 x8 A3 n3 c3 H2 →
 ∃ (a1 : Addr),
 (decide (x8 < x7) = true → some ({ block := b, off := (0 : Nat) } : Addr) = some a1) ∧
 ∃ (x9 : Int),
 (decide (x8 < x7) = true → At H2 (a1.add (nat_lit 2)) [Value.int IntKind.i64 x9]) ∧
 ((decide (x8 < x7) && x9 == (0 : Int)) = true →
 (Tr Try.prog (63 : Nat) #[Value.pointer (some ({ block := b, off := (0 : Nat) } : Addr))] H2 fun (v4 : Value) (H'7 : Heap) =>
 ∃ (x10 : Int),
 ∃ (x11 : Int),
 ∃ (x12 : Int),
 ∃ (x13 : Int),
 ∃ (x14 : Int),
 ∃ (x15 : Int),
 ∃ (x16 : Int),
 ∃ (x17 : Int),
 ∃ (x18 : Int),
 ∃ (x19 : Int),
 ∃ (x20 : Int),
 v4 =
 Value.agg
 #[Value.int IntKind.i64 x10, Value.int IntKind.i64 x11, Value.int IntKind.i64 x12,
 Value.int IntKind.i64 x13, Value.int IntKind.i64 x14, Value.int IntKind.i64 x15,
 Value.int IntKind.i64 x16, Value.int IntKind.i64 x17, Value.int IntKind.i64 x18,
 Value.int IntKind.i64 x19, Value.int IntKind.i64 x20] ∧
 appC (23 : Nat) (nat_lit 11) (nat_lit 88) H'7 A3 n3 c3
 [Value.int IntKind.i64 x10, Value.int IntKind.i64 x11, Value.int IntKind.i64 x12,
 Value.int IntKind.i64 x13, Value.int IntKind.i64 x14, Value.int IntKind.i64 x15,
 Value.int IntKind.i64 x16, Value.int IntKind.i64 x17, Value.int IntKind.i64 x18,
 Value.int IntKind.i64 x19, Value.int IntKind.i64 x20]
 (1 : Nat) fun (A'3 : Option Addr) (n'3 c'3 : Nat) (H'8 : Heap) =>
 Rel1 (IntKind.i64.wrap (x8 + (1 : Int))) A'3 n'3 c'3 H'8 ∧
 mu1 (IntKind.i64.wrap (x8 + (1 : Int))) A'3 n'3 c'3 H'8 < mu1 x8 A3 n3 c3 H2) ∧
 Tr Try.prog (63 : Nat) #[Value.pointer (some ({ block := b, off := (0 : Nat) } : Addr))] H2
 fun (v5 : Value) (H'9 : Heap) =>
 ∃ (x21 : Int),
 ∃ (x22 : Int),
 ∃ (x23 : Int),
 ∃ (x24 : Int),
 ∃ (x25 : Int),
 ∃ (x26 : Int),
 ∃ (x27 : Int),
 ∃ (x28 : Int),
 ∃ (x29 : Int),
 ∃ (x30 : Int),
 ∃ (x31 : Int),
 v5 =
 Value.agg
 #[Value.int IntKind.i64 x21, Value.int IntKind.i64 x22, Value.int IntKind.i64 x23,
 Value.int IntKind.i64 x24, Value.int IntKind.i64 x25, Value.int IntKind.i64 x26,
 Value.int IntKind.i64 x27, Value.int IntKind.i64 x28, Value.int IntKind.i64 x29,
 Value.int IntKind.i64 x30, Value.int IntKind.i64 x31] ∧
 (appC (23 : Nat) (nat_lit 11) (nat_lit 88) H'9 A3 n3 c3
 [Value.int IntKind.i64 x21, Value.int IntKind.i64 x22, Value.int IntKind.i64 x23,
 Value.int IntKind.i64 x24, Value.int IntKind.i64 x25, Value.int IntKind.i64 x26,
 Value.int IntKind.i64 x27, Value.int IntKind.i64 x28, Value.int IntKind.i64 x29,
 Value.int IntKind.i64 x30, Value.int IntKind.i64 x31]
 (1 : Nat) fun (A'4 : Option Addr) (n'4 c'4 : Nat) (H'10 : Heap) =>
 Rel1 (IntKind.i64.wrap (x8 + (1 : Int))) A'4 n'4 c'4 H'10 ∧
 mu1 (IntKind.i64.wrap (x8 + (1 : Int))) A'4 n'4 c'4 H'10 < mu1 x8 A3 n3 c3 H2) ∧
 appC (23 : Nat) (nat_lit 11) (nat_lit 88) H'9 A3 n3 c3
 [Value.int IntKind.i64 x21, Value.int IntKind.i64 x22, Value.int IntKind.i64 x23,
 Value.int IntKind.i64 x24, Value.int IntKind.i64 x25, Value.int IntKind.i64 x26,
 Value.int IntKind.i64 x27, Value.int IntKind.i64 x28, Value.int IntKind.i64 x29,
 Value.int IntKind.i64 x30, Value.int IntKind.i64 x31]
 (1 : Nat) fun (A'5 : Option Addr) (n'5 c'5 : Nat) (H'11 : Heap) =>
 Rel1 (IntKind.i64.wrap (x8 + (1 : Int))) A'5 n'5 c'5 H'11 ∧
 mu1 (IntKind.i64.wrap (x8 + (1 : Int))) A'5 n'5 c'5 H'11 < mu1 x8 A3 n3 c3 H2) ∧
 ((decide (x8 < x7) && x9 == (0 : Int)) = false →
 ∃ (a2 : Addr),
 some ({ block := b, off := (0 : Nat) } : Addr) = some a2 ∧
 ∃ (x32 : Int),
 At H2 (a2.add (nat_lit 2)) [Value.int IntKind.i64 x32] ∧
 ∃ (a3 : Addr),
 ((x32 == (0 : Int)) = true → some ({ block := b, off := (0 : Nat) } : Addr) = some a3) ∧
 ∃ (x33 : Int),
 ((x32 == (0 : Int)) = true → At H2 (a3.add (nat_lit 1)) [Value.int IntKind.i64 x33]) ∧
 ((x32 == (0 : Int) && decide (x33 < (↑s.size : Int))) = true →
 ∃ (a4 : Addr),
 some ({ block := b, off := (0 : Nat) } : Addr) = some a4 ∧
 ∃ (c4 : Array Value),
 ∃ (T : TypeId),
 H2 (a4.add (nat_lit 2)).block = some (Obj.cells c4 T) ∧
 (a4.add (nat_lit 2)).spot = none ∧
 (a4.add (nat_lit 2)).off + [Value.int IntKind.i64 (3 : Int)].length ≤ c4.size ∧
 ∀ (H11 : Heap),
 H11 =
 H2.upd (a4.add (nat_lit 2)).block
 (Obj.cells
 (splice c4 (a4.add (nat_lit 2)).off [Value.int IntKind.i64 (3 : Int)])
 T) →
 ∃ (a5 : Addr),
 some ({ block := b, off := (0 : Nat) } : Addr) = some a5 ∧
 ∃ (x34 : Int),
 At H11 (a5.add (nat_lit 2)) [Value.int IntKind.i64 x34] ∧
 ((x34 != (0 : Int)) = true →
 ∃ (Hs : Heap),
 Ax.Sub Hs H11 ∧
 ∃ (a6 : Addr),
 some ({ block := b, off := (0 : Nat) } : Addr) = some a6 ∧
 ∃ (a7 : Addr),
 some ({ block := b, off := (0 : Nat) } : Addr) = some a7 ∧
 ∃ (x35 : Int),
 At Hs (a6.add (nat_lit 2))
 [Value.int IntKind.i64 x35] ∧
 ∃ (x36 : Int),
 At Hs (a7.add (nat_lit 1))
 [Value.int IntKind.i64 x36] ∧
 Ax.Sub Hs H11 ∧
 K
 (Value.tuple
 #[Value.agg
 #[Value.slice none (0 : Nat)
 (0 : Nat),
 Value.slice none (0 : Nat)
 (0 : Nat)],
 Value.int IntKind.i64 x35,
 Value.int IntKind.i64 x36])
 H11) ∧
 ((x34 != (0 : Int)) = false →
 ∃ (x37 : Int),
 ∃ (x38 : Int),
 ∃ (x39 : Int),
 (Tr Try.prog (34 : Nat)
 #[Value.agg #[Value.slice A n c, Value.slice A3 n3 c3]]
 H11 fun (v6 : Value) (H'12 : Heap) =>
 v6 =
 Value.tuple
 #[Value.int IntKind.i64 x37,
 Value.int IntKind.i64 x38,
 Value.int IntKind.i64 x39] ∧
 Ax.Sub H11 H'12) ∧
 ((x37 != (0 : Int)) = true →
 K
 (Value.tuple
 #[Value.agg
 #[Value.slice none (0 : Nat) (0 : Nat),
 Value.slice none (0 : Nat) (0 : Nat)],
 Value.int IntKind.i64 x37,
 Value.int IntKind.i64 (0 : Int)])
 H11) ∧
 ((x37 != (0 : Int)) = false →
 K
 (Value.tuple
 #[Value.agg
 #[Value.slice A n c, Value.slice A3 n3 c3],
 Value.int IntKind.i64 (0 : Int),
 Value.int IntKind.i64 (0 : Int)])
 H11))) ∧
 ((x32 == (0 : Int) && decide (x33 < (↑s.size : Int))) = false →
 ∃ (a8 : Addr),
 some ({ block := b, off := (0 : Nat) } : Addr) = some a8 ∧
 ∃ (x40 : Int),
 At H2 (a8.add (nat_lit 2)) [Value.int IntKind.i64 x40] ∧
 ((x40 != (0 : Int)) = true →
 ∃ (Hs1 : Heap),
 Ax.Sub Hs1 H2 ∧
 ∃ (a9 : Addr),
 some ({ block := b, off := (0 : Nat) } : Addr) = some a9 ∧
 ∃ (a10 : Addr),
 some ({ block := b, off := (0 : Nat) } : Addr) = some a10 ∧
 ∃ (x41 : Int),
 At Hs1 (a9.add (nat_lit 2)) [Value.int IntKind.i64 x41] ∧
 ∃ (x42 : Int),
 At Hs1 (a10.add (nat_lit 1)) [Value.int IntKind.i64 x42] ∧
 Ax.Sub Hs1 H2 ∧
 K
 (Value.tuple
 #[Value.agg
 #[Value.slice none (0 : Nat) (0 : Nat),
 Value.slice none (0 : Nat) (0 : Nat)],
 Value.int IntKind.i64 x41, Value.int IntKind.i64 x42])
 H2) ∧
 ((x40 != (0 : Int)) = false →
 ∃ (x43 : Int),
 ∃ (x44 : Int),
 ∃ (x45 : Int),
 (Tr Try.prog (34 : Nat)
 #[Value.agg #[Value.slice A n c, Value.slice A3 n3 c3]] H2
 fun (v7 : Value) (H'13 : Heap) =>
 v7 =
 Value.tuple
 #[Value.int IntKind.i64 x43, Value.int IntKind.i64 x44,
 Value.int IntKind.i64 x45] ∧
 Ax.Sub H2 H'13) ∧
 ((x43 != (0 : Int)) = true →
 K
 (Value.tuple
 #[Value.agg
 #[Value.slice none (0 : Nat) (0 : Nat),
 Value.slice none (0 : Nat) (0 : Nat)],
 Value.int IntKind.i64 x43, Value.int IntKind.i64 (0 : Int)])
 H2) ∧
 ((x43 != (0 : Int)) = false →
 K
 (Value.tuple
 #[Value.agg #[Value.slice A n c, Value.slice A3 n3 c3],
 Value.int IntKind.i64 (0 : Int), Value.int IntKind.i64 (0 : Int)])
 H2)))))
theorem v41 {s : ByteArray} {H : Heap} {K : Value → Heap → Prop} (h : F41 s H K) : Tr Try.prog 41 #[.string s] H K :=
  tr_of_eq (C := c41) Try.func41 (show vcFn c41 Try.f41 [.string s] H K = F41 s H K by kernel_rfl) h

/- (ptr tapestry/code.reader).uint -/
noncomputable def c58 : Cx := { P := Try.prog, res := [], pub := [], loops := [], quiet := [68], asm := true }
def F58 (r : Option Addr) (limit : Int) (H : Heap) (K : Value → Heap → Prop) : Prop :=
 ∃ (a : Addr),
 r = some a ∧
 ∃ (x : Int),
 At H (a.add (nat_lit 2)) [Value.int IntKind.i64 x] ∧
 ((x != (0 : Int)) = true → K (Value.int IntKind.i64 (0 : Int)) H) ∧
 ((x != (0 : Int)) = false →
 ∃ (a1 : Addr),
 r = some a1 ∧
 ∃ (s : ByteArray),
 At H (a1.add (nat_lit 0)) [Value.string s] ∧
 ∃ (a2 : Addr),
 r = some a2 ∧
 ∃ (x1 : Int),
 At H (a2.add (nat_lit 1)) [Value.int IntKind.i64 x1] ∧
 ((0 : Int) ≤ x1 ∧ x1 ≤ (↑s.size : Int)) ∧
 ∃ (x2 : Int),
 ∃ (x3 : Int),
 ∃ (x4 : Int),
 (Tr Try.prog (68 : Nat) #[Value.string (s.extract x1.toNat s.size)] H fun (v : Value) (H' : Heap) =>
 v = Value.tuple #[Value.int IntKind.u64 x2, Value.int IntKind.i64 x3, Value.int IntKind.i64 x4] ∧ Ax.Sub H H') ∧
 ((x4 == (0 : Int) && decide (x2 > IntKind.u64.wrap limit)) = true →
 (((3 : Int) != (0 : Int)) = true →
 ∃ (a3 : Addr),
 r = some a3 ∧
 ∃ (c : Array Value),
 ∃ (T : TypeId),
 H (a3.add (nat_lit 2)).block = some (Obj.cells c T) ∧
 (a3.add (nat_lit 2)).spot = none ∧
 (a3.add (nat_lit 2)).off + [Value.int IntKind.i64 (3 : Int)].length ≤ c.size ∧
 ∀ (H1 : Heap),
 H1 =
 H.upd (a3.add (nat_lit 2)).block
 (Obj.cells (splice c (a3.add (nat_lit 2)).off [Value.int IntKind.i64 (3 : Int)]) T) →
 K (Value.int IntKind.i64 (0 : Int)) H1) ∧
 (((3 : Int) != (0 : Int)) = false →
 ∃ (a4 : Addr),
 r = some a4 ∧
 ∃ (x5 : Int),
 At H (a4.add (nat_lit 1)) [Value.int IntKind.i64 x5] ∧
 ∃ (a5 : Addr),
 r = some a5 ∧
 ∃ (c1 : Array Value),
 ∃ (T1 : TypeId),
 H (a5.add (nat_lit 1)).block = some (Obj.cells c1 T1) ∧
 (a5.add (nat_lit 1)).spot = none ∧
 (a5.add (nat_lit 1)).off + [Value.int IntKind.i64 (IntKind.i64.wrap (x5 + x3))].length ≤ c1.size ∧
 ∀ (H11 : Heap),
 H11 =
 H.upd (a5.add (nat_lit 1)).block
 (Obj.cells (splice c1 (a5.add (nat_lit 1)).off [Value.int IntKind.i64 (IntKind.i64.wrap (x5 + x3))])
 T1) →
 K (Value.int IntKind.i64 (IntKind.i64.wrap x2)) H11)) ∧
 ((x4 == (0 : Int) && decide (x2 > IntKind.u64.wrap limit)) = false →
 ((x4 != (0 : Int)) = true →
 ∃ (a6 : Addr),
 r = some a6 ∧
 ∃ (c2 : Array Value),
 ∃ (T2 : TypeId),
 H (a6.add (nat_lit 2)).block = some (Obj.cells c2 T2) ∧
 (a6.add (nat_lit 2)).spot = none ∧
 (a6.add (nat_lit 2)).off + [Value.int IntKind.i64 x4].length ≤ c2.size ∧
 ∀ (H12 : Heap),
 H12 =
 H.upd (a6.add (nat_lit 2)).block (Obj.cells (splice c2 (a6.add (nat_lit 2)).off [Value.int IntKind.i64 x4]) T2) →
 K (Value.int IntKind.i64 (0 : Int)) H12) ∧
 ((x4 != (0 : Int)) = false →
 ∃ (a7 : Addr),
 r = some a7 ∧
 ∃ (x6 : Int),
 At H (a7.add (nat_lit 1)) [Value.int IntKind.i64 x6] ∧
 ∃ (a8 : Addr),
 r = some a8 ∧
 ∃ (c3 : Array Value),
 ∃ (T3 : TypeId),
 H (a8.add (nat_lit 1)).block = some (Obj.cells c3 T3) ∧
 (a8.add (nat_lit 1)).spot = none ∧
 (a8.add (nat_lit 1)).off + [Value.int IntKind.i64 (IntKind.i64.wrap (x6 + x3))].length ≤ c3.size ∧
 ∀ (H13 : Heap),
 H13 =
 H.upd (a8.add (nat_lit 1)).block
 (Obj.cells (splice c3 (a8.add (nat_lit 1)).off [Value.int IntKind.i64 (IntKind.i64.wrap (x6 + x3))])
 T3) →
 K (Value.int IntKind.i64 (IntKind.i64.wrap x2)) H13)))
theorem v58 {r : Option Addr} {limit : Int} {H : Heap} {K : Value → Heap → Prop} (h : F58 r limit H K) : Tr Try.prog 58 #[.pointer r, .int .i64 limit] H K :=
  tr_of_eq (C := c58) Try.func58 (show vcFn c58 Try.f58 [.pointer r, .int .i64 limit] H K = F58 r limit H K by kernel_rfl) h

/- (ptr tapestry/code.reader).function -/
noncomputable def c59 : Cx := { P := Try.prog, res := [], pub := [], loops := [⟨3, [(12, .int .i64)], [4, 13, 14, 15, 16, 17, 18, 19, 20, 21, 22, 23, 24, 25, 26, 27, 28, 29], [(1, 2, .sl)]⟩], quiet := [28], asm := true }
def F59 (r : Option Addr) (H : Heap) (K : Value → Heap → Prop) : Prop :=
 Tr Try.prog (58 : Nat) #[Value.pointer r, Value.int IntKind.i64 (1099511627776 : Int)] H fun (v : Value) (H' : Heap) =>
 ∃ (x : Int),
 v = Value.int IntKind.i64 x ∧
 Tr Try.prog (58 : Nat) #[Value.pointer r, Value.int IntKind.i64 (1099511627776 : Int)] H' fun (v1 : Value) (H'1 : Heap) =>
 ∃ (x1 : Int),
 v1 = Value.int IntKind.i64 x1 ∧
 Tr Try.prog (58 : Nat) #[Value.pointer r, Value.int IntKind.i64 (128 : Int)] H'1 fun (v2 : Value) (H'2 : Heap) =>
 ∃ (x2 : Int),
 v2 = Value.int IntKind.i64 x2 ∧
 ∃ (Rel : Int → Option Addr → Nat → Nat → Heap → Prop),
 ∃ (mu : Int → Option Addr → Nat → Nat → Heap → Nat),
 Rel (0 : Int) none (0 : Nat) (0 : Nat) H'2 ∧
 ∀ (x3 : Int) (A : Option Addr) (n c : Nat) (H1 : Heap),
 Rel x3 A n c H1 →
 (decide (x3 < x2) = true →
 Tr Try.prog (58 : Nat) #[Value.pointer r, Value.int IntKind.i64 (1099511627776 : Int)] H1 fun (v3 : Value) (H'3 : Heap) =>
 ∃ (x4 : Int),
 v3 = Value.int IntKind.i64 x4 ∧
 ∃ (b : Bool),
 (Tr Try.prog (28 : Nat) #[Value.int IntKind.i64 x4] H'3 fun (v4 : Value) (H'4 : Heap) => v4 = Value.bool b ∧ Ax.Sub H'3 H'4) ∧
 (b = true →
 Tr Try.prog (69 : Nat) #[Value.pointer r] H'3 fun (v5 : Value) (H'5 : Heap) =>
 ∃ (x5 : Int),
 v5 = Value.int IntKind.i64 x5 ∧
 appC (67 : Nat) (nat_lit 2) (nat_lit 16) H'5 A n c [Value.int IntKind.i64 x4, Value.int IntKind.i64 x5] (1 : Nat)
 fun (A' : Option Addr) (n' c' : Nat) (H'6 : Heap) =>
 Rel (IntKind.i64.wrap (x3 + (1 : Int))) A' n' c' H'6 ∧ mu (IntKind.i64.wrap (x3 + (1 : Int))) A' n' c' H'6 < mu x3 A n c H1) ∧
 (b = false →
 appC (67 : Nat) (nat_lit 2) (nat_lit 16) H'3 A n c [Value.int IntKind.i64 x4, Value.int IntKind.i64 (0 : Int)] (1 : Nat)
 fun (A'1 : Option Addr) (n'1 c'1 : Nat) (H'7 : Heap) =>
 Rel (IntKind.i64.wrap (x3 + (1 : Int))) A'1 n'1 c'1 H'7 ∧
 mu (IntKind.i64.wrap (x3 + (1 : Int))) A'1 n'1 c'1 H'7 < mu x3 A n c H1)) ∧
 (decide (x3 < x2) = false → K (Value.agg #[Value.int IntKind.i64 x, Value.int IntKind.i64 x1, Value.slice A n c]) H1)
theorem v59 {r : Option Addr} {H : Heap} {K : Value → Heap → Prop} (h : F59 r H K) : Tr Try.prog 59 #[.pointer r] H K :=
  tr_of_eq (C := c59) Try.func59 (show vcFn c59 Try.f59 [.pointer r] H K = F59 r H K by kernel_rfl) h

/- (ptr tapestry/code.reader).options -/
noncomputable def c60 : Cx := { P := Try.prog, res := [], pub := [3], loops := [⟨3, [(5, .int .i64)], [4, 6, 7, 8, 9, 10, 11, 12], []⟩], quiet := [], draws := [⟨7, [1, 3, 5, 7, 9, 11, 13, 15, 17, 19], [0], true, true⟩], asm := true }
def F60 (r : Option Addr) (H : Heap) (K : Value → Heap → Prop) : Prop :=
 ∀ (b : Nat),
 H b = none →
 ∀ (H1 : Heap),
 H1 =
 H.upd b
 (Obj.cells
 #[Value.int IntKind.i64 (0 : Int), Value.int IntKind.i64 (0 : Int), Value.int IntKind.i64 (0 : Int), Value.int IntKind.i64 (0 : Int), Value.int IntKind.i64 (0 : Int),
 Value.int IntKind.i64 (0 : Int), Value.int IntKind.i64 (0 : Int), Value.int IntKind.i64 (0 : Int), Value.int IntKind.i64 (0 : Int), Value.int IntKind.i64 (0 : Int)]
 (103 : Nat)) →
 ∃ (Rel : Int → Heap → Prop),
 ∃ (mu : Int → Heap → Nat),
 Rel (0 : Int) H1 ∧
 ∀ (x : Int) (H1 : Heap),
 Rel x H1 →
 (decide (x < (10 : Int)) = true →
 Tr Try.prog (58 : Nat) #[Value.pointer r, Value.int IntKind.i64 (1099511627776 : Int)] H1 fun (v : Value) (H' : Heap) =>
 ∃ (x1 : Int),
 v = Value.int IntKind.i64 x1 ∧
 ((0 : Int) ≤ x ∧ x < (↑(10 : Nat) : Int)) ∧
 ∃ (c : Array Value),
 ∃ (T : TypeId),
 H' (({ block := b, off := (0 : Nat) } : Addr).add (x.toNat * nat_lit 1)).block = some (Obj.cells c T) ∧
 (({ block := b, off := (0 : Nat) } : Addr).add (x.toNat * nat_lit 1)).spot = none ∧
 (({ block := b, off := (0 : Nat) } : Addr).add (x.toNat * nat_lit 1)).off + [Value.int IntKind.i64 x1].length ≤ c.size ∧
 ∀ (H11 : Heap),
 H11 =
 H'.upd (({ block := b, off := (0 : Nat) } : Addr).add (x.toNat * nat_lit 1)).block
 (Obj.cells (splice c (({ block := b, off := (0 : Nat) } : Addr).add (x.toNat * nat_lit 1)).off [Value.int IntKind.i64 x1]) T) →
 Rel (IntKind.i64.wrap (x + (1 : Int))) H11 ∧ mu (IntKind.i64.wrap (x + (1 : Int))) H11 < mu x H1) ∧
 (decide (x < (10 : Int)) = false →
 ∃ (Hs : Heap),
 Ax.Sub Hs H1 ∧
 ((0 : Int) ≤ (0 : Int) ∧ (0 : Int) < (↑(10 : Nat) : Int)) ∧
 ((0 : Int) ≤ (1 : Int) ∧ (1 : Int) < (↑(10 : Nat) : Int)) ∧
 ((0 : Int) ≤ (2 : Int) ∧ (2 : Int) < (↑(10 : Nat) : Int)) ∧
 ((0 : Int) ≤ (3 : Int) ∧ (3 : Int) < (↑(10 : Nat) : Int)) ∧
 ((0 : Int) ≤ (4 : Int) ∧ (4 : Int) < (↑(10 : Nat) : Int)) ∧
 ((0 : Int) ≤ (5 : Int) ∧ (5 : Int) < (↑(10 : Nat) : Int)) ∧
 ((0 : Int) ≤ (6 : Int) ∧ (6 : Int) < (↑(10 : Nat) : Int)) ∧
 ((0 : Int) ≤ (7 : Int) ∧ (7 : Int) < (↑(10 : Nat) : Int)) ∧
 ((0 : Int) ≤ (8 : Int) ∧ (8 : Int) < (↑(10 : Nat) : Int)) ∧
 ((0 : Int) ≤ (9 : Int) ∧ (9 : Int) < (↑(10 : Nat) : Int)) ∧
 ∃ (x2 : Int),
 At Hs (({ block := b, off := (0 : Nat) } : Addr).add (Int.toNat (0 : Int) * nat_lit 1)) [Value.int IntKind.i64 x2] ∧
 ∃ (x3 : Int),
 At Hs (({ block := b, off := (0 : Nat) } : Addr).add (Int.toNat (1 : Int) * nat_lit 1)) [Value.int IntKind.i64 x3] ∧
 ∃ (x4 : Int),
 At Hs (({ block := b, off := (0 : Nat) } : Addr).add (Int.toNat (2 : Int) * nat_lit 1)) [Value.int IntKind.i64 x4] ∧
 ∃ (x5 : Int),
 At Hs (({ block := b, off := (0 : Nat) } : Addr).add (Int.toNat (3 : Int) * nat_lit 1)) [Value.int IntKind.i64 x5] ∧
 ∃ (x6 : Int),
 At Hs (({ block := b, off := (0 : Nat) } : Addr).add (Int.toNat (4 : Int) * nat_lit 1)) [Value.int IntKind.i64 x6] ∧
 ∃ (x7 : Int),
 At Hs (({ block := b, off := (0 : Nat) } : Addr).add (Int.toNat (5 : Int) * nat_lit 1)) [Value.int IntKind.i64 x7] ∧
 ∃ (x8 : Int),
 At Hs (({ block := b, off := (0 : Nat) } : Addr).add (Int.toNat (6 : Int) * nat_lit 1)) [Value.int IntKind.i64 x8] ∧
 ∃ (x9 : Int),
 At Hs (({ block := b, off := (0 : Nat) } : Addr).add (Int.toNat (7 : Int) * nat_lit 1))
 [Value.int IntKind.i64 x9] ∧
 ∃ (x10 : Int),
 At Hs (({ block := b, off := (0 : Nat) } : Addr).add (Int.toNat (8 : Int) * nat_lit 1))
 [Value.int IntKind.i64 x10] ∧
 ∃ (x11 : Int),
 At Hs (({ block := b, off := (0 : Nat) } : Addr).add (Int.toNat (9 : Int) * nat_lit 1))
 [Value.int IntKind.i64 x11] ∧
 Tr Try.prog (69 : Nat) #[Value.pointer r] H1 fun (v1 : Value) (H'1 : Heap) =>
 ∃ (x12 : Int),
 v1 = Value.int IntKind.i64 x12 ∧
 Ax.Sub Hs H'1 ∧
 Ax.Sub Hs H'1 ∧
 K
 (Value.agg
 #[Value.int IntKind.i64 x2, Value.int IntKind.i64 x3, Value.int IntKind.i64 x4,
 Value.int IntKind.i64 x5, Value.int IntKind.i64 x6, Value.int IntKind.i64 x7,
 Value.int IntKind.i64 x8, Value.int IntKind.i64 x9, Value.int IntKind.i64 x10,
 Value.int IntKind.i64 x11, Value.int IntKind.i64 x12])
 H'1)
theorem v60 {r : Option Addr} {H : Heap} {K : Value → Heap → Prop} (h : F60 r H K) : Tr Try.prog 60 #[.pointer r] H K :=
  tr_of_eq (C := c60) Try.func60 (show vcFn c60 Try.f60 [.pointer r] H K = F60 r H K by kernel_rfl) h

/- (ptr tapestry/tapestryref13.Read).Uint -/
noncomputable def c61 : Cx := { P := Try.prog, res := [], pub := [], loops := [], quiet := [70], asm := true }
def F61 (r : Option Addr) (most0 : Int) (H : Heap) (K : Value → Heap → Prop) : Prop :=
 ∃ (a : Addr),
 r = some a ∧
 ∃ (x : Int),
 At H (a.add (nat_lit 2)) [Value.int IntKind.i64 x] ∧
 ((x != (0 : Int)) = true → K (Value.int IntKind.i64 (0 : Int)) H) ∧
 ((x != (0 : Int)) = false →
 ∃ (a1 : Addr),
 r = some a1 ∧
 ∃ (s : ByteArray),
 At H (a1.add (nat_lit 0)) [Value.string s] ∧
 ∃ (a2 : Addr),
 r = some a2 ∧
 ∃ (x1 : Int),
 At H (a2.add (nat_lit 1)) [Value.int IntKind.i64 x1] ∧
 ((0 : Int) ≤ x1 ∧ x1 ≤ (↑s.size : Int)) ∧
 ∃ (x2 : Int),
 ∃ (x3 : Int),
 ∃ (x4 : Int),
 (Tr Try.prog (70 : Nat) #[Value.string (s.extract x1.toNat s.size)] H fun (v : Value) (H' : Heap) =>
 v = Value.tuple #[Value.int IntKind.u64 x2, Value.int IntKind.i64 x3, Value.int IntKind.i64 x4] ∧ Ax.Sub H H') ∧
 ((x4 != (0 : Int)) = true →
 ∃ (a3 : Addr),
 r = some a3 ∧
 ∃ (c : Array Value),
 ∃ (T : TypeId),
 H (a3.add (nat_lit 2)).block = some (Obj.cells c T) ∧
 (a3.add (nat_lit 2)).spot = none ∧
 (a3.add (nat_lit 2)).off + [Value.int IntKind.i64 x4].length ≤ c.size ∧
 ∀ (H1 : Heap),
 H1 = H.upd (a3.add (nat_lit 2)).block (Obj.cells (splice c (a3.add (nat_lit 2)).off [Value.int IntKind.i64 x4]) T) →
 K (Value.int IntKind.i64 (0 : Int)) H1) ∧
 ((x4 != (0 : Int)) = false →
 (decide (x2 > most0) = true →
 ∃ (a4 : Addr),
 r = some a4 ∧
 ∃ (c1 : Array Value),
 ∃ (T1 : TypeId),
 H (a4.add (nat_lit 2)).block = some (Obj.cells c1 T1) ∧
 (a4.add (nat_lit 2)).spot = none ∧
 (a4.add (nat_lit 2)).off + [Value.int IntKind.i64 (3 : Int)].length ≤ c1.size ∧
 ∀ (H11 : Heap),
 H11 =
 H.upd (a4.add (nat_lit 2)).block
 (Obj.cells (splice c1 (a4.add (nat_lit 2)).off [Value.int IntKind.i64 (3 : Int)]) T1) →
 K (Value.int IntKind.i64 (0 : Int)) H11) ∧
 (decide (x2 > most0) = false →
 ∃ (a5 : Addr),
 r = some a5 ∧
 ∃ (x5 : Int),
 At H (a5.add (nat_lit 1)) [Value.int IntKind.i64 x5] ∧
 ∃ (a6 : Addr),
 r = some a6 ∧
 ∃ (c2 : Array Value),
 ∃ (T2 : TypeId),
 H (a6.add (nat_lit 1)).block = some (Obj.cells c2 T2) ∧
 (a6.add (nat_lit 1)).spot = none ∧
 (a6.add (nat_lit 1)).off + [Value.int IntKind.i64 (IntKind.i64.wrap (x5 + x3))].length ≤ c2.size ∧
 ∀ (H12 : Heap),
 H12 =
 H.upd (a6.add (nat_lit 1)).block
 (Obj.cells (splice c2 (a6.add (nat_lit 1)).off [Value.int IntKind.i64 (IntKind.i64.wrap (x5 + x3))])
 T2) →
 K (Value.int IntKind.i64 (IntKind.i64.wrap x2)) H12)))
theorem v61 {r : Option Addr} {most0 : Int} {H : Heap} {K : Value → Heap → Prop} (h : F61 r most0 H K) : Tr Try.prog 61 #[.pointer r, .int .u64 most0] H K :=
  tr_of_eq (C := c61) Try.func61 (show vcFn c61 Try.f61 [.pointer r, .int .u64 most0] H K = F61 r most0 H K by kernel_rfl) h

/- (ptr tapestry/tapestryref13.Read).function -/
noncomputable def c62 : Cx := { P := Try.prog, res := [], pub := [], loops := [⟨8, [(7, .int .i64)], [8, 9, 10, 22, 23, 24, 25, 26, 27, 28, 29, 30, 31, 32, 33, 34, 35, 36, 37, 38, 39, 40, 41, 42, 43, 44, 45, 46, 47, 48, 49, 50, 51, 52, 53, 54, 55, 56, 57], [(1, 2, .sl)]⟩], quiet := [29], asm := true }
def F62 (r : Option Addr) (H : Heap) (K : Value → Heap → Prop) : Prop :=
 Tr Try.prog (61 : Nat) #[Value.pointer r, Value.int IntKind.u64 (1099511627776 : Int)] H fun (v : Value) (H' : Heap) =>
 ∃ (x : Int),
 v = Value.int IntKind.i64 x ∧
 Tr Try.prog (61 : Nat) #[Value.pointer r, Value.int IntKind.u64 (1099511627776 : Int)] H' fun (v1 : Value) (H'1 : Heap) =>
 ∃ (x1 : Int),
 v1 = Value.int IntKind.i64 x1 ∧
 Tr Try.prog (61 : Nat) #[Value.pointer r, Value.int IntKind.u64 (128 : Int)] H'1 fun (v2 : Value) (H'2 : Heap) =>
 ∃ (x2 : Int),
 v2 = Value.int IntKind.i64 x2 ∧
 ∃ (Rel : Int → Option Addr → Nat → Nat → Heap → Prop),
 ∃ (mu : Int → Option Addr → Nat → Nat → Heap → Nat),
 Rel (0 : Int) none (0 : Nat) (0 : Nat) H'2 ∧
 ∀ (x3 : Int) (A : Option Addr) (n c : Nat) (H1 : Heap),
 Rel x3 A n c H1 →
 ∃ (a : Addr),
 (decide (x3 < x2) = true → r = some a) ∧
 ∃ (x4 : Int),
 (decide (x3 < x2) = true → At H1 (a.add (nat_lit 2)) [Value.int IntKind.i64 x4]) ∧
 ((decide (x3 < x2) && x4 == (0 : Int)) = true →
 Tr Try.prog (61 : Nat) #[Value.pointer r, Value.int IntKind.u64 (1099511627776 : Int)] H1 fun (v3 : Value) (H'3 : Heap) =>
 ∃ (x5 : Int),
 v3 = Value.int IntKind.i64 x5 ∧
 ∃ (b : Bool),
 (Tr Try.prog (29 : Nat) #[Value.int IntKind.i64 x5] H'3 fun (v4 : Value) (H'4 : Heap) => v4 = Value.bool b ∧ Ax.Sub H'3 H'4) ∧
 ∃ (a1 : Addr),
 (b = true → r = some a1) ∧
 ∃ (x6 : Int),
 (b = true → At H'3 (a1.add (nat_lit 2)) [Value.int IntKind.i64 x6]) ∧
 ((b && x6 == (0 : Int)) = true →
 Tr Try.prog (71 : Nat) #[Value.pointer r] H'3 fun (v5 : Value) (H'5 : Heap) =>
 ∃ (x7 : Int),
 v5 = Value.int IntKind.i64 x7 ∧
 appC (67 : Nat) (nat_lit 2) (nat_lit 16) H'5 A n c [Value.int IntKind.i64 x5, Value.int IntKind.i64 x7]
 (1 : Nat) fun (A' : Option Addr) (n' c' : Nat) (H'6 : Heap) =>
 Rel (IntKind.i64.wrap (x3 + (1 : Int))) A' n' c' H'6 ∧
 mu (IntKind.i64.wrap (x3 + (1 : Int))) A' n' c' H'6 < mu x3 A n c H1) ∧
 ((b && x6 == (0 : Int)) = false →
 appC (67 : Nat) (nat_lit 2) (nat_lit 16) H'3 A n c [Value.int IntKind.i64 x5, Value.int IntKind.i64 (0 : Int)]
 (1 : Nat) fun (A'1 : Option Addr) (n'1 c'1 : Nat) (H'7 : Heap) =>
 Rel (IntKind.i64.wrap (x3 + (1 : Int))) A'1 n'1 c'1 H'7 ∧
 mu (IntKind.i64.wrap (x3 + (1 : Int))) A'1 n'1 c'1 H'7 < mu x3 A n c H1)) ∧
 ((decide (x3 < x2) && x4 == (0 : Int)) = false → K (Value.agg #[Value.int IntKind.i64 x, Value.int IntKind.i64 x1, Value.slice A n c]) H1)
theorem v62 {r : Option Addr} {H : Heap} {K : Value → Heap → Prop} (h : F62 r H K) : Tr Try.prog 62 #[.pointer r] H K :=
  tr_of_eq (C := c62) Try.func62 (show vcFn c62 Try.f62 [.pointer r] H K = F62 r H K by kernel_rfl) h

/- (ptr tapestry/tapestryref13.Read).options -/
noncomputable def c63 : Cx := { P := Try.prog, res := [], pub := [], loops := [⟨3, [(3, .sl), (4, .int .i64)], [6, 7, 8, 9, 10, 11, 12, 13, 14], []⟩], quiet := [], draws := [⟨7, [2, 5, 8, 11, 14, 17, 20, 23, 26, 29], [0], true, true⟩], asm := true }
def F63 (r : Option Addr) (H : Heap) (K : Value → Heap → Prop) : Prop :=
 ∃ (Rel : Option Addr → Nat → Nat → Int → Heap → Prop),
 ∃ (mu : Option Addr → Nat → Nat → Int → Heap → Nat),
 Rel none (0 : Nat) (0 : Nat) (0 : Int) H ∧
 ∀ (A : Option Addr) (n c : Nat) (x : Int) (H1 : Heap),
 Rel A n c x H1 →
 (decide (x < (10 : Int)) = true →
 Tr Try.prog (61 : Nat) #[Value.pointer r, Value.int IntKind.u64 (1099511627776 : Int)] H1 fun (v : Value) (H' : Heap) =>
 ∃ (x1 : Int),
 v = Value.int IntKind.i64 x1 ∧
 appC (2 : Nat) (nat_lit 1) (nat_lit 8) H' A n c [Value.int IntKind.i64 x1] (1 : Nat) fun (A' : Option Addr) (n' c' : Nat) (H'1 : Heap) =>
 Rel A' n' c' (IntKind.i64.wrap (x + (1 : Int))) H'1 ∧ mu A' n' c' (IntKind.i64.wrap (x + (1 : Int))) H'1 < mu A n c x H1) ∧
 (decide (x < (10 : Int)) = false →
 Tr Try.prog (71 : Nat) #[Value.pointer r] H1 fun (v1 : Value) (H'2 : Heap) =>
 ∃ (x2 : Int),
 v1 = Value.int IntKind.i64 x2 ∧
 ∃ (Hs : Heap),
 Ax.Sub Hs H'2 ∧
 ∃ (a : Addr),
 (A = some a ∧ (0 : Int) ≤ (0 : Int) ∧ (0 : Int) < (↑n : Int)) ∧
 ∃ (a1 : Addr),
 (A = some a1 ∧ (0 : Int) ≤ (1 : Int) ∧ (1 : Int) < (↑n : Int)) ∧
 ∃ (a2 : Addr),
 (A = some a2 ∧ (0 : Int) ≤ (2 : Int) ∧ (2 : Int) < (↑n : Int)) ∧
 ∃ (a3 : Addr),
 (A = some a3 ∧ (0 : Int) ≤ (3 : Int) ∧ (3 : Int) < (↑n : Int)) ∧
 ∃ (a4 : Addr),
 (A = some a4 ∧ (0 : Int) ≤ (4 : Int) ∧ (4 : Int) < (↑n : Int)) ∧
 ∃ (a5 : Addr),
 (A = some a5 ∧ (0 : Int) ≤ (5 : Int) ∧ (5 : Int) < (↑n : Int)) ∧
 ∃ (a6 : Addr),
 (A = some a6 ∧ (0 : Int) ≤ (6 : Int) ∧ (6 : Int) < (↑n : Int)) ∧
 ∃ (a7 : Addr),
 (A = some a7 ∧ (0 : Int) ≤ (7 : Int) ∧ (7 : Int) < (↑n : Int)) ∧
 ∃ (a8 : Addr),
 (A = some a8 ∧ (0 : Int) ≤ (8 : Int) ∧ (8 : Int) < (↑n : Int)) ∧
 ∃ (a9 : Addr),
 (A = some a9 ∧ (0 : Int) ≤ (9 : Int) ∧ (9 : Int) < (↑n : Int)) ∧
 ∃ (x3 : Int),
 At Hs (a.add (Int.toNat (0 : Int) * nat_lit 1)) [Value.int IntKind.i64 x3] ∧
 ∃ (x4 : Int),
 At Hs (a1.add (Int.toNat (1 : Int) * nat_lit 1)) [Value.int IntKind.i64 x4] ∧
 ∃ (x5 : Int),
 At Hs (a2.add (Int.toNat (2 : Int) * nat_lit 1)) [Value.int IntKind.i64 x5] ∧
 ∃ (x6 : Int),
 At Hs (a3.add (Int.toNat (3 : Int) * nat_lit 1)) [Value.int IntKind.i64 x6] ∧
 ∃ (x7 : Int),
 At Hs (a4.add (Int.toNat (4 : Int) * nat_lit 1)) [Value.int IntKind.i64 x7] ∧
 ∃ (x8 : Int),
 At Hs (a5.add (Int.toNat (5 : Int) * nat_lit 1)) [Value.int IntKind.i64 x8] ∧
 ∃ (x9 : Int),
 At Hs (a6.add (Int.toNat (6 : Int) * nat_lit 1)) [Value.int IntKind.i64 x9] ∧
 ∃ (x10 : Int),
 At Hs (a7.add (Int.toNat (7 : Int) * nat_lit 1)) [Value.int IntKind.i64 x10] ∧
 ∃ (x11 : Int),
 At Hs (a8.add (Int.toNat (8 : Int) * nat_lit 1)) [Value.int IntKind.i64 x11] ∧
 ∃ (x12 : Int),
 At Hs (a9.add (Int.toNat (9 : Int) * nat_lit 1)) [Value.int IntKind.i64 x12] ∧
 Ax.Sub Hs H'2 ∧
 K
 (Value.agg
 #[Value.int IntKind.i64 x3, Value.int IntKind.i64 x4,
 Value.int IntKind.i64 x5, Value.int IntKind.i64 x6,
 Value.int IntKind.i64 x7, Value.int IntKind.i64 x8,
 Value.int IntKind.i64 x9, Value.int IntKind.i64 x10,
 Value.int IntKind.i64 x11, Value.int IntKind.i64 x12,
 Value.int IntKind.i64 x2])
 H'2)
theorem v63 {r : Option Addr} {H : Heap} {K : Value → Heap → Prop} (h : F63 r H K) : Tr Try.prog 63 #[.pointer r] H K :=
  tr_of_eq (C := c63) Try.func63 (show vcFn c63 Try.f63 [.pointer r] H K = F63 r H K by kernel_rfl) h

/- (ptr tapestry/code.reader).int -/
noncomputable def c69 : Cx := { P := Try.prog, res := [], pub := [], loops := [], quiet := [74], asm := true }
def F69 (r : Option Addr) (H : Heap) (K : Value → Heap → Prop) : Prop :=
 ∃ (a : Addr),
 r = some a ∧
 ∃ (x : Int),
 At H (a.add (nat_lit 2)) [Value.int IntKind.i64 x] ∧
 ((x != (0 : Int)) = true → K (Value.int IntKind.i64 (0 : Int)) H) ∧
 ((x != (0 : Int)) = false →
 ∃ (a1 : Addr),
 r = some a1 ∧
 ∃ (s : ByteArray),
 At H (a1.add (nat_lit 0)) [Value.string s] ∧
 ∃ (a2 : Addr),
 r = some a2 ∧
 ∃ (x1 : Int),
 At H (a2.add (nat_lit 1)) [Value.int IntKind.i64 x1] ∧
 ((0 : Int) ≤ x1 ∧ x1 ≤ (↑s.size : Int)) ∧
 ∃ (x2 : Int),
 ∃ (x3 : Int),
 ∃ (x4 : Int),
 (Tr Try.prog (74 : Nat) #[Value.string (s.extract x1.toNat s.size)] H fun (v : Value) (H' : Heap) =>
 v = Value.tuple #[Value.int IntKind.i64 x2, Value.int IntKind.i64 x3, Value.int IntKind.i64 x4] ∧ Ax.Sub H H') ∧
 ((x4 != (0 : Int)) = true →
 ∃ (a3 : Addr),
 r = some a3 ∧
 ∃ (c : Array Value),
 ∃ (T : TypeId),
 H (a3.add (nat_lit 2)).block = some (Obj.cells c T) ∧
 (a3.add (nat_lit 2)).spot = none ∧
 (a3.add (nat_lit 2)).off + [Value.int IntKind.i64 x4].length ≤ c.size ∧
 ∀ (H1 : Heap),
 H1 = H.upd (a3.add (nat_lit 2)).block (Obj.cells (splice c (a3.add (nat_lit 2)).off [Value.int IntKind.i64 x4]) T) →
 K (Value.int IntKind.i64 (0 : Int)) H1) ∧
 ((x4 != (0 : Int)) = false →
 ∃ (a4 : Addr),
 r = some a4 ∧
 ∃ (x5 : Int),
 At H (a4.add (nat_lit 1)) [Value.int IntKind.i64 x5] ∧
 ∃ (a5 : Addr),
 r = some a5 ∧
 ∃ (c1 : Array Value),
 ∃ (T1 : TypeId),
 H (a5.add (nat_lit 1)).block = some (Obj.cells c1 T1) ∧
 (a5.add (nat_lit 1)).spot = none ∧
 (a5.add (nat_lit 1)).off + [Value.int IntKind.i64 (IntKind.i64.wrap (x5 + x3))].length ≤ c1.size ∧
 ∀ (H11 : Heap),
 H11 =
 H.upd (a5.add (nat_lit 1)).block
 (Obj.cells (splice c1 (a5.add (nat_lit 1)).off [Value.int IntKind.i64 (IntKind.i64.wrap (x5 + x3))]) T1) →
 K (Value.int IntKind.i64 x2) H11))
theorem v69 {r : Option Addr} {H : Heap} {K : Value → Heap → Prop} (h : F69 r H K) : Tr Try.prog 69 #[.pointer r] H K :=
  tr_of_eq (C := c69) Try.func69 (show vcFn c69 Try.f69 [.pointer r] H K = F69 r H K by kernel_rfl) h

/- (ptr tapestry/tapestryref13.Read).Int -/
noncomputable def c71 : Cx := { P := Try.prog, res := [], pub := [], loops := [], quiet := [75], asm := true }
def F71 (r : Option Addr) (H : Heap) (K : Value → Heap → Prop) : Prop :=
 ∃ (a : Addr),
 r = some a ∧
 ∃ (x : Int),
 At H (a.add (nat_lit 2)) [Value.int IntKind.i64 x] ∧
 ((x != (0 : Int)) = true → K (Value.int IntKind.i64 (0 : Int)) H) ∧
 ((x != (0 : Int)) = false →
 ∃ (a1 : Addr),
 r = some a1 ∧
 ∃ (s : ByteArray),
 At H (a1.add (nat_lit 0)) [Value.string s] ∧
 ∃ (a2 : Addr),
 r = some a2 ∧
 ∃ (x1 : Int),
 At H (a2.add (nat_lit 1)) [Value.int IntKind.i64 x1] ∧
 ((0 : Int) ≤ x1 ∧ x1 ≤ (↑s.size : Int)) ∧
 ∃ (x2 : Int),
 ∃ (x3 : Int),
 ∃ (x4 : Int),
 (Tr Try.prog (75 : Nat) #[Value.string (s.extract x1.toNat s.size)] H fun (v : Value) (H' : Heap) =>
 v = Value.tuple #[Value.int IntKind.i64 x2, Value.int IntKind.i64 x3, Value.int IntKind.i64 x4] ∧ Ax.Sub H H') ∧
 ((x4 != (0 : Int)) = true →
 ∃ (a3 : Addr),
 r = some a3 ∧
 ∃ (c : Array Value),
 ∃ (T : TypeId),
 H (a3.add (nat_lit 2)).block = some (Obj.cells c T) ∧
 (a3.add (nat_lit 2)).spot = none ∧
 (a3.add (nat_lit 2)).off + [Value.int IntKind.i64 x4].length ≤ c.size ∧
 ∀ (H1 : Heap),
 H1 = H.upd (a3.add (nat_lit 2)).block (Obj.cells (splice c (a3.add (nat_lit 2)).off [Value.int IntKind.i64 x4]) T) →
 K (Value.int IntKind.i64 (0 : Int)) H1) ∧
 ((x4 != (0 : Int)) = false →
 ∃ (a4 : Addr),
 r = some a4 ∧
 ∃ (x5 : Int),
 At H (a4.add (nat_lit 1)) [Value.int IntKind.i64 x5] ∧
 ∃ (a5 : Addr),
 r = some a5 ∧
 ∃ (c1 : Array Value),
 ∃ (T1 : TypeId),
 H (a5.add (nat_lit 1)).block = some (Obj.cells c1 T1) ∧
 (a5.add (nat_lit 1)).spot = none ∧
 (a5.add (nat_lit 1)).off + [Value.int IntKind.i64 (IntKind.i64.wrap (x5 + x3))].length ≤ c1.size ∧
 ∀ (H11 : Heap),
 H11 =
 H.upd (a5.add (nat_lit 1)).block
 (Obj.cells (splice c1 (a5.add (nat_lit 1)).off [Value.int IntKind.i64 (IntKind.i64.wrap (x5 + x3))]) T1) →
 K (Value.int IntKind.i64 x2) H11))
theorem v71 {r : Option Addr} {H : Heap} {K : Value → Heap → Prop} (h : F71 r H K) : Tr Try.prog 71 #[.pointer r] H K :=
  tr_of_eq (C := c71) Try.func71 (show vcFn c71 Try.f71 [.pointer r] H K = F71 r H K by kernel_rfl) h

end Go.Proofs.Ytanahoejlnmfiaa
