/- By program (axgen.py): the formulas of functions of the translation, and that each gives its function's contract. Conditions: none. -/
import Derived.Test.YtanahoejlnmfiaaProg
import Derived.Test.YtanahoejlnmfiaaAxF
set_option maxRecDepth 100000
set_option linter.unusedVariables false
namespace Go.Proofs.Ytanahoejlnmfiaa
open Go.Ax

/- tapestry/code.Encode -/
noncomputable def c38 : Cx := { P := Try.prog, res := [], pub := [7], loops := [⟨8, [(35, .int .i64)], [10, 12, 36, 37, 38, 39, 40, 41, 42, 43, 44, 45, 46, 47, 48, 49, 50, 51, 52, 53, 54, 55, 56, 57, 58, 59, 60, 61, 62, 63, 64, 65, 66, 67, 68, 69, 70, 71], []⟩, ⟨14, [(55, .int .i64)], [12, 56, 57, 58, 59, 60, 61, 62, 63, 64, 65, 66, 67, 68, 69, 70], []⟩, ⟨23, [(80, .int .i64)], [14, 16, 81, 82, 83, 84, 85, 86, 87, 88, 89, 90, 91, 92, 93, 94, 95, 96, 97, 98, 99], []⟩, ⟨26, [(87, .int .i64)], [16, 88, 89, 90, 91, 92, 93, 94], []⟩], quiet := [28, 33, 53], asm := true }
def F38 (pFuncsA : Option Addr) (pFuncsn pFuncsc : Nat) (pOptsA : Option Addr) (pOptsn pOptsc : Nat) (H : Heap) (K : Value → Heap → Prop) : Prop :=
 ∃ (x : Int),
 ∃ (x1 : Int),
 ∃ (x2 : Int),
 (Tr Try.prog (33 : Nat) #[Value.agg #[Value.slice pFuncsA pFuncsn pFuncsc, Value.slice pOptsA pOptsn pOptsc]] H fun (v : Value) (H' : Heap) =>
 v = Value.tuple #[Value.int IntKind.i64 x, Value.int IntKind.i64 x1, Value.int IntKind.i64 x2] ∧ Ax.Sub H H') ∧
 ((x != (0 : Int)) = true → K (Value.tuple #[Value.string { data := #[] }, Value.int IntKind.i64 x]) H) ∧
 ((x != (0 : Int)) = false →
 ∀ (b : Nat),
 H b = none →
 ∀ (H1 : Heap),
 H1 = H.upd b (Obj.cells #[Value.pointer none, Value.slice none (0 : Nat) (0 : Nat)] (77 : Nat)) →
 Tr Try.prog (50 : Nat) #[Value.int IntKind.i64 (↑pFuncsn : Int), Value.pointer (some ({ block := b, off := (0 : Nat) } : Addr))] H1 fun (v1 : Value) (H'1 : Heap) =>
 v1 = Value.tuple #[] ∧
 ∃ (Rel : Int → Heap → Prop),
 ∃ (mu : Int → Heap → Nat),
 Rel (0 : Int) H'1 ∧
 ∀ (x3 : Int) (H1 : Heap),
 Rel x3 H1 →
 (decide (x3 < (↑pFuncsn : Int)) = true →
 ∃ (a : Addr),
 (pFuncsA = some a ∧ (0 : Int) ≤ x3 ∧ x3 < (↑pFuncsn : Int)) ∧
 ∃ (x4 : Int),
 ∃ (x5 : Int),
 ∃ (A : Option Addr),
 ∃ (n : Nat),
 ∃ (c : Nat),
 At H1 (a.add (x3.toNat * nat_lit 3)) [Value.int IntKind.i64 x4, Value.int IntKind.i64 x5, Value.slice A n c] ∧
 Tr Try.prog (50 : Nat) #[Value.int IntKind.i64 x4, Value.pointer (some ({ block := b, off := (0 : Nat) } : Addr))] H1
 fun (v2 : Value) (H'2 : Heap) =>
 v2 = Value.tuple #[] ∧
 Tr Try.prog (50 : Nat) #[Value.int IntKind.i64 x5, Value.pointer (some ({ block := b, off := (0 : Nat) } : Addr))] H'2
 fun (v3 : Value) (H'3 : Heap) =>
 v3 = Value.tuple #[] ∧
 Tr Try.prog (50 : Nat) #[Value.int IntKind.i64 (↑n : Int), Value.pointer (some ({ block := b, off := (0 : Nat) } : Addr))] H'3
 fun (v4 : Value) (H'4 : Heap) =>
 v4 = Value.tuple #[] ∧
 ∃ (Rel1 : Int → Heap → Prop),
 ∃ (mu1 : Int → Heap → Nat),
 Rel1 (0 : Int) H'4 ∧
 ∀ (x6 : Int) (H2 : Heap),
 Rel1 x6 H2 →
 (decide (x6 < (↑n : Int)) = true →
 ∃ (a1 : Addr),
 (A = some a1 ∧ (0 : Int) ≤ x6 ∧ x6 < (↑n : Int)) ∧
 ∃ (x7 : Int),
 ∃ (x8 : Int),
 At H2 (a1.add (x6.toNat * nat_lit 2)) [Value.int IntKind.i64 x7, Value.int IntKind.i64 x8] ∧
 Tr Try.prog (50 : Nat)
 #[Value.int IntKind.i64 x7, Value.pointer (some ({ block := b, off := (0 : Nat) } : Addr))] H2
 fun (v5 : Value) (H'5 : Heap) =>
 v5 = Value.tuple #[] ∧
 ∃ (b1 : Bool),
 (Tr Try.prog (28 : Nat) #[Value.int IntKind.i64 x7] H'5
 fun (v6 : Value) (H'6 : Heap) => v6 = Value.bool b1 ∧ Ax.Sub H'5 H'6) ∧
 (b1 = true →
 ∃ (s : ByteArray),
 (Tr Try.prog (53 : Nat) #[Value.int IntKind.i64 x8] H'5
 fun (v7 : Value) (H'7 : Heap) => v7 = Value.string s ∧ Ax.Sub H'5 H'7) ∧
 Tr Try.prog (51 : Nat)
 #[Value.pointer (some ({ block := b, off := (0 : Nat) } : Addr)), Value.string s]
 H'5 fun (v8 : Value) (H'8 : Heap) =>
 ∃ (x9 : Int),
 ∃ (v9 : Value),
 v8 = Value.tuple #[Value.int IntKind.i64 x9, v9] ∧
 Rel1 (IntKind.i64.wrap (x6 + (1 : Int))) H'8 ∧
 mu1 (IntKind.i64.wrap (x6 + (1 : Int))) H'8 < mu1 x6 H2) ∧
 (b1 = false →
 Rel1 (IntKind.i64.wrap (x6 + (1 : Int))) H'5 ∧
 mu1 (IntKind.i64.wrap (x6 + (1 : Int))) H'5 < mu1 x6 H2)) ∧
 (decide (x6 < (↑n : Int)) = false →
 Rel (IntKind.i64.wrap (x3 + (1 : Int))) H2 ∧
 mu (IntKind.i64.wrap (x3 + (1 : Int))) H2 < mu x3 H1)) ∧
 (decide (x3 < (↑pFuncsn : Int)) = false →
 Tr Try.prog (50 : Nat) #[Value.int IntKind.i64 (↑pOptsn : Int), Value.pointer (some ({ block := b, off := (0 : Nat) } : Addr))] H1
 fun (v10 : Value) (H'9 : Heap) =>
 v10 = Value.tuple #[] ∧
 ∃ (Rel2 : Int → Heap → Prop),
 ∃ (mu2 : Int → Heap → Nat),
 Rel2 (0 : Int) H'9 ∧
 ∀ (x10 : Int) (H3 : Heap),
 Rel2 x10 H3 →
 (decide (x10 < (↑pOptsn : Int)) = true →
 ∃ (a2 : Addr),
 (pOptsA = some a2 ∧ (0 : Int) ≤ x10 ∧ x10 < (↑pOptsn : Int)) ∧
 ∃ (x11 : Int),
 ∃ (x12 : Int),
 ∃ (x13 : Int),
 ∃ (x14 : Int),
 ∃ (x15 : Int),
 ∃ (x16 : Int),
 ∃ (x17 : Int),
 ∃ (x18 : Int),
 ∃ (x19 : Int),
 ∃ (x20 : Int),
 ∃ (x21 : Int),
 At H3 (a2.add (x10.toNat * nat_lit 11))
 [Value.int IntKind.i64 x11, Value.int IntKind.i64 x12, Value.int IntKind.i64 x13,
 Value.int IntKind.i64 x14, Value.int IntKind.i64 x15, Value.int IntKind.i64 x16,
 Value.int IntKind.i64 x17, Value.int IntKind.i64 x18, Value.int IntKind.i64 x19,
 Value.int IntKind.i64 x20, Value.int IntKind.i64 x21] ∧
 Tr Try.prog (54 : Nat)
 #[Value.agg
 #[Value.int IntKind.i64 x11, Value.int IntKind.i64 x12, Value.int IntKind.i64 x13,
 Value.int IntKind.i64 x14, Value.int IntKind.i64 x15, Value.int IntKind.i64 x16,
 Value.int IntKind.i64 x17, Value.int IntKind.i64 x18, Value.int IntKind.i64 x19,
 Value.int IntKind.i64 x20, Value.int IntKind.i64 x21]]
 H3 fun (v11 : Value) (H'10 : Heap) =>
 ∃ (A1 : Option Addr),
 ∃ (n1 : Nat),
 ∃ (c1 : Nat),
 v11 = Value.slice A1 n1 c1 ∧
 ∃ (Rel3 : Int → Heap → Prop),
 ∃ (mu3 : Int → Heap → Nat),
 Rel3 (0 : Int) H'10 ∧
 ∀ (x22 : Int) (H4 : Heap),
 Rel3 x22 H4 →
 (decide (x22 < (↑n1 : Int)) = true →
 ∃ (a3 : Addr),
 (A1 = some a3 ∧ (0 : Int) ≤ x22 ∧ x22 < (↑n1 : Int)) ∧
 ∃ (x23 : Int),
 At H4 (a3.add (x22.toNat * nat_lit 1))
 [Value.int IntKind.i64 x23] ∧
 Tr Try.prog (50 : Nat)
 #[Value.int IntKind.i64 x23,
 Value.pointer (some ({ block := b, off := (0 : Nat) } : Addr))]
 H4 fun (v12 : Value) (H'11 : Heap) =>
 v12 = Value.tuple #[] ∧
 Rel3 (IntKind.i64.wrap (x22 + (1 : Int))) H'11 ∧
 mu3 (IntKind.i64.wrap (x22 + (1 : Int))) H'11 <
 mu3 x22 H4) ∧
 (decide (x22 < (↑n1 : Int)) = false →
 ∃ (s1 : ByteArray),
 (Tr Try.prog (53 : Nat) #[Value.int IntKind.i64 x21] H4
 fun (v13 : Value) (H'12 : Heap) =>
 v13 = Value.string s1 ∧ Ax.Sub H4 H'12) ∧
 Tr Try.prog (51 : Nat)
 #[Value.pointer (some ({ block := b, off := (0 : Nat) } : Addr)),
 Value.string s1]
 H4 fun (v14 : Value) (H'13 : Heap) =>
 ∃ (x24 : Int),
 ∃ (v15 : Value),
 v14 = Value.tuple #[Value.int IntKind.i64 x24, v15] ∧
 Rel2 (IntKind.i64.wrap (x10 + (1 : Int))) H'13 ∧
 mu2 (IntKind.i64.wrap (x10 + (1 : Int))) H'13 <
 mu2 x10 H3)) ∧
 (decide (x10 < (↑pOptsn : Int)) = false →
 Tr Try.prog (55 : Nat) #[Value.pointer (some ({ block := b, off := (0 : Nat) } : Addr))] H3 fun (v16 : Value) (H'14 : Heap) =>
 ∃ (s2 : ByteArray), v16 = Value.string s2 ∧ K (Value.tuple #[Value.string s2, Value.int IntKind.i64 (0 : Int)]) H'14)))
theorem v38 {pFuncsA : Option Addr} {pFuncsn pFuncsc : Nat} {pOptsA : Option Addr} {pOptsn pOptsc : Nat} {H : Heap} {K : Value → Heap → Prop} (h : F38 pFuncsA pFuncsn pFuncsc pOptsA pOptsn pOptsc H K) : Tr Try.prog 38 #[.agg #[.slice pFuncsA pFuncsn pFuncsc, .slice pOptsA pOptsn pOptsc]] H K :=
  tr_of_eq (C := c38) Try.func38 (show vcFn c38 Try.f38 [.agg #[.slice pFuncsA pFuncsn pFuncsc, .slice pOptsA pOptsn pOptsc]] H K = F38 pFuncsA pFuncsn pFuncsc pOptsA pOptsn pOptsc H K by kernel_rfl) h

/- tapestry/tapestryref13.Encode -/
noncomputable def c39 : Cx := { P := Try.prog, res := [], pub := [132], loops := [⟨6, [(7, .str), (8, .int .i64)], [9, 10, 11, 30, 31, 32, 33, 34, 35, 36, 37, 38, 39, 40, 41, 42, 43, 44, 45, 46, 47, 48, 49, 50, 51, 52, 53, 54, 55, 56, 57, 58, 59, 60, 61, 62, 63, 64, 65, 66, 67, 68, 69, 70, 71, 72, 73, 74, 75, 76, 77, 78, 79, 80, 81, 82, 83, 84, 85, 86, 87, 88, 89, 90, 91, 92], []⟩, ⟨11, [(7, .str), (10, .int .i64)], [11, 59, 60, 61, 62, 63, 64, 65, 66, 67, 68, 69, 70, 71, 72, 73, 74, 75, 76, 77, 78, 79, 80, 81, 82, 83, 84, 85, 86, 87, 88, 89, 90, 91, 92], []⟩, ⟨19, [(7, .str), (12, .int .i64)], [13, 14, 15, 100, 101, 102, 103, 104, 105, 106, 107, 108, 109, 110, 111, 112, 113, 114, 115, 116, 117, 118, 119, 120, 121, 122, 123, 124, 125, 126, 127, 128, 129, 130, 131, 132, 133, 134, 135, 136, 137, 138, 139, 140, 141, 142, 143, 144, 145, 146, 147, 148, 149, 150, 151], []⟩, ⟨24, [(7, .str), (15, .int .i64)], [133, 134, 135, 136, 137, 138, 139, 140, 141, 142, 143, 144, 145, 146], []⟩], quiet := [29, 34, 56, 57], asm := true }
def F39 (pFuncsA : Option Addr) (pFuncsn pFuncsc : Nat) (pOptsA : Option Addr) (pOptsn pOptsc : Nat) (H : Heap) (K : Value → Heap → Prop) : Prop :=
 ∃ (x : Int),
 ∃ (x1 : Int),
 ∃ (x2 : Int),
 (Tr Try.prog (34 : Nat) #[Value.agg #[Value.slice pFuncsA pFuncsn pFuncsc, Value.slice pOptsA pOptsn pOptsc]] H fun (v : Value) (H' : Heap) =>
 v = Value.tuple #[Value.int IntKind.i64 x, Value.int IntKind.i64 x1, Value.int IntKind.i64 x2] ∧ Ax.Sub H H') ∧
 ((x != (0 : Int)) = true → K (Value.tuple #[Value.string { data := #[] }, Value.int IntKind.i64 x]) H) ∧
 ((x != (0 : Int)) = false →
 ∃ (s : ByteArray),
 (Tr Try.prog (56 : Nat) #[Value.int IntKind.u64 (IntKind.u64.wrap (↑pFuncsn : Int))] H fun (v1 : Value) (H'1 : Heap) => v1 = Value.string s ∧ Ax.Sub H H'1) ∧
 ∃ (Rel : ByteArray → Int → Heap → Prop),
 ∃ (mu : ByteArray → Int → Heap → Nat),
 Rel s (0 : Int) H ∧
 ∀ (s1 : ByteArray) (x3 : Int) (H1 : Heap),
 Rel s1 x3 H1 →
 (decide (x3 < (↑pFuncsn : Int)) = true →
 ∃ (a : Addr),
 (pFuncsA = some a ∧ (0 : Int) ≤ x3 ∧ x3 < (↑pFuncsn : Int)) ∧
 ∃ (x4 : Int),
 ∃ (x5 : Int),
 ∃ (A : Option Addr),
 ∃ (n : Nat),
 ∃ (c : Nat),
 At H1 (a.add (x3.toNat * nat_lit 3)) [Value.int IntKind.i64 x4, Value.int IntKind.i64 x5, Value.slice A n c] ∧
 ∃ (s2 : ByteArray),
 (Tr Try.prog (56 : Nat) #[Value.int IntKind.u64 (IntKind.u64.wrap x4)] H1 fun (v2 : Value) (H'2 : Heap) =>
 v2 = Value.string s2 ∧ Ax.Sub H1 H'2) ∧
 s1.size + s2.size ≤ (9223372036854775807 : Nat) ∧
 ∃ (s3 : ByteArray),
 (Tr Try.prog (56 : Nat) #[Value.int IntKind.u64 (IntKind.u64.wrap x5)] H1 fun (v3 : Value) (H'3 : Heap) =>
 v3 = Value.string s3 ∧ Ax.Sub H1 H'3) ∧
 (s1 ++ s2).size + s3.size ≤ (9223372036854775807 : Nat) ∧
 ∃ (s4 : ByteArray),
 (Tr Try.prog (56 : Nat) #[Value.int IntKind.u64 (IntKind.u64.wrap (↑n : Int))] H1 fun (v4 : Value) (H'4 : Heap) =>
 v4 = Value.string s4 ∧ Ax.Sub H1 H'4) ∧
 (s1 ++ s2 ++ s3).size + s4.size ≤ (9223372036854775807 : Nat) ∧
 ∃ (Rel1 : ByteArray → Int → Heap → Prop),
 ∃ (mu1 : ByteArray → Int → Heap → Nat),
 Rel1 (s1 ++ s2 ++ s3 ++ s4) (0 : Int) H1 ∧
 ∀ (s5 : ByteArray) (x6 : Int) (H2 : Heap),
 Rel1 s5 x6 H2 →
 (decide (x6 < (↑n : Int)) = true →
 ∃ (a1 : Addr),
 (A = some a1 ∧ (0 : Int) ≤ x6 ∧ x6 < (↑n : Int)) ∧
 ∃ (x7 : Int),
 At H2 ((a1.add (x6.toNat * nat_lit 2)).add (nat_lit 0)) [Value.int IntKind.i64 x7] ∧
 ∃ (s6 : ByteArray),
 (Tr Try.prog (56 : Nat) #[Value.int IntKind.u64 (IntKind.u64.wrap x7)] H2
 fun (v5 : Value) (H'5 : Heap) => v5 = Value.string s6 ∧ Ax.Sub H2 H'5) ∧
 s5.size + s6.size ≤ (9223372036854775807 : Nat) ∧
 ∃ (a2 : Addr),
 (A = some a2 ∧ (0 : Int) ≤ x6 ∧ x6 < (↑n : Int)) ∧
 ∃ (x8 : Int),
 At H2 ((a2.add (x6.toNat * nat_lit 2)).add (nat_lit 0))
 [Value.int IntKind.i64 x8] ∧
 ∃ (b : Bool),
 (Tr Try.prog (29 : Nat) #[Value.int IntKind.i64 x8] H2
 fun (v6 : Value) (H'6 : Heap) => v6 = Value.bool b ∧ Ax.Sub H2 H'6) ∧
 (b = true →
 ∃ (a3 : Addr),
 (A = some a3 ∧ (0 : Int) ≤ x6 ∧ x6 < (↑n : Int)) ∧
 ∃ (x9 : Int),
 At H2 ((a3.add (x6.toNat * nat_lit 2)).add (nat_lit 1))
 [Value.int IntKind.i64 x9] ∧
 ∃ (s7 : ByteArray),
 (Tr Try.prog (57 : Nat) #[Value.int IntKind.i64 x9] H2
 fun (v7 : Value) (H'7 : Heap) =>
 v7 = Value.string s7 ∧ Ax.Sub H2 H'7) ∧
 (s5 ++ s6).size + s7.size ≤ (9223372036854775807 : Nat) ∧
 Rel1 (s5 ++ s6 ++ s7) (IntKind.i64.wrap (x6 + (1 : Int)))
 H2 ∧
 mu1 (s5 ++ s6 ++ s7) (IntKind.i64.wrap (x6 + (1 : Int)))
 H2 <
 mu1 s5 x6 H2) ∧
 (b = false →
 Rel1 (s5 ++ s6) (IntKind.i64.wrap (x6 + (1 : Int))) H2 ∧
 mu1 (s5 ++ s6) (IntKind.i64.wrap (x6 + (1 : Int))) H2 <
 mu1 s5 x6 H2)) ∧
 (decide (x6 < (↑n : Int)) = false →
 Rel s5 (IntKind.i64.wrap (x3 + (1 : Int))) H2 ∧
 mu s5 (IntKind.i64.wrap (x3 + (1 : Int))) H2 < mu s1 x3 H1)) ∧
 (decide (x3 < (↑pFuncsn : Int)) = false →
 ∃ (s8 : ByteArray),
 (Tr Try.prog (56 : Nat) #[Value.int IntKind.u64 (IntKind.u64.wrap (↑pOptsn : Int))] H1 fun (v8 : Value) (H'8 : Heap) =>
 v8 = Value.string s8 ∧ Ax.Sub H1 H'8) ∧
 s1.size + s8.size ≤ (9223372036854775807 : Nat) ∧
 ∃ (Rel2 : ByteArray → Int → Heap → Prop),
 ∃ (mu2 : ByteArray → Int → Heap → Nat),
 Rel2 (s1 ++ s8) (0 : Int) H1 ∧
 ∀ (s9 : ByteArray) (x10 : Int) (H3 : Heap),
 Rel2 s9 x10 H3 →
 (decide (x10 < (↑pOptsn : Int)) = true →
 ∃ (a4 : Addr),
 (pOptsA = some a4 ∧ (0 : Int) ≤ x10 ∧ x10 < (↑pOptsn : Int)) ∧
 ∃ (x11 : Int),
 ∃ (x12 : Int),
 ∃ (x13 : Int),
 ∃ (x14 : Int),
 ∃ (x15 : Int),
 ∃ (x16 : Int),
 ∃ (x17 : Int),
 ∃ (x18 : Int),
 ∃ (x19 : Int),
 ∃ (x20 : Int),
 ∃ (x21 : Int),
 At H3 (a4.add (x10.toNat * nat_lit 11))
 [Value.int IntKind.i64 x11, Value.int IntKind.i64 x12, Value.int IntKind.i64 x13,
 Value.int IntKind.i64 x14, Value.int IntKind.i64 x15, Value.int IntKind.i64 x16,
 Value.int IntKind.i64 x17, Value.int IntKind.i64 x18, Value.int IntKind.i64 x19,
 Value.int IntKind.i64 x20, Value.int IntKind.i64 x21] ∧
 ∀ (b1 : Nat),
 H3 b1 = none →
 ∀ (H1 : Heap),
 H1 =
 H3.upd b1
 (Obj.cells
 #[Value.int IntKind.i64 x11, Value.int IntKind.i64 x12, Value.int IntKind.i64 x13,
 Value.int IntKind.i64 x14, Value.int IntKind.i64 x15, Value.int IntKind.i64 x16,
 Value.int IntKind.i64 x17, Value.int IntKind.i64 x18, Value.int IntKind.i64 x19,
 Value.int IntKind.i64 x20]
 (2 : Nat)) →
 ∃ (Rel3 : ByteArray → Int → Heap → Prop),
 ∃ (mu3 : ByteArray → Int → Heap → Nat),
 Rel3 s9 (0 : Int) H1 ∧
 ∀ (s10 : ByteArray) (x22 : Int) (H4 : Heap),
 Rel3 s10 x22 H4 →
 (decide (x22 < (↑(10 : Nat) : Int)) = true →
 ∃ (a5 : Addr),
 (some ({ block := b1, off := (0 : Nat) } : Addr) = some a5 ∧
 (0 : Int) ≤ x22 ∧ x22 < (↑(10 : Nat) : Int)) ∧
 ∃ (x23 : Int),
 At H4 (a5.add (x22.toNat * nat_lit 1)) [Value.int IntKind.i64 x23] ∧
 ∃ (s11 : ByteArray),
 (Tr Try.prog (56 : Nat)
 #[Value.int IntKind.u64 (IntKind.u64.wrap x23)] H4
 fun (v9 : Value) (H'9 : Heap) =>
 v9 = Value.string s11 ∧ Ax.Sub H4 H'9) ∧
 s10.size + s11.size ≤ (9223372036854775807 : Nat) ∧
 Rel3 (s10 ++ s11) (IntKind.i64.wrap (x22 + (1 : Int))) H4 ∧
 mu3 (s10 ++ s11) (IntKind.i64.wrap (x22 + (1 : Int))) H4 <
 mu3 s10 x22 H4) ∧
 (decide (x22 < (↑(10 : Nat) : Int)) = false →
 ∃ (s12 : ByteArray),
 (Tr Try.prog (57 : Nat) #[Value.int IntKind.i64 x21] H4
 fun (v10 : Value) (H'10 : Heap) =>
 v10 = Value.string s12 ∧ Ax.Sub H4 H'10) ∧
 s10.size + s12.size ≤ (9223372036854775807 : Nat) ∧
 Rel2 (s10 ++ s12) (IntKind.i64.wrap (x10 + (1 : Int))) H4 ∧
 mu2 (s10 ++ s12) (IntKind.i64.wrap (x10 + (1 : Int))) H4 <
 mu2 s9 x10 H3)) ∧
 (decide (x10 < (↑pOptsn : Int)) = false → K (Value.tuple #[Value.string s9, Value.int IntKind.i64 (0 : Int)]) H3)))
theorem v39 {pFuncsA : Option Addr} {pFuncsn pFuncsc : Nat} {pOptsA : Option Addr} {pOptsn pOptsc : Nat} {H : Heap} {K : Value → Heap → Prop} (h : F39 pFuncsA pFuncsn pFuncsc pOptsA pOptsn pOptsc H K) : Tr Try.prog 39 #[.agg #[.slice pFuncsA pFuncsn pFuncsc, .slice pOptsA pOptsn pOptsc]] H K :=
  tr_of_eq (C := c39) Try.func39 (show vcFn c39 Try.f39 [.agg #[.slice pFuncsA pFuncsn pFuncsc, .slice pOptsA pOptsn pOptsc]] H K = F39 pFuncsA pFuncsn pFuncsc pOptsA pOptsn pOptsc H K by kernel_rfl) h

/- tapestry/code.Encode$1 -/
noncomputable def c50 : Cx := { P := Try.prog, res := [], pub := [], loops := [], quiet := [52], asm := true }
def F50 (n : Int) (cap0 : Option Addr) (H : Heap) (K : Value → Heap → Prop) : Prop :=
 ∃ (s : ByteArray),
 (Tr Try.prog (52 : Nat) #[Value.int IntKind.u64 (IntKind.u64.wrap n)] H fun (v : Value) (H' : Heap) => v = Value.string s ∧ Ax.Sub H H') ∧
 Tr Try.prog (51 : Nat) #[Value.pointer cap0, Value.string s] H fun (v1 : Value) (H'1 : Heap) =>
 ∃ (x : Int), ∃ (v2 : Value), v1 = Value.tuple #[Value.int IntKind.i64 x, v2] ∧ K (Value.tuple #[]) H'1
theorem v50 {n : Int} {cap0 : Option Addr} {H : Heap} {K : Value → Heap → Prop} (h : F50 n cap0 H K) : Tr Try.prog 50 #[.int .i64 n, .pointer cap0] H K :=
  tr_of_eq (C := c50) Try.func50 (show vcFn c50 Try.f50 [.int .i64 n, .pointer cap0] H K = F50 n cap0 H K by kernel_rfl) h

/- (ptr strings.Builder).WriteString -/
noncomputable def c51 : Cx := { P := Try.prog, res := [], pub := [], loops := [], quiet := [], asm := true }
def F51 (b : Option Addr) (s : ByteArray) (H : Heap) (K : Value → Heap → Prop) : Prop :=
 Tr Try.prog (67 : Nat) #[Value.pointer b] H fun (v : Value) (H' : Heap) =>
 v = Value.tuple #[] ∧
 ∃ (a : Addr),
 b = some a ∧
 ∃ (A : Option Addr),
 ∃ (n : Nat),
 ∃ (c : Nat),
 At H' (a.add (nat_lit 1)) [Value.slice A n c] ∧
 appC (5 : Nat) (1 : Nat) (nat_lit 1) H' A n c (byteVals s) s.size fun (A' : Option Addr) (n' c' : Nat) (H'1 : Heap) =>
 ∃ (a1 : Addr),
 b = some a1 ∧
 ∃ (c1 : Array Value),
 ∃ (T : TypeId),
 H'1 (a1.add (nat_lit 1)).block = some (Obj.cells c1 T) ∧
 (a1.add (nat_lit 1)).spot = none ∧
 (a1.add (nat_lit 1)).off + [Value.slice A' n' c'].length ≤ c1.size ∧
 ∀ (H1 : Heap),
 H1 = H'1.upd (a1.add (nat_lit 1)).block (Obj.cells (splice c1 (a1.add (nat_lit 1)).off [Value.slice A' n' c']) T) →
 K (Value.tuple #[Value.int IntKind.i64 (↑s.size : Int), Value.nilIface]) H1
theorem v51 {b : Option Addr} {s : ByteArray} {H : Heap} {K : Value → Heap → Prop} (h : F51 b s H K) : Tr Try.prog 51 #[.pointer b, .string s] H K :=
  tr_of_eq (C := c51) Try.func51 (show vcFn c51 Try.f51 [.pointer b, .string s] H K = F51 b s H K by kernel_rfl) h

/- tapestry/code.numbers -/
noncomputable def c54 : Cx := { P := Try.prog, res := [], pub := [23], loops := [], quiet := [], asm := true }
def F54 (oQueue : Int) (oStart : Int) (oClose : Int) (oTotal : Int) (oBeat : Int) (oFirst : Int) (oNum : Int) (oDen : Int) (oMost : Int) (oTries : Int) (oNever : Int) (H : Heap) (K : Value → Heap → Prop) : Prop :=
 ∀ (b : Nat),
 H b = none →
 ∀ (H1 : Heap),
 H1 =
 H.upd b
 (Obj.cells
 #[Value.int IntKind.i64 oQueue, Value.int IntKind.i64 oStart, Value.int IntKind.i64 oClose, Value.int IntKind.i64 oTotal, Value.int IntKind.i64 oBeat,
 Value.int IntKind.i64 oFirst, Value.int IntKind.i64 oNum, Value.int IntKind.i64 oDen, Value.int IntKind.i64 oMost, Value.int IntKind.i64 oTries]
 (2 : Nat)) →
 K (Value.slice (some ({ block := b, off := (0 : Nat) } : Addr)) (10 : Nat) (10 : Nat)) H1
theorem v54 {oQueue : Int} {oStart : Int} {oClose : Int} {oTotal : Int} {oBeat : Int} {oFirst : Int} {oNum : Int} {oDen : Int} {oMost : Int} {oTries : Int} {oNever : Int} {H : Heap} {K : Value → Heap → Prop} (h : F54 oQueue oStart oClose oTotal oBeat oFirst oNum oDen oMost oTries oNever H K) : Tr Try.prog 54 #[.agg #[.int .i64 oQueue, .int .i64 oStart, .int .i64 oClose, .int .i64 oTotal, .int .i64 oBeat, .int .i64 oFirst, .int .i64 oNum, .int .i64 oDen, .int .i64 oMost, .int .i64 oTries, .int .i64 oNever]] H K :=
  tr_of_eq (C := c54) Try.func54 (show vcFn c54 Try.f54 [.agg #[.int .i64 oQueue, .int .i64 oStart, .int .i64 oClose, .int .i64 oTotal, .int .i64 oBeat, .int .i64 oFirst, .int .i64 oNum, .int .i64 oDen, .int .i64 oMost, .int .i64 oTries, .int .i64 oNever]] H K = F54 oQueue oStart oClose oTotal oBeat oFirst oNum oDen oMost oTries oNever H K by kernel_rfl) h

end Go.Proofs.Ytanahoejlnmfiaa
