/- By program (axgen.py): the formulas of functions of the translation, and that each gives its function's contract. Conditions: none. -/
import Derived.Test.YtanahoejlnmfiaaProg
import Derived.Test.YtanahoejlnmfiaaAxF
set_option maxRecDepth 100000
set_option linter.unusedVariables false
namespace Go.Proofs.Ytanahoejlnmfiaa
open Go.Ax

/- tapestry/codec.PutUint -/
noncomputable def c52 : Cx := { P := Try.prog, res := [], pub := [], loops := [⟨2, [(0, .int .u64), (3, .sl)], [4, 5, 6, 7, 8, 9, 10, 11, 12, 13], []⟩], quiet := [] }
def F52 (n : Int) (H : Heap) (K : Value → Heap → Prop) : Prop :=
 ∃ (Rel : Int → Option Addr → Nat → Nat → Heap → Prop),
 ∃ (mu : Int → Option Addr → Nat → Nat → Heap → Nat),
 Rel n none (0 : Nat) (0 : Nat) H ∧
 ∀ (x : Int) (A : Option Addr) (n1 c : Nat) (H1 : Heap),
 Rel x A n1 c H1 →
 (decide (x ≥ (128 : Int)) = true →
 appC (5 : Nat) (nat_lit 1) (nat_lit 1) H1 A n1 c [Value.int IntKind.u8 (bitsI BinOp.or IntKind.u8 (IntKind.u8.wrap x) (128 : Int))] (1 : Nat)
 fun (A' : Option Addr) (n' c' : Nat) (H' : Heap) =>
 (0 : Int) ≤ (7 : Int) ∧
 Rel (x.fdiv ((2 : Int) ^ shAmt IntKind.u64 (7 : Int))) A' n' c' H' ∧ mu (x.fdiv ((2 : Int) ^ shAmt IntKind.u64 (7 : Int))) A' n' c' H' < mu x A n1 c H1) ∧
 (decide (x ≥ (128 : Int)) = false →
 appC (5 : Nat) (nat_lit 1) (nat_lit 1) H1 A n1 c [Value.int IntKind.u8 (IntKind.u8.wrap x)] (1 : Nat) fun (A'1 : Option Addr) (n'1 c'1 : Nat) (H'1 : Heap) =>
 ∃ (s : ByteArray), bytesAt H'1 A'1 n'1 s ∧ K (Value.string s) H'1)
theorem v52 {n : Int} {H : Heap} {K : Value → Heap → Prop} (h : F52 n H K) : Tr Try.prog 52 #[.int .u64 n] H K :=
  tr_of_eq (C := c52) Try.func52 (show vcFn c52 Try.f52 [.int .u64 n] H K = F52 n H K by kernel_rfl) h

/- tapestry/codec.PutInt -/
noncomputable def c53 : Cx := { P := Try.prog, res := [], pub := [], loops := [], quiet := [52] }
def F53 (n : Int) (H : Heap) (K : Value → Heap → Prop) : Prop :=
 (0 : Int) ≤ (1 : Int) ∧
 (0 : Int) ≤ (63 : Int) ∧
 ∃ (s : ByteArray),
 (Tr Try.prog (52 : Nat)
 #[Value.int IntKind.u64
 (bitsI BinOp.xor IntKind.u64 (IntKind.u64.wrap (IntKind.u64.wrap n * (2 : Int) ^ shAmt IntKind.u64 (1 : Int)))
 (IntKind.u64.wrap (n.fdiv ((2 : Int) ^ shAmt IntKind.i64 (63 : Int)))))]
 H fun (v : Value) (H' : Heap) => v = Value.string s ∧ Ax.Sub H H') ∧
 K (Value.string s) H
theorem v53 {n : Int} {H : Heap} {K : Value → Heap → Prop} (h : F53 n H K) : Tr Try.prog 53 #[.int .i64 n] H K :=
  tr_of_eq (C := c53) Try.func53 (show vcFn c53 Try.f53 [.int .i64 n] H K = F53 n H K by kernel_rfl) h

/- tapestry/tapestryref01.PutUint -/
noncomputable def c56 : Cx := { P := Try.prog, res := [], pub := [], loops := [⟨2, [(0, .int .u64), (3, .sl)], [4, 5, 6, 7, 8, 9, 10, 11, 12, 13, 14], []⟩], quiet := [] }
def F56 (n : Int) (H : Heap) (K : Value → Heap → Prop) : Prop :=
 ∃ (Rel : Int → Option Addr → Nat → Nat → Heap → Prop),
 ∃ (mu : Int → Option Addr → Nat → Nat → Heap → Nat),
 Rel n none (0 : Nat) (0 : Nat) H ∧
 ∀ (x : Int) (A : Option Addr) (n1 c : Nat) (H1 : Heap),
 Rel x A n1 c H1 →
 (decide (x ≥ (128 : Int)) = true →
 (128 : Int) ≠ (0 : Int) ∧
 appC (5 : Nat) (nat_lit 1) (nat_lit 1) H1 A n1 c [Value.int IntKind.u8 (IntKind.u8.wrap (IntKind.u8.wrap (x.tmod (128 : Int)) + (128 : Int)))] (1 : Nat)
 fun (A' : Option Addr) (n' c' : Nat) (H' : Heap) =>
 (128 : Int) ≠ (0 : Int) ∧ Rel (IntKind.u64.wrap (x.tdiv (128 : Int))) A' n' c' H' ∧ mu (IntKind.u64.wrap (x.tdiv (128 : Int))) A' n' c' H' < mu x A n1 c H1) ∧
 (decide (x ≥ (128 : Int)) = false →
 appC (5 : Nat) (nat_lit 1) (nat_lit 1) H1 A n1 c [Value.int IntKind.u8 (IntKind.u8.wrap x)] (1 : Nat) fun (A'1 : Option Addr) (n'1 c'1 : Nat) (H'1 : Heap) =>
 ∃ (s : ByteArray), bytesAt H'1 A'1 n'1 s ∧ K (Value.string s) H'1)
theorem v56 {n : Int} {H : Heap} {K : Value → Heap → Prop} (h : F56 n H K) : Tr Try.prog 56 #[.int .u64 n] H K :=
  tr_of_eq (C := c56) Try.func56 (show vcFn c56 Try.f56 [.int .u64 n] H K = F56 n H K by kernel_rfl) h

/- tapestry/tapestryref01.PutInt -/
noncomputable def c57 : Cx := { P := Try.prog, res := [], pub := [], loops := [], quiet := [56] }
def F57 (n : Int) (H : Heap) (K : Value → Heap → Prop) : Prop :=
 (decide (n ≥ (0 : Int)) = true →
 ∃ (s : ByteArray),
 (Tr Try.prog (56 : Nat) #[Value.int IntKind.u64 (IntKind.u64.wrap ((2 : Int) * IntKind.u64.wrap n))] H fun (v : Value) (H' : Heap) => v = Value.string s ∧ Ax.Sub H H') ∧
 K (Value.string s) H) ∧
 (decide (n ≥ (0 : Int)) = false →
 ∃ (s1 : ByteArray),
 (Tr Try.prog (56 : Nat)
 #[Value.int IntKind.u64
 (IntKind.u64.wrap (IntKind.u64.wrap ((2 : Int) * IntKind.u64.wrap (IntKind.i64.wrap ((0 : Int) - IntKind.i64.wrap (n + (1 : Int))))) + (1 : Int)))]
 H fun (v1 : Value) (H'1 : Heap) => v1 = Value.string s1 ∧ Ax.Sub H H'1) ∧
 K (Value.string s1) H)
theorem v57 {n : Int} {H : Heap} {K : Value → Heap → Prop} (h : F57 n H K) : Tr Try.prog 57 #[.int .i64 n] H K :=
  tr_of_eq (C := c57) Try.func57 (show vcFn c57 Try.f57 [.int .i64 n] H K = F57 n H K by kernel_rfl) h

/- tapestry/codec.TakeUint -/
noncomputable def c68 : Cx := { P := Try.prog, res := [], pub := [], loops := [⟨4, [(5, .int .u64), (6, .int .i64), (11, .int .i64)], [2, 3, 4, 7, 8, 12, 13, 14, 15, 16, 17, 18, 19, 20, 21, 22, 23, 24, 25, 26, 27, 28, 29, 30, 31, 32, 33, 34, 35, 36, 37, 38, 39, 40, 41, 42, 43, 44, 45, 46, 47, 48, 49, 50], []⟩], quiet := [] }
def F68 (s : ByteArray) (H : Heap) (K : Value → Heap → Prop) : Prop :=
 ∃ (Rel : Int → Int → Int → Heap → Prop),
 ∃ (mu : Int → Int → Int → Heap → Nat),
 Rel (0 : Int) (2 : Int) (0 : Int) H ∧
 ∀ (x x1 x2 : Int) (H1 : Heap),
 Rel x x1 x2 H1 →
 (decide (x2 < (↑s.size : Int)) = true →
 ∃ (b : UInt8),
 bAt s x2 b ∧
 ((x2 == (9 : Int) && decide ((↑b.toNat : Int) > (1 : Int))) = true →
 ((x2 == (9 : Int) && decide ((↑b.toNat : Int) > (1 : Int))) = true →
 K (Value.tuple #[Value.int IntKind.u64 (0 : Int), Value.int IntKind.i64 (0 : Int), Value.int IntKind.i64 (3 : Int)]) H1) ∧
 ((x2 == (9 : Int) && decide ((↑b.toNat : Int) > (1 : Int))) = false →
 (decide ((↑b.toNat : Int) < (128 : Int)) = true →
 (0 : Int) ≤ IntKind.i64.wrap ((7 : Int) * x2) ∧
 K
 (Value.tuple
 #[Value.int IntKind.u64
 (bitsI BinOp.or IntKind.u64 x
 (IntKind.u64.wrap (IntKind.u64.wrap (↑b.toNat : Int) * (2 : Int) ^ shAmt IntKind.u64 (IntKind.i64.wrap ((7 : Int) * x2))))),
 Value.int IntKind.i64 (IntKind.i64.wrap (x2 + (1 : Int))), Value.int IntKind.i64 (0 : Int)])
 H1) ∧
 (decide ((↑b.toNat : Int) < (128 : Int)) = false →
 (0 : Int) ≤ IntKind.i64.wrap ((7 : Int) * x2) ∧
 Rel
 (bitsI BinOp.or IntKind.u64 x
 (IntKind.u64.wrap
 (IntKind.u64.wrap (bitsI BinOp.and IntKind.u8 (↑b.toNat : Int) (127 : Int)) *
 (2 : Int) ^ shAmt IntKind.u64 (IntKind.i64.wrap ((7 : Int) * x2)))))
 x1 (IntKind.i64.wrap (x2 + (1 : Int))) H1 ∧
 mu
 (bitsI BinOp.or IntKind.u64 x
 (IntKind.u64.wrap
 (IntKind.u64.wrap (bitsI BinOp.and IntKind.u8 (↑b.toNat : Int) (127 : Int)) *
 (2 : Int) ^ shAmt IntKind.u64 (IntKind.i64.wrap ((7 : Int) * x2)))))
 x1 (IntKind.i64.wrap (x2 + (1 : Int))) H1 <
 mu x x1 x2 H1))) ∧
 ((x2 == (9 : Int) && decide ((↑b.toNat : Int) > (1 : Int))) = false →
 ((decide (x2 > (0 : Int)) && (↑b.toNat : Int) == (0 : Int)) = true →
 K (Value.tuple #[Value.int IntKind.u64 (0 : Int), Value.int IntKind.i64 (0 : Int), Value.int IntKind.i64 (3 : Int)]) H1) ∧
 ((decide (x2 > (0 : Int)) && (↑b.toNat : Int) == (0 : Int)) = false →
 (decide ((↑b.toNat : Int) < (128 : Int)) = true →
 (0 : Int) ≤ IntKind.i64.wrap ((7 : Int) * x2) ∧
 K
 (Value.tuple
 #[Value.int IntKind.u64
 (bitsI BinOp.or IntKind.u64 x
 (IntKind.u64.wrap (IntKind.u64.wrap (↑b.toNat : Int) * (2 : Int) ^ shAmt IntKind.u64 (IntKind.i64.wrap ((7 : Int) * x2))))),
 Value.int IntKind.i64 (IntKind.i64.wrap (x2 + (1 : Int))), Value.int IntKind.i64 (0 : Int)])
 H1) ∧
 (decide ((↑b.toNat : Int) < (128 : Int)) = false →
 (0 : Int) ≤ IntKind.i64.wrap ((7 : Int) * x2) ∧
 Rel
 (bitsI BinOp.or IntKind.u64 x
 (IntKind.u64.wrap
 (IntKind.u64.wrap (bitsI BinOp.and IntKind.u8 (↑b.toNat : Int) (127 : Int)) *
 (2 : Int) ^ shAmt IntKind.u64 (IntKind.i64.wrap ((7 : Int) * x2)))))
 x1 (IntKind.i64.wrap (x2 + (1 : Int))) H1 ∧
 mu
 (bitsI BinOp.or IntKind.u64 x
 (IntKind.u64.wrap
 (IntKind.u64.wrap (bitsI BinOp.and IntKind.u8 (↑b.toNat : Int) (127 : Int)) *
 (2 : Int) ^ shAmt IntKind.u64 (IntKind.i64.wrap ((7 : Int) * x2)))))
 x1 (IntKind.i64.wrap (x2 + (1 : Int))) H1 <
 mu x x1 x2 H1)))) ∧
 (decide (x2 < (↑s.size : Int)) = false → K (Value.tuple #[Value.int IntKind.u64 (0 : Int), Value.int IntKind.i64 (0 : Int), Value.int IntKind.i64 x1]) H1)
theorem v68 {s : ByteArray} {H : Heap} {K : Value → Heap → Prop} (h : F68 s H K) : Tr Try.prog 68 #[.string s] H K :=
  tr_of_eq (C := c68) Try.func68 (show vcFn c68 Try.f68 [.string s] H K = F68 s H K by kernel_rfl) h

/- tapestry/tapestryref01.TakeUint -/
noncomputable def c70 : Cx := { P := Try.prog, res := [], pub := [], loops := [⟨4, [(5, .int .u64), (6, .int .u64), (7, .int .i64)], [2, 3, 4, 8, 9, 10, 11, 12, 13, 14, 15, 16, 17, 18, 19, 20, 21, 22, 23, 24, 25, 26, 27, 28, 29, 30, 31, 32, 33, 34, 35, 36, 37, 38, 39, 40, 41, 42, 43, 44, 45], []⟩], quiet := [] }
def F70 (s : ByteArray) (H : Heap) (K : Value → Heap → Prop) : Prop :=
 ∃ (Rel : Int → Int → Int → Heap → Prop),
 ∃ (mu : Int → Int → Int → Heap → Nat),
 Rel (0 : Int) (1 : Int) (0 : Int) H ∧
 ∀ (x x1 x2 : Int) (H1 : Heap),
 Rel x x1 x2 H1 →
 (decide (x2 < (↑s.size : Int)) = true →
 ∃ (b : UInt8),
 bAt s x2 b ∧
 ((x2 == (9 : Int) && decide (IntKind.u64.wrap (↑b.toNat : Int) > (1 : Int)) || decide (x2 > (0 : Int)) && IntKind.u64.wrap (↑b.toNat : Int) == (0 : Int)) = true →
 K (Value.tuple #[Value.int IntKind.u64 (0 : Int), Value.int IntKind.i64 (0 : Int), Value.int IntKind.i64 (3 : Int)]) H1) ∧
 ((x2 == (9 : Int) && decide (IntKind.u64.wrap (↑b.toNat : Int) > (1 : Int)) || decide (x2 > (0 : Int)) && IntKind.u64.wrap (↑b.toNat : Int) == (0 : Int)) =
 false →
 (128 : Int) ≠ (0 : Int) ∧
 (decide (IntKind.u64.wrap (↑b.toNat : Int) < (128 : Int)) = true →
 K
 (Value.tuple
 #[Value.int IntKind.u64 (IntKind.u64.wrap (x + IntKind.u64.wrap ((IntKind.u64.wrap (↑b.toNat : Int)).tmod (128 : Int) * x1))),
 Value.int IntKind.i64 (IntKind.i64.wrap (x2 + (1 : Int))), Value.int IntKind.i64 (0 : Int)])
 H1) ∧
 (decide (IntKind.u64.wrap (↑b.toNat : Int) < (128 : Int)) = false →
 Rel (IntKind.u64.wrap (x + IntKind.u64.wrap ((IntKind.u64.wrap (↑b.toNat : Int)).tmod (128 : Int) * x1))) (IntKind.u64.wrap (x1 * (128 : Int)))
 (IntKind.i64.wrap (x2 + (1 : Int))) H1 ∧
 mu (IntKind.u64.wrap (x + IntKind.u64.wrap ((IntKind.u64.wrap (↑b.toNat : Int)).tmod (128 : Int) * x1))) (IntKind.u64.wrap (x1 * (128 : Int)))
 (IntKind.i64.wrap (x2 + (1 : Int))) H1 <
 mu x x1 x2 H1))) ∧
 (decide (x2 < (↑s.size : Int)) = false → K (Value.tuple #[Value.int IntKind.u64 (0 : Int), Value.int IntKind.i64 (0 : Int), Value.int IntKind.i64 (2 : Int)]) H1)
theorem v70 {s : ByteArray} {H : Heap} {K : Value → Heap → Prop} (h : F70 s H K) : Tr Try.prog 70 #[.string s] H K :=
  tr_of_eq (C := c70) Try.func70 (show vcFn c70 Try.f70 [.string s] H K = F70 s H K by kernel_rfl) h

/- tapestry/codec.TakeInt -/
noncomputable def c74 : Cx := { P := Try.prog, res := [], pub := [], loops := [], quiet := [68] }
def F74 (s : ByteArray) (H : Heap) (K : Value → Heap → Prop) : Prop :=
 ∃ (x : Int),
 ∃ (x1 : Int),
 ∃ (x2 : Int),
 (Tr Try.prog (68 : Nat) #[Value.string s] H fun (v : Value) (H' : Heap) =>
 v = Value.tuple #[Value.int IntKind.u64 x, Value.int IntKind.i64 x1, Value.int IntKind.i64 x2] ∧ Ax.Sub H H') ∧
 (0 : Int) ≤ (1 : Int) ∧
 K
 (Value.tuple
 #[Value.int IntKind.i64
 (bitsI BinOp.xor IntKind.i64 (IntKind.i64.wrap (x.fdiv ((2 : Int) ^ shAmt IntKind.u64 (1 : Int))))
 (IntKind.i64.wrap ((0 : Int) - IntKind.i64.wrap (bitsI BinOp.and IntKind.u64 x (1 : Int))))),
 Value.int IntKind.i64 x1, Value.int IntKind.i64 x2])
 H
theorem v74 {s : ByteArray} {H : Heap} {K : Value → Heap → Prop} (h : F74 s H K) : Tr Try.prog 74 #[.string s] H K :=
  tr_of_eq (C := c74) Try.func74 (show vcFn c74 Try.f74 [.string s] H K = F74 s H K by kernel_rfl) h

/- tapestry/tapestryref01.TakeInt -/
noncomputable def c75 : Cx := { P := Try.prog, res := [], pub := [], loops := [], quiet := [70] }
def F75 (s : ByteArray) (H : Heap) (K : Value → Heap → Prop) : Prop :=
 ∃ (x : Int),
 ∃ (x1 : Int),
 ∃ (x2 : Int),
 (Tr Try.prog (70 : Nat) #[Value.string s] H fun (v : Value) (H' : Heap) =>
 v = Value.tuple #[Value.int IntKind.u64 x, Value.int IntKind.i64 x1, Value.int IntKind.i64 x2] ∧ Ax.Sub H H') ∧
 (2 : Int) ≠ (0 : Int) ∧
 ((x.tmod (2 : Int) == (1 : Int)) = true →
 (2 : Int) ≠ (0 : Int) ∧
 K
 (Value.tuple
 #[Value.int IntKind.i64 (IntKind.i64.wrap (IntKind.i64.wrap ((0 : Int) - IntKind.i64.wrap (IntKind.u64.wrap (x.tdiv (2 : Int)))) - (1 : Int))),
 Value.int IntKind.i64 x1, Value.int IntKind.i64 x2])
 H) ∧
 ((x.tmod (2 : Int) == (1 : Int)) = false →
 (2 : Int) ≠ (0 : Int) ∧
 K (Value.tuple #[Value.int IntKind.i64 (IntKind.i64.wrap (IntKind.u64.wrap (x.tdiv (2 : Int)))), Value.int IntKind.i64 x1, Value.int IntKind.i64 x2]) H)
theorem v75 {s : ByteArray} {H : Heap} {K : Value → Heap → Prop} (h : F75 s H K) : Tr Try.prog 75 #[.string s] H K :=
  tr_of_eq (C := c75) Try.func75 (show vcFn c75 Try.f75 [.string s] H K = F75 s H K by kernel_rfl) h

end Go.Proofs.Ytanahoejlnmfiaa
