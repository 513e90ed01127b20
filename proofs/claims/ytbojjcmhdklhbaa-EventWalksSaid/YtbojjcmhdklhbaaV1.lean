/- By program (axgen.py): the formulas of functions of the translation, and that each gives its function's contract. Conditions: none. -/
import Derived.Test.YtbojjcmhdklhbaaProg
import Derived.Test.YtbojjcmhdklhbaaAxF
set_option maxRecDepth 100000
set_option linter.unusedVariables false
namespace Go.Proofs.Ytbojjcmhdklhbaa
open Go.Ax

/- tapestry/tapestrylaw14.shown -/
noncomputable def c13 : Cx := { P := Try.prog, res := [], pub := [], loops := [], quiet := [14, 16, 20] }
def F13  (H : Heap) (K : Value → Heap → Prop) : Prop :=
 ∃ (s : ByteArray),
 ∃ (x : Int),
 (Tr Try.prog (16 : Nat)
 #[Value.agg
 #[Value.int IntKind.i64 (1 : Int), Value.int IntKind.i64 (0 : Int), Value.int IntKind.i64 (1 : Int), Value.int IntKind.i64 (0 : Int), Value.int IntKind.i64 (7 : Int),
 Value.int IntKind.i64 (0 : Int), Value.int IntKind.i64 (0 : Int), Value.int IntKind.i64 (0 : Int), Value.int IntKind.i64 (0 : Int)]]
 H fun (v : Value) (H' : Heap) => v = Value.tuple #[Value.string s, Value.int IntKind.i64 x] ∧ Ax.Sub H H') ∧
 Tr Try.prog (18 : Nat) #[Value.string { data := #[(2 : UInt8), (0 : UInt8), (2 : UInt8), (2 : UInt8), (109 : UInt8), (111 : UInt8), (114 : UInt8), (101 : UInt8)] }] H
 fun (v1 : Value) (H'1 : Heap) =>
 ∃ (x1 : Int),
 ∃ (x2 : Int),
 ∃ (x3 : Int),
 ∃ (x4 : Int),
 ∃ (x5 : Int),
 ∃ (x6 : Int),
 ∃ (x7 : Int),
 ∃ (x8 : Int),
 ∃ (x9 : Int),
 ∃ (x10 : Int),
 ∃ (x11 : Int),
 v1 =
 Value.tuple
 #[Value.agg
 #[Value.int IntKind.i64 x1, Value.int IntKind.i64 x2, Value.int IntKind.i64 x3, Value.int IntKind.i64 x4, Value.int IntKind.i64 x5,
 Value.int IntKind.i64 x6, Value.int IntKind.i64 x7, Value.int IntKind.i64 x8, Value.int IntKind.i64 x9],
 Value.int IntKind.i64 x10, Value.int IntKind.i64 x11] ∧
 ∃ (x12 : Int),
 (Tr Try.prog (20 : Nat) #[Value.int IntKind.i64 (31 : Int)] H'1 fun (v2 : Value) (H'2 : Heap) =>
 v2 = Value.int IntKind.i64 x12 ∧ Ax.Sub H'1 H'2) ∧
 ∃ (x13 : Int),
 (Tr Try.prog (20 : Nat) #[Value.int IntKind.i64 (32 : Int)] H'1 fun (v3 : Value) (H'3 : Heap) =>
 v3 = Value.int IntKind.i64 x13 ∧ Ax.Sub H'1 H'3) ∧
 ∃ (b : Bool),
 (Tr Try.prog (14 : Nat)
 #[Value.agg
 #[Value.int IntKind.i64 (1 : Int), Value.int IntKind.i64 (0 : Int), Value.int IntKind.i64 (31 : Int),
 Value.int IntKind.i64 (1 : Int), Value.int IntKind.i64 (0 : Int), Value.int IntKind.i64 (0 : Int),
 Value.int IntKind.i64 (0 : Int), Value.int IntKind.i64 (0 : Int), Value.int IntKind.i64 (0 : Int)]]
 H'1 fun (v4 : Value) (H'4 : Heap) => v4 = Value.bool b ∧ Ax.Sub H'1 H'4) ∧
 K
 (Value.bool
 (x == (0 : Int) &&
 beqS s
 {
 data :=
 #[(1 : UInt8), (0 : UInt8), (1 : UInt8), (0 : UInt8), (14 : UInt8), (0 : UInt8), (0 : UInt8), (0 : UInt8),
 (0 : UInt8)] } &&
 x11 == (0 : Int) &&
 x10 == (4 : Int) &&
 (x1 == (2 : Int) &&
 (x2 == (0 : Int) &&
 (x3 == (2 : Int) &&
 (x4 == (1 : Int) &&
 (x5 == (0 : Int) && (x6 == (0 : Int) && (x7 == (0 : Int) && (x8 == (0 : Int) && (x9 == (0 : Int) && true))))))))) &&
 x12 == (0 : Int) &&
 x13 == (-1 : Int) &&
 !b))
 H'1
theorem v13 {H : Heap} {K : Value → Heap → Prop} (h : F13  H K) : Tr Try.prog 13 #[] H K :=
  tr_of_eq (C := c13) Try.func13 (show vcFn c13 Try.f13 [] H K = F13  H K by kernel_rfl) h

/- tapestry/event.Valid -/
noncomputable def c14 : Cx := { P := Try.prog, res := [], pub := [], loops := [⟨5, [(33, .int .i64)], [2, 4, 5, 34, 35, 36, 37, 38, 39, 40, 41, 42, 43, 44], []⟩], quiet := [20, 42] }
def F14 (eId : Int) (eTime : Int) (eKind : Int) (eA : Int) (eB : Int) (eC : Int) (eD : Int) (eE : Int) (eF : Int) (H : Heap) (K : Value → Heap → Prop) : Prop :=
 ∃ (x : Int),
 (Tr Try.prog (20 : Nat) #[Value.int IntKind.i64 eKind] H fun (v : Value) (H' : Heap) => v = Value.int IntKind.i64 x ∧ Ax.Sub H H') ∧
 ((decide (x < (0 : Int)) || decide (eId < (1 : Int)) || decide (eId > (256 : Int)) || decide (eTime < (0 : Int)) || decide (eTime > (1099511627776 : Int))) = true →
 K (Value.bool false) H) ∧
 ((decide (x < (0 : Int)) || decide (eId < (1 : Int)) || decide (eId > (256 : Int)) || decide (eTime < (0 : Int)) || decide (eTime > (1099511627776 : Int))) = false →
 Tr Try.prog (41 : Nat)
 #[Value.agg
 #[Value.int IntKind.i64 eId, Value.int IntKind.i64 eTime, Value.int IntKind.i64 eKind, Value.int IntKind.i64 eA, Value.int IntKind.i64 eB, Value.int IntKind.i64 eC,
 Value.int IntKind.i64 eD, Value.int IntKind.i64 eE, Value.int IntKind.i64 eF]]
 H fun (v1 : Value) (H'1 : Heap) =>
 ∃ (x1 : Int),
 ∃ (x2 : Int),
 ∃ (x3 : Int),
 ∃ (x4 : Int),
 ∃ (x5 : Int),
 ∃ (x6 : Int),
 v1 =
 Value.agg
 #[Value.int IntKind.i64 x1, Value.int IntKind.i64 x2, Value.int IntKind.i64 x3, Value.int IntKind.i64 x4, Value.int IntKind.i64 x5,
 Value.int IntKind.i64 x6] ∧
 ∃ (Rel : Int → Heap → Prop),
 ∃ (mu : Int → Heap → Nat),
 Rel (0 : Int) H'1 ∧
 ∀ (x7 : Int) (H1 : Heap),
 Rel x7 H1 →
 (decide (x7 < (6 : Int)) = true →
 ∃ (x8 : Int),
 arrAt
 [Value.int IntKind.i64 x1, Value.int IntKind.i64 x2, Value.int IntKind.i64 x3, Value.int IntKind.i64 x4, Value.int IntKind.i64 x5,
 Value.int IntKind.i64 x6]
 (6 : Nat) x7 (nat_lit 1) [Value.int IntKind.i64 x8] ∧
 ((decide (x7 ≥ x) && x8 != (0 : Int)) = true → K (Value.bool false) H1) ∧
 ((decide (x7 ≥ x) && x8 != (0 : Int)) = false →
 Rel (IntKind.i64.wrap (x7 + (1 : Int))) H1 ∧ mu (IntKind.i64.wrap (x7 + (1 : Int))) H1 < mu x7 H1)) ∧
 (decide (x7 < (6 : Int)) = false →
 ∃ (b : Bool),
 (Tr Try.prog (42 : Nat)
 #[Value.agg
 #[Value.int IntKind.i64 eId, Value.int IntKind.i64 eTime, Value.int IntKind.i64 eKind, Value.int IntKind.i64 eA,
 Value.int IntKind.i64 eB, Value.int IntKind.i64 eC, Value.int IntKind.i64 eD, Value.int IntKind.i64 eE, Value.int IntKind.i64 eF]]
 H1 fun (v2 : Value) (H'2 : Heap) => v2 = Value.bool b ∧ Ax.Sub H1 H'2) ∧
 K (Value.bool b) H1))
theorem v14 {eId : Int} {eTime : Int} {eKind : Int} {eA : Int} {eB : Int} {eC : Int} {eD : Int} {eE : Int} {eF : Int} {H : Heap} {K : Value → Heap → Prop} (h : F14 eId eTime eKind eA eB eC eD eE eF H K) : Tr Try.prog 14 #[.agg #[.int .i64 eId, .int .i64 eTime, .int .i64 eKind, .int .i64 eA, .int .i64 eB, .int .i64 eC, .int .i64 eD, .int .i64 eE, .int .i64 eF]] H K :=
  tr_of_eq (C := c14) Try.func14 (show vcFn c14 Try.f14 [.agg #[.int .i64 eId, .int .i64 eTime, .int .i64 eKind, .int .i64 eA, .int .i64 eB, .int .i64 eC, .int .i64 eD, .int .i64 eE, .int .i64 eF]] H K = F14 eId eTime eKind eA eB eC eD eE eF H K by kernel_rfl) h

/- tapestry/tapestryref14.Valid -/
noncomputable def c15 : Cx := { P := Try.prog, res := [], pub := [], loops := [⟨6, [(5, .int .i64)], [2, 6, 7, 35, 36, 37, 38, 39, 40, 41, 42, 43, 44, 45, 46, 47, 48, 49, 50, 51, 52, 53, 54, 55, 56, 57, 58, 59, 60, 61, 62, 63, 64, 65, 66, 67, 68, 69, 70, 71, 72, 73, 74, 75, 76], []⟩], quiet := [21, 44] }
def F15 (eId : Int) (eTime : Int) (eKind : Int) (eA : Int) (eB : Int) (eC : Int) (eD : Int) (eE : Int) (eF : Int) (H : Heap) (K : Value → Heap → Prop) : Prop :=
 ∃ (x : Int),
 (Tr Try.prog (21 : Nat) #[Value.int IntKind.i64 eKind] H fun (v : Value) (H' : Heap) => v = Value.int IntKind.i64 x ∧ Ax.Sub H H') ∧
 ((decide (x < (0 : Int)) || decide (eId < (1 : Int)) || decide (eId > (256 : Int)) || decide (eTime < (0 : Int)) || decide (eTime > (1099511627776 : Int))) = true →
 K (Value.bool false) H) ∧
 ((decide (x < (0 : Int)) || decide (eId < (1 : Int)) || decide (eId > (256 : Int)) || decide (eTime < (0 : Int)) || decide (eTime > (1099511627776 : Int))) = false →
 Tr Try.prog (43 : Nat)
 #[Value.agg
 #[Value.int IntKind.i64 eId, Value.int IntKind.i64 eTime, Value.int IntKind.i64 eKind, Value.int IntKind.i64 eA, Value.int IntKind.i64 eB, Value.int IntKind.i64 eC,
 Value.int IntKind.i64 eD, Value.int IntKind.i64 eE, Value.int IntKind.i64 eF]]
 H fun (v1 : Value) (H'1 : Heap) =>
 ∃ (A : Option Addr),
 ∃ (n : Nat),
 ∃ (c : Nat),
 v1 = Value.slice A n c ∧
 ∃ (Rel : Int → Heap → Prop),
 ∃ (mu : Int → Heap → Nat),
 Rel (0 : Int) H'1 ∧
 ∀ (x1 : Int) (H1 : Heap),
 Rel x1 H1 →
 (decide (x1 < (6 : Int)) = true →
 ∃ (x2 : Int),
 ∃ (x3 : Int),
 (Tr Try.prog (44 : Nat) #[Value.int IntKind.i64 eKind, Value.int IntKind.i64 x1] H1 fun (v2 : Value) (H'2 : Heap) =>
 v2 = Value.tuple #[Value.int IntKind.i64 x2, Value.int IntKind.i64 x3] ∧ Ax.Sub H1 H'2) ∧
 ∃ (a : Addr),
 (decide (x1 ≥ x) = true → A = some a ∧ (0 : Int) ≤ x1 ∧ x1 < (↑n : Int)) ∧
 ∃ (x4 : Int),
 (decide (x1 ≥ x) = true → At H1 (a.add (x1.toNat * nat_lit 1)) [Value.int IntKind.i64 x4]) ∧
 ∃ (a1 : Addr),
 ((!(decide (x1 ≥ x) && x4 != (0 : Int)) && decide (x1 < x)) = true → A = some a1 ∧ (0 : Int) ≤ x1 ∧ x1 < (↑n : Int)) ∧
 ∃ (x5 : Int),
 ((!(decide (x1 ≥ x) && x4 != (0 : Int)) && decide (x1 < x)) = true →
 At H1 (a1.add (x1.toNat * nat_lit 1)) [Value.int IntKind.i64 x5]) ∧
 ∃ (a2 : Addr),
 ((!(decide (x1 ≥ x) && x4 != (0 : Int)) && decide (x1 < x) && !decide (x5 < x2)) = true →
 A = some a2 ∧ (0 : Int) ≤ x1 ∧ x1 < (↑n : Int)) ∧
 ∃ (x6 : Int),
 ((!(decide (x1 ≥ x) && x4 != (0 : Int)) && decide (x1 < x) && !decide (x5 < x2)) = true →
 At H1 (a2.add (x1.toNat * nat_lit 1)) [Value.int IntKind.i64 x6]) ∧
 ((decide (x1 ≥ x) && x4 != (0 : Int) || decide (x1 < x) && (decide (x5 < x2) || decide (x6 > x3))) = true →
 K (Value.bool false) H1) ∧
 ((decide (x1 ≥ x) && x4 != (0 : Int) || decide (x1 < x) && (decide (x5 < x2) || decide (x6 > x3))) = false →
 Rel (IntKind.i64.wrap (x1 + (1 : Int))) H1 ∧ mu (IntKind.i64.wrap (x1 + (1 : Int))) H1 < mu x1 H1)) ∧
 (decide (x1 < (6 : Int)) = false → K (Value.bool true) H1))
theorem v15 {eId : Int} {eTime : Int} {eKind : Int} {eA : Int} {eB : Int} {eC : Int} {eD : Int} {eE : Int} {eF : Int} {H : Heap} {K : Value → Heap → Prop} (h : F15 eId eTime eKind eA eB eC eD eE eF H K) : Tr Try.prog 15 #[.agg #[.int .i64 eId, .int .i64 eTime, .int .i64 eKind, .int .i64 eA, .int .i64 eB, .int .i64 eC, .int .i64 eD, .int .i64 eE, .int .i64 eF]] H K :=
  tr_of_eq (C := c15) Try.func15 (show vcFn c15 Try.f15 [.agg #[.int .i64 eId, .int .i64 eTime, .int .i64 eKind, .int .i64 eA, .int .i64 eB, .int .i64 eC, .int .i64 eD, .int .i64 eE, .int .i64 eF]] H K = F15 eId eTime eKind eA eB eC eD eE eF H K by kernel_rfl) h

/- tapestry/event.Closing -/
noncomputable def c24 : Cx := { P := Try.prog, res := [], pub := [], loops := [], quiet := [] }
def F24 (kind : Int) (H : Heap) (K : Value → Heap → Prop) : Prop :=
 K (Value.bool (decide (kind ≥ (15 : Int)) && decide (kind ≤ (18 : Int)) || kind == (30 : Int) || kind == (31 : Int))) H
theorem v24 {kind : Int} {H : Heap} {K : Value → Heap → Prop} (h : F24 kind H K) : Tr Try.prog 24 #[.int .i64 kind] H K :=
  tr_of_eq (C := c24) Try.func24 (show vcFn c24 Try.f24 [.int .i64 kind] H K = F24 kind H K by kernel_rfl) h

/- tapestry/tapestryref14.Closing -/
noncomputable def c25 : Cx := { P := Try.prog, res := [], pub := [], loops := [], quiet := [] }
def F25 (kind : Int) (H : Heap) (K : Value → Heap → Prop) : Prop :=
 K (Value.bool (decide (kind ≥ (15 : Int)) && decide (kind ≤ (18 : Int)) || kind == (30 : Int) || kind == (31 : Int))) H
theorem v25 {kind : Int} {H : Heap} {K : Value → Heap → Prop} (h : F25 kind H K) : Tr Try.prog 25 #[.int .i64 kind] H K :=
  tr_of_eq (C := c25) Try.func25 (show vcFn c25 Try.f25 [.int .i64 kind] H K = F25 kind H K by kernel_rfl) h

/- tapestry/event.Pack -/
noncomputable def c26 : Cx := { P := Try.prog, res := [], pub := [], loops := [⟨3, [(4, .str), (11, .int .i64)], [2, 3, 6, 7, 8, 12, 13, 14, 15, 16, 17, 18, 19, 20, 21, 22, 23, 24, 25, 26], []⟩], quiet := [16] }
def F26 (lA : Option Addr) (ln lc : Nat) (H : Heap) (K : Value → Heap → Prop) : Prop :=
 ∃ (Rel : ByteArray → Int → Heap → Prop),
 ∃ (mu : ByteArray → Int → Heap → Nat),
 Rel { data := #[] } (0 : Int) H ∧
 ∀ (s : ByteArray) (x : Int) (H1 : Heap),
 Rel s x H1 →
 (decide (x < (↑ln : Int)) = true →
 ∃ (a : Addr),
 (lA = some a ∧ (0 : Int) ≤ x ∧ x < (↑ln : Int)) ∧
 ∃ (x1 : Int),
 ∃ (x2 : Int),
 ∃ (x3 : Int),
 ∃ (x4 : Int),
 ∃ (x5 : Int),
 ∃ (x6 : Int),
 ∃ (x7 : Int),
 ∃ (x8 : Int),
 ∃ (x9 : Int),
 At H1 (a.add (x.toNat * nat_lit 9))
 [Value.int IntKind.i64 x1, Value.int IntKind.i64 x2, Value.int IntKind.i64 x3, Value.int IntKind.i64 x4, Value.int IntKind.i64 x5,
 Value.int IntKind.i64 x6, Value.int IntKind.i64 x7, Value.int IntKind.i64 x8, Value.int IntKind.i64 x9] ∧
 ∃ (s1 : ByteArray),
 ∃ (x10 : Int),
 (Tr Try.prog (16 : Nat)
 #[Value.agg
 #[Value.int IntKind.i64 x1, Value.int IntKind.i64 x2, Value.int IntKind.i64 x3, Value.int IntKind.i64 x4,
 Value.int IntKind.i64 x5, Value.int IntKind.i64 x6, Value.int IntKind.i64 x7, Value.int IntKind.i64 x8,
 Value.int IntKind.i64 x9]]
 H1 fun (v : Value) (H' : Heap) => v = Value.tuple #[Value.string s1, Value.int IntKind.i64 x10] ∧ Ax.Sub H1 H') ∧
 ((x10 != (0 : Int)) = true → K (Value.tuple #[Value.string { data := #[] }, Value.int IntKind.i64 x10]) H1) ∧
 ((x10 != (0 : Int)) = false →
 s.size + s1.size ≤ (9223372036854775807 : Nat) ∧
 Rel (s ++ s1) (IntKind.i64.wrap (x + (1 : Int))) H1 ∧ mu (s ++ s1) (IntKind.i64.wrap (x + (1 : Int))) H1 < mu s x H1)) ∧
 (decide (x < (↑ln : Int)) = false → K (Value.tuple #[Value.string s, Value.int IntKind.i64 (0 : Int)]) H1)
theorem v26 {lA : Option Addr} {ln lc : Nat} {H : Heap} {K : Value → Heap → Prop} (h : F26 lA ln lc H K) : Tr Try.prog 26 #[.slice lA ln lc] H K :=
  tr_of_eq (C := c26) Try.func26 (show vcFn c26 Try.f26 [.slice lA ln lc] H K = F26 lA ln lc H K by kernel_rfl) h

/- tapestry/codec.PutUint -/
noncomputable def c45 : Cx := { P := Try.prog, res := [], pub := [], loops := [⟨2, [(0, .int .u64), (3, .sl)], [4, 5, 6, 7, 8, 9, 10, 11, 12, 13], []⟩], quiet := [] }
def F45 (n : Int) (H : Heap) (K : Value → Heap → Prop) : Prop :=
 ∃ (Rel : Int → Option Addr → Nat → Nat → Heap → Prop),
 ∃ (mu : Int → Option Addr → Nat → Nat → Heap → Nat),
 Rel n none (0 : Nat) (0 : Nat) H ∧
 ∀ (x : Int) (A : Option Addr) (n1 c : Nat) (H1 : Heap),
 Rel x A n1 c H1 →
 (decide (x ≥ (128 : Int)) = true →
 appC (5 : Nat) (nat_lit 1) (nat_lit 1) H1 A n1 c [Value.int IntKind.u8 (bitsI BinOp.or IntKind.u8 (IntKind.u8.wrap x) (128 : Int))] (1 : Nat)
 fun (A' : Option Addr) (n' c' : Nat) (H' : Heap) =>
 (0 : Int) ≤ (7 : Int) ∧
 Rel (x.fdiv ((2 : Int) ^ shAmt IntKind.u64 (7 : Int))) A' n' c' H' ∧ mu (x.fdiv ((2 : Int) ^ shAmt IntKind.u64 (7 : Int))) A' n' c' H' < mu x A n1 c H1) ∧
 (decide (x ≥ (128 : Int)) = false →
 appC (5 : Nat) (nat_lit 1) (nat_lit 1) H1 A n1 c [Value.int IntKind.u8 (IntKind.u8.wrap x)] (1 : Nat) fun (A'1 : Option Addr) (n'1 c'1 : Nat) (H'1 : Heap) =>
 ∃ (s : ByteArray), bytesAt H'1 A'1 n'1 s ∧ K (Value.string s) H'1)
theorem v45 {n : Int} {H : Heap} {K : Value → Heap → Prop} (h : F45 n H K) : Tr Try.prog 45 #[.int .u64 n] H K :=
  tr_of_eq (C := c45) Try.func45 (show vcFn c45 Try.f45 [.int .u64 n] H K = F45 n H K by kernel_rfl) h

/- tapestry/codec.PutInt -/
noncomputable def c46 : Cx := { P := Try.prog, res := [], pub := [], loops := [], quiet := [45] }
def F46 (n : Int) (H : Heap) (K : Value → Heap → Prop) : Prop :=
 (0 : Int) ≤ (1 : Int) ∧
 (0 : Int) ≤ (63 : Int) ∧
 ∃ (s : ByteArray),
 (Tr Try.prog (45 : Nat)
 #[Value.int IntKind.u64
 (bitsI BinOp.xor IntKind.u64 (IntKind.u64.wrap (IntKind.u64.wrap n * (2 : Int) ^ shAmt IntKind.u64 (1 : Int)))
 (IntKind.u64.wrap (n.fdiv ((2 : Int) ^ shAmt IntKind.i64 (63 : Int)))))]
 H fun (v : Value) (H' : Heap) => v = Value.string s ∧ Ax.Sub H H') ∧
 K (Value.string s) H
theorem v46 {n : Int} {H : Heap} {K : Value → Heap → Prop} (h : F46 n H K) : Tr Try.prog 46 #[.int .i64 n] H K :=
  tr_of_eq (C := c46) Try.func46 (show vcFn c46 Try.f46 [.int .i64 n] H K = F46 n H K by kernel_rfl) h

/- tapestry/tapestryref01.PutUint -/
noncomputable def c47 : Cx := { P := Try.prog, res := [], pub := [], loops := [⟨2, [(0, .int .u64), (3, .sl)], [4, 5, 6, 7, 8, 9, 10, 11, 12, 13, 14], []⟩], quiet := [] }
def F47 (n : Int) (H : Heap) (K : Value → Heap → Prop) : Prop :=
 ∃ (Rel : Int → Option Addr → Nat → Nat → Heap → Prop),
 ∃ (mu : Int → Option Addr → Nat → Nat → Heap → Nat),
 Rel n none (0 : Nat) (0 : Nat) H ∧
 ∀ (x : Int) (A : Option Addr) (n1 c : Nat) (H1 : Heap),
 Rel x A n1 c H1 →
 (decide (x ≥ (128 : Int)) = true →
 (128 : Int) ≠ (0 : Int) ∧
 appC (5 : Nat) (nat_lit 1) (nat_lit 1) H1 A n1 c [Value.int IntKind.u8 (IntKind.u8.wrap (IntKind.u8.wrap (x.tmod (128 : Int)) + (128 : Int)))] (1 : Nat)
 fun (A' : Option Addr) (n' c' : Nat) (H' : Heap) =>
 (128 : Int) ≠ (0 : Int) ∧ Rel (IntKind.u64.wrap (x.tdiv (128 : Int))) A' n' c' H' ∧ mu (IntKind.u64.wrap (x.tdiv (128 : Int))) A' n' c' H' < mu x A n1 c H1) ∧
 (decide (x ≥ (128 : Int)) = false →
 appC (5 : Nat) (nat_lit 1) (nat_lit 1) H1 A n1 c [Value.int IntKind.u8 (IntKind.u8.wrap x)] (1 : Nat) fun (A'1 : Option Addr) (n'1 c'1 : Nat) (H'1 : Heap) =>
 ∃ (s : ByteArray), bytesAt H'1 A'1 n'1 s ∧ K (Value.string s) H'1)
theorem v47 {n : Int} {H : Heap} {K : Value → Heap → Prop} (h : F47 n H K) : Tr Try.prog 47 #[.int .u64 n] H K :=
  tr_of_eq (C := c47) Try.func47 (show vcFn c47 Try.f47 [.int .u64 n] H K = F47 n H K by kernel_rfl) h

/- tapestry/tapestryref01.PutInt -/
noncomputable def c48 : Cx := { P := Try.prog, res := [], pub := [], loops := [], quiet := [47] }
def F48 (n : Int) (H : Heap) (K : Value → Heap → Prop) : Prop :=
 (decide (n ≥ (0 : Int)) = true →
 ∃ (s : ByteArray),
 (Tr Try.prog (47 : Nat) #[Value.int IntKind.u64 (IntKind.u64.wrap ((2 : Int) * IntKind.u64.wrap n))] H fun (v : Value) (H' : Heap) => v = Value.string s ∧ Ax.Sub H H') ∧
 K (Value.string s) H) ∧
 (decide (n ≥ (0 : Int)) = false →
 ∃ (s1 : ByteArray),
 (Tr Try.prog (47 : Nat)
 #[Value.int IntKind.u64
 (IntKind.u64.wrap (IntKind.u64.wrap ((2 : Int) * IntKind.u64.wrap (IntKind.i64.wrap ((0 : Int) - IntKind.i64.wrap (n + (1 : Int))))) + (1 : Int)))]
 H fun (v1 : Value) (H'1 : Heap) => v1 = Value.string s1 ∧ Ax.Sub H H'1) ∧
 K (Value.string s1) H)
theorem v48 {n : Int} {H : Heap} {K : Value → Heap → Prop} (h : F48 n H K) : Tr Try.prog 48 #[.int .i64 n] H K :=
  tr_of_eq (C := c48) Try.func48 (show vcFn c48 Try.f48 [.int .i64 n] H K = F48 n H K by kernel_rfl) h

/- tapestry/codec.TakeUint -/
noncomputable def c49 : Cx := { P := Try.prog, res := [], pub := [], loops := [⟨4, [(5, .int .u64), (6, .int .i64), (11, .int .i64)], [2, 3, 4, 7, 8, 12, 13, 14, 15, 16, 17, 18, 19, 20, 21, 22, 23, 24, 25, 26, 27, 28, 29, 30, 31, 32, 33, 34, 35, 36, 37, 38, 39, 40, 41, 42, 43, 44, 45, 46, 47, 48, 49, 50], []⟩], quiet := [] }
def F49 (s : ByteArray) (H : Heap) (K : Value → Heap → Prop) : Prop :=
 ∃ (Rel : Int → Int → Int → Heap → Prop),
 ∃ (mu : Int → Int → Int → Heap → Nat),
 Rel (0 : Int) (2 : Int) (0 : Int) H ∧
 ∀ (x x1 x2 : Int) (H1 : Heap),
 Rel x x1 x2 H1 →
 (decide (x2 < (↑s.size : Int)) = true →
 ∃ (b : UInt8),
 bAt s x2 b ∧
 ((x2 == (9 : Int) && decide ((↑b.toNat : Int) > (1 : Int))) = true →
 ((x2 == (9 : Int) && decide ((↑b.toNat : Int) > (1 : Int))) = true →
 K (Value.tuple #[Value.int IntKind.u64 (0 : Int), Value.int IntKind.i64 (0 : Int), Value.int IntKind.i64 (3 : Int)]) H1) ∧
 ((x2 == (9 : Int) && decide ((↑b.toNat : Int) > (1 : Int))) = false →
 (decide ((↑b.toNat : Int) < (128 : Int)) = true →
 (0 : Int) ≤ IntKind.i64.wrap ((7 : Int) * x2) ∧
 K
 (Value.tuple
 #[Value.int IntKind.u64
 (bitsI BinOp.or IntKind.u64 x
 (IntKind.u64.wrap (IntKind.u64.wrap (↑b.toNat : Int) * (2 : Int) ^ shAmt IntKind.u64 (IntKind.i64.wrap ((7 : Int) * x2))))),
 Value.int IntKind.i64 (IntKind.i64.wrap (x2 + (1 : Int))), Value.int IntKind.i64 (0 : Int)])
 H1) ∧
 (decide ((↑b.toNat : Int) < (128 : Int)) = false →
 (0 : Int) ≤ IntKind.i64.wrap ((7 : Int) * x2) ∧
 Rel
 (bitsI BinOp.or IntKind.u64 x
 (IntKind.u64.wrap
 (IntKind.u64.wrap (bitsI BinOp.and IntKind.u8 (↑b.toNat : Int) (127 : Int)) *
 (2 : Int) ^ shAmt IntKind.u64 (IntKind.i64.wrap ((7 : Int) * x2)))))
 x1 (IntKind.i64.wrap (x2 + (1 : Int))) H1 ∧
 mu
 (bitsI BinOp.or IntKind.u64 x
 (IntKind.u64.wrap
 (IntKind.u64.wrap (bitsI BinOp.and IntKind.u8 (↑b.toNat : Int) (127 : Int)) *
 (2 : Int) ^ shAmt IntKind.u64 (IntKind.i64.wrap ((7 : Int) * x2)))))
 x1 (IntKind.i64.wrap (x2 + (1 : Int))) H1 <
 mu x x1 x2 H1))) ∧
 ((x2 == (9 : Int) && decide ((↑b.toNat : Int) > (1 : Int))) = false →
 ((decide (x2 > (0 : Int)) && (↑b.toNat : Int) == (0 : Int)) = true →
 K (Value.tuple #[Value.int IntKind.u64 (0 : Int), Value.int IntKind.i64 (0 : Int), Value.int IntKind.i64 (3 : Int)]) H1) ∧
 ((decide (x2 > (0 : Int)) && (↑b.toNat : Int) == (0 : Int)) = false →
 (decide ((↑b.toNat : Int) < (128 : Int)) = true →
 (0 : Int) ≤ IntKind.i64.wrap ((7 : Int) * x2) ∧
 K
 (Value.tuple
 #[Value.int IntKind.u64
 (bitsI BinOp.or IntKind.u64 x
 (IntKind.u64.wrap (IntKind.u64.wrap (↑b.toNat : Int) * (2 : Int) ^ shAmt IntKind.u64 (IntKind.i64.wrap ((7 : Int) * x2))))),
 Value.int IntKind.i64 (IntKind.i64.wrap (x2 + (1 : Int))), Value.int IntKind.i64 (0 : Int)])
 H1) ∧
 (decide ((↑b.toNat : Int) < (128 : Int)) = false →
 (0 : Int) ≤ IntKind.i64.wrap ((7 : Int) * x2) ∧
 Rel
 (bitsI BinOp.or IntKind.u64 x
 (IntKind.u64.wrap
 (IntKind.u64.wrap (bitsI BinOp.and IntKind.u8 (↑b.toNat : Int) (127 : Int)) *
 (2 : Int) ^ shAmt IntKind.u64 (IntKind.i64.wrap ((7 : Int) * x2)))))
 x1 (IntKind.i64.wrap (x2 + (1 : Int))) H1 ∧
 mu
 (bitsI BinOp.or IntKind.u64 x
 (IntKind.u64.wrap
 (IntKind.u64.wrap (bitsI BinOp.and IntKind.u8 (↑b.toNat : Int) (127 : Int)) *
 (2 : Int) ^ shAmt IntKind.u64 (IntKind.i64.wrap ((7 : Int) * x2)))))
 x1 (IntKind.i64.wrap (x2 + (1 : Int))) H1 <
 mu x x1 x2 H1)))) ∧
 (decide (x2 < (↑s.size : Int)) = false → K (Value.tuple #[Value.int IntKind.u64 (0 : Int), Value.int IntKind.i64 (0 : Int), Value.int IntKind.i64 x1]) H1)
theorem v49 {s : ByteArray} {H : Heap} {K : Value → Heap → Prop} (h : F49 s H K) : Tr Try.prog 49 #[.string s] H K :=
  tr_of_eq (C := c49) Try.func49 (show vcFn c49 Try.f49 [.string s] H K = F49 s H K by kernel_rfl) h

/- tapestry/codec.TakeInt -/
noncomputable def c50 : Cx := { P := Try.prog, res := [], pub := [], loops := [], quiet := [49] }
def F50 (s : ByteArray) (H : Heap) (K : Value → Heap → Prop) : Prop :=
 ∃ (x : Int),
 ∃ (x1 : Int),
 ∃ (x2 : Int),
 (Tr Try.prog (49 : Nat) #[Value.string s] H fun (v : Value) (H' : Heap) =>
 v = Value.tuple #[Value.int IntKind.u64 x, Value.int IntKind.i64 x1, Value.int IntKind.i64 x2] ∧ Ax.Sub H H') ∧
 (0 : Int) ≤ (1 : Int) ∧
 K
 (Value.tuple
 #[Value.int IntKind.i64
 (bitsI BinOp.xor IntKind.i64 (IntKind.i64.wrap (x.fdiv ((2 : Int) ^ shAmt IntKind.u64 (1 : Int))))
 (IntKind.i64.wrap ((0 : Int) - IntKind.i64.wrap (bitsI BinOp.and IntKind.u64 x (1 : Int))))),
 Value.int IntKind.i64 x1, Value.int IntKind.i64 x2])
 H
theorem v50 {s : ByteArray} {H : Heap} {K : Value → Heap → Prop} (h : F50 s H K) : Tr Try.prog 50 #[.string s] H K :=
  tr_of_eq (C := c50) Try.func50 (show vcFn c50 Try.f50 [.string s] H K = F50 s H K by kernel_rfl) h

/- tapestry/tapestryref01.TakeUint -/
noncomputable def c52 : Cx := { P := Try.prog, res := [], pub := [], loops := [⟨4, [(5, .int .u64), (6, .int .u64), (7, .int .i64)], [2, 3, 4, 8, 9, 10, 11, 12, 13, 14, 15, 16, 17, 18, 19, 20, 21, 22, 23, 24, 25, 26, 27, 28, 29, 30, 31, 32, 33, 34, 35, 36, 37, 38, 39, 40, 41, 42, 43, 44, 45], []⟩], quiet := [] }
def F52 (s : ByteArray) (H : Heap) (K : Value → Heap → Prop) : Prop :=
 ∃ (Rel : Int → Int → Int → Heap → Prop),
 ∃ (mu : Int → Int → Int → Heap → Nat),
 Rel (0 : Int) (1 : Int) (0 : Int) H ∧
 ∀ (x x1 x2 : Int) (H1 : Heap),
 Rel x x1 x2 H1 →
 (decide (x2 < (↑s.size : Int)) = true →
 ∃ (b : UInt8),
 bAt s x2 b ∧
 ((x2 == (9 : Int) && decide (IntKind.u64.wrap (↑b.toNat : Int) > (1 : Int)) || decide (x2 > (0 : Int)) && IntKind.u64.wrap (↑b.toNat : Int) == (0 : Int)) = true →
 K (Value.tuple #[Value.int IntKind.u64 (0 : Int), Value.int IntKind.i64 (0 : Int), Value.int IntKind.i64 (3 : Int)]) H1) ∧
 ((x2 == (9 : Int) && decide (IntKind.u64.wrap (↑b.toNat : Int) > (1 : Int)) || decide (x2 > (0 : Int)) && IntKind.u64.wrap (↑b.toNat : Int) == (0 : Int)) =
 false →
 (128 : Int) ≠ (0 : Int) ∧
 (decide (IntKind.u64.wrap (↑b.toNat : Int) < (128 : Int)) = true →
 K
 (Value.tuple
 #[Value.int IntKind.u64 (IntKind.u64.wrap (x + IntKind.u64.wrap ((IntKind.u64.wrap (↑b.toNat : Int)).tmod (128 : Int) * x1))),
 Value.int IntKind.i64 (IntKind.i64.wrap (x2 + (1 : Int))), Value.int IntKind.i64 (0 : Int)])
 H1) ∧
 (decide (IntKind.u64.wrap (↑b.toNat : Int) < (128 : Int)) = false →
 Rel (IntKind.u64.wrap (x + IntKind.u64.wrap ((IntKind.u64.wrap (↑b.toNat : Int)).tmod (128 : Int) * x1))) (IntKind.u64.wrap (x1 * (128 : Int)))
 (IntKind.i64.wrap (x2 + (1 : Int))) H1 ∧
 mu (IntKind.u64.wrap (x + IntKind.u64.wrap ((IntKind.u64.wrap (↑b.toNat : Int)).tmod (128 : Int) * x1))) (IntKind.u64.wrap (x1 * (128 : Int)))
 (IntKind.i64.wrap (x2 + (1 : Int))) H1 <
 mu x x1 x2 H1))) ∧
 (decide (x2 < (↑s.size : Int)) = false → K (Value.tuple #[Value.int IntKind.u64 (0 : Int), Value.int IntKind.i64 (0 : Int), Value.int IntKind.i64 (2 : Int)]) H1)
theorem v52 {s : ByteArray} {H : Heap} {K : Value → Heap → Prop} (h : F52 s H K) : Tr Try.prog 52 #[.string s] H K :=
  tr_of_eq (C := c52) Try.func52 (show vcFn c52 Try.f52 [.string s] H K = F52 s H K by kernel_rfl) h

/- tapestry/tapestryref01.TakeInt -/
noncomputable def c53 : Cx := { P := Try.prog, res := [], pub := [], loops := [], quiet := [52] }
def F53 (s : ByteArray) (H : Heap) (K : Value → Heap → Prop) : Prop :=
 ∃ (x : Int),
 ∃ (x1 : Int),
 ∃ (x2 : Int),
 (Tr Try.prog (52 : Nat) #[Value.string s] H fun (v : Value) (H' : Heap) =>
 v = Value.tuple #[Value.int IntKind.u64 x, Value.int IntKind.i64 x1, Value.int IntKind.i64 x2] ∧ Ax.Sub H H') ∧
 (2 : Int) ≠ (0 : Int) ∧
 ((x.tmod (2 : Int) == (1 : Int)) = true →
 (2 : Int) ≠ (0 : Int) ∧
 K
 (Value.tuple
 #[Value.int IntKind.i64 (IntKind.i64.wrap (IntKind.i64.wrap ((0 : Int) - IntKind.i64.wrap (IntKind.u64.wrap (x.tdiv (2 : Int)))) - (1 : Int))),
 Value.int IntKind.i64 x1, Value.int IntKind.i64 x2])
 H) ∧
 ((x.tmod (2 : Int) == (1 : Int)) = false →
 (2 : Int) ≠ (0 : Int) ∧
 K (Value.tuple #[Value.int IntKind.i64 (IntKind.i64.wrap (IntKind.u64.wrap (x.tdiv (2 : Int)))), Value.int IntKind.i64 x1, Value.int IntKind.i64 x2]) H)
theorem v53 {s : ByteArray} {H : Heap} {K : Value → Heap → Prop} (h : F53 s H K) : Tr Try.prog 53 #[.string s] H K :=
  tr_of_eq (C := c53) Try.func53 (show vcFn c53 Try.f53 [.string s] H K = F53 s H K by kernel_rfl) h

/- tapestry/tapestryref14.Fields -/
noncomputable def c21 : Cx := { P := Try.prog, res := [], pub := [4], loops := [], quiet := [] }
def F21 (kind : Int) (H : Heap) (K : Value → Heap → Prop) : Prop :=
 ∀ (b : Nat),
 H b = none →
 ((decide (kind < (1 : Int)) || decide (kind > (31 : Int))) = true →
 K (Value.int IntKind.i64 (-1 : Int))
 (H.upd b
 (Obj.cells
 #[Value.int IntKind.i64 (-1 : Int), Value.int IntKind.i64 (6 : Int), Value.int IntKind.i64 (1 : Int), Value.int IntKind.i64 (2 : Int),
 Value.int IntKind.i64 (1 : Int), Value.int IntKind.i64 (2 : Int), Value.int IntKind.i64 (1 : Int), Value.int IntKind.i64 (1 : Int), Value.int IntKind.i64 (1 : Int),
 Value.int IntKind.i64 (3 : Int), Value.int IntKind.i64 (2 : Int), Value.int IntKind.i64 (1 : Int), Value.int IntKind.i64 (1 : Int), Value.int IntKind.i64 (2 : Int),
 Value.int IntKind.i64 (3 : Int), Value.int IntKind.i64 (1 : Int), Value.int IntKind.i64 (1 : Int), Value.int IntKind.i64 (1 : Int), Value.int IntKind.i64 (2 : Int),
 Value.int IntKind.i64 (3 : Int), Value.int IntKind.i64 (1 : Int), Value.int IntKind.i64 (3 : Int), Value.int IntKind.i64 (3 : Int), Value.int IntKind.i64 (3 : Int),
 Value.int IntKind.i64 (3 : Int), Value.int IntKind.i64 (1 : Int), Value.int IntKind.i64 (2 : Int), Value.int IntKind.i64 (2 : Int), Value.int IntKind.i64 (3 : Int),
 Value.int IntKind.i64 (2 : Int), Value.int IntKind.i64 (1 : Int), Value.int IntKind.i64 (0 : Int)]
 (3 : Nat)))) ∧
 ((decide (kind < (1 : Int)) || decide (kind > (31 : Int))) = false →
 ∃ (a : Addr),
 (some ({ block := b, off := (0 : Nat) } : Addr) = some a ∧ (0 : Int) ≤ kind ∧ kind < (↑(32 : Nat) : Int)) ∧
 ∃ (x : Int),
 At
 (H.upd b
 (Obj.cells
 #[Value.int IntKind.i64 (-1 : Int), Value.int IntKind.i64 (6 : Int), Value.int IntKind.i64 (1 : Int), Value.int IntKind.i64 (2 : Int),
 Value.int IntKind.i64 (1 : Int), Value.int IntKind.i64 (2 : Int), Value.int IntKind.i64 (1 : Int), Value.int IntKind.i64 (1 : Int),
 Value.int IntKind.i64 (1 : Int), Value.int IntKind.i64 (3 : Int), Value.int IntKind.i64 (2 : Int), Value.int IntKind.i64 (1 : Int),
 Value.int IntKind.i64 (1 : Int), Value.int IntKind.i64 (2 : Int), Value.int IntKind.i64 (3 : Int), Value.int IntKind.i64 (1 : Int),
 Value.int IntKind.i64 (1 : Int), Value.int IntKind.i64 (1 : Int), Value.int IntKind.i64 (2 : Int), Value.int IntKind.i64 (3 : Int),
 Value.int IntKind.i64 (1 : Int), Value.int IntKind.i64 (3 : Int), Value.int IntKind.i64 (3 : Int), Value.int IntKind.i64 (3 : Int),
 Value.int IntKind.i64 (3 : Int), Value.int IntKind.i64 (1 : Int), Value.int IntKind.i64 (2 : Int), Value.int IntKind.i64 (2 : Int),
 Value.int IntKind.i64 (3 : Int), Value.int IntKind.i64 (2 : Int), Value.int IntKind.i64 (1 : Int), Value.int IntKind.i64 (0 : Int)]
 (3 : Nat)))
 (a.add (kind.toNat * nat_lit 1)) [Value.int IntKind.i64 x] ∧
 K (Value.int IntKind.i64 x)
 (H.upd b
 (Obj.cells
 #[Value.int IntKind.i64 (-1 : Int), Value.int IntKind.i64 (6 : Int), Value.int IntKind.i64 (1 : Int), Value.int IntKind.i64 (2 : Int),
 Value.int IntKind.i64 (1 : Int), Value.int IntKind.i64 (2 : Int), Value.int IntKind.i64 (1 : Int), Value.int IntKind.i64 (1 : Int),
 Value.int IntKind.i64 (1 : Int), Value.int IntKind.i64 (3 : Int), Value.int IntKind.i64 (2 : Int), Value.int IntKind.i64 (1 : Int),
 Value.int IntKind.i64 (1 : Int), Value.int IntKind.i64 (2 : Int), Value.int IntKind.i64 (3 : Int), Value.int IntKind.i64 (1 : Int),
 Value.int IntKind.i64 (1 : Int), Value.int IntKind.i64 (1 : Int), Value.int IntKind.i64 (2 : Int), Value.int IntKind.i64 (3 : Int),
 Value.int IntKind.i64 (1 : Int), Value.int IntKind.i64 (3 : Int), Value.int IntKind.i64 (3 : Int), Value.int IntKind.i64 (3 : Int),
 Value.int IntKind.i64 (3 : Int), Value.int IntKind.i64 (1 : Int), Value.int IntKind.i64 (2 : Int), Value.int IntKind.i64 (2 : Int),
 Value.int IntKind.i64 (3 : Int), Value.int IntKind.i64 (2 : Int), Value.int IntKind.i64 (1 : Int), Value.int IntKind.i64 (0 : Int)]
 (3 : Nat))))
theorem v21 {kind : Int} {H : Heap} {K : Value → Heap → Prop} (h : F21 kind H K) : Tr Try.prog 21 #[.int .i64 kind] H K :=
  tr_of_eq (C := c21) Try.func21 (show vcFn c21 Try.f21 [.int .i64 kind] H K = F21 kind H K by kernel_rfl) h

/- tapestry/event.Fields -/
noncomputable def c20 : Cx := { P := Try.prog, res := [], pub := [], loops := [], quiet := [] }
def F20 (kind : Int) (H : Heap) (K : Value → Heap → Prop) : Prop :=
 ((kind == (1 : Int)) = true → K (Value.int IntKind.i64 (6 : Int)) H) ∧
 ((kind == (1 : Int)) = false →
 ((kind == (9 : Int)) = true →
 ((kind == (9 : Int)) = true → K (Value.int IntKind.i64 (3 : Int)) H) ∧
 ((kind == (9 : Int)) = false →
 ((kind == (3 : Int)) = true →
 ((kind == (3 : Int)) = true → K (Value.int IntKind.i64 (2 : Int)) H) ∧
 ((kind == (3 : Int)) = false →
 ((kind == (31 : Int)) = true → K (Value.int IntKind.i64 (0 : Int)) H) ∧
 ((kind == (31 : Int)) = false →
 ((decide (kind < (1 : Int)) || decide (kind > (31 : Int))) = true → K (Value.int IntKind.i64 (-1 : Int)) H) ∧
 ((decide (kind < (1 : Int)) || decide (kind > (31 : Int))) = false → K (Value.int IntKind.i64 (1 : Int)) H)))) ∧
 ((kind == (3 : Int)) = false →
 ((kind == (5 : Int)) = true →
 ((kind == (5 : Int)) = true → K (Value.int IntKind.i64 (2 : Int)) H) ∧
 ((kind == (5 : Int)) = false →
 ((kind == (31 : Int)) = true → K (Value.int IntKind.i64 (0 : Int)) H) ∧
 ((kind == (31 : Int)) = false →
 ((decide (kind < (1 : Int)) || decide (kind > (31 : Int))) = true → K (Value.int IntKind.i64 (-1 : Int)) H) ∧
 ((decide (kind < (1 : Int)) || decide (kind > (31 : Int))) = false → K (Value.int IntKind.i64 (1 : Int)) H)))) ∧
 ((kind == (5 : Int)) = false →
 ((kind == (10 : Int)) = true →
 ((kind == (10 : Int)) = true → K (Value.int IntKind.i64 (2 : Int)) H) ∧
 ((kind == (10 : Int)) = false →
 ((kind == (31 : Int)) = true → K (Value.int IntKind.i64 (0 : Int)) H) ∧
 ((kind == (31 : Int)) = false →
 ((decide (kind < (1 : Int)) || decide (kind > (31 : Int))) = true → K (Value.int IntKind.i64 (-1 : Int)) H) ∧
 ((decide (kind < (1 : Int)) || decide (kind > (31 : Int))) = false → K (Value.int IntKind.i64 (1 : Int)) H)))) ∧
 ((kind == (10 : Int)) = false →
 ((kind == (13 : Int)) = true →
 ((kind == (13 : Int)) = true → K (Value.int IntKind.i64 (2 : Int)) H) ∧
 ((kind == (13 : Int)) = false →
 ((kind == (31 : Int)) = true → K (Value.int IntKind.i64 (0 : Int)) H) ∧
 ((kind == (31 : Int)) = false →
 ((decide (kind < (1 : Int)) || decide (kind > (31 : Int))) = true → K (Value.int IntKind.i64 (-1 : Int)) H) ∧
 ((decide (kind < (1 : Int)) || decide (kind > (31 : Int))) = false → K (Value.int IntKind.i64 (1 : Int)) H)))) ∧
 ((kind == (13 : Int)) = false →
 ((kind == (18 : Int)) = true →
 ((kind == (18 : Int)) = true → K (Value.int IntKind.i64 (2 : Int)) H) ∧
 ((kind == (18 : Int)) = false →
 ((kind == (31 : Int)) = true → K (Value.int IntKind.i64 (0 : Int)) H) ∧
 ((kind == (31 : Int)) = false →
 ((decide (kind < (1 : Int)) || decide (kind > (31 : Int))) = true → K (Value.int IntKind.i64 (-1 : Int)) H) ∧
 ((decide (kind < (1 : Int)) || decide (kind > (31 : Int))) = false → K (Value.int IntKind.i64 (1 : Int)) H)))) ∧
 ((kind == (18 : Int)) = false →
 ((kind == (26 : Int)) = true →
 ((kind == (26 : Int)) = true → K (Value.int IntKind.i64 (2 : Int)) H) ∧
 ((kind == (26 : Int)) = false →
 ((kind == (31 : Int)) = true → K (Value.int IntKind.i64 (0 : Int)) H) ∧
 ((kind == (31 : Int)) = false →
 ((decide (kind < (1 : Int)) || decide (kind > (31 : Int))) = true → K (Value.int IntKind.i64 (-1 : Int)) H) ∧
 ((decide (kind < (1 : Int)) || decide (kind > (31 : Int))) = false → K (Value.int IntKind.i64 (1 : Int)) H)))) ∧
 ((kind == (26 : Int)) = false →
 ((kind == (27 : Int)) = true →
 ((kind == (27 : Int)) = true → K (Value.int IntKind.i64 (2 : Int)) H) ∧
 ((kind == (27 : Int)) = false →
 ((kind == (31 : Int)) = true → K (Value.int IntKind.i64 (0 : Int)) H) ∧
 ((kind == (31 : Int)) = false →
 ((decide (kind < (1 : Int)) || decide (kind > (31 : Int))) = true → K (Value.int IntKind.i64 (-1 : Int)) H) ∧
 ((decide (kind < (1 : Int)) || decide (kind > (31 : Int))) = false → K (Value.int IntKind.i64 (1 : Int)) H)))) ∧
 ((kind == (27 : Int)) = false →
 ((kind == (29 : Int)) = true → K (Value.int IntKind.i64 (2 : Int)) H) ∧
 ((kind == (29 : Int)) = false →
 ((kind == (31 : Int)) = true → K (Value.int IntKind.i64 (0 : Int)) H) ∧
 ((kind == (31 : Int)) = false →
 ((decide (kind < (1 : Int)) || decide (kind > (31 : Int))) = true → K (Value.int IntKind.i64 (-1 : Int)) H) ∧
 ((decide (kind < (1 : Int)) || decide (kind > (31 : Int))) = false → K (Value.int IntKind.i64 (1 : Int)) H)))))))))))) ∧
 ((kind == (9 : Int)) = false →
 ((kind == (14 : Int)) = true →
 ((kind == (14 : Int)) = true → K (Value.int IntKind.i64 (3 : Int)) H) ∧
 ((kind == (14 : Int)) = false →
 ((kind == (3 : Int)) = true →
 ((kind == (3 : Int)) = true → K (Value.int IntKind.i64 (2 : Int)) H) ∧
 ((kind == (3 : Int)) = false →
 ((kind == (31 : Int)) = true → K (Value.int IntKind.i64 (0 : Int)) H) ∧
 ((kind == (31 : Int)) = false →
 ((decide (kind < (1 : Int)) || decide (kind > (31 : Int))) = true → K (Value.int IntKind.i64 (-1 : Int)) H) ∧
 ((decide (kind < (1 : Int)) || decide (kind > (31 : Int))) = false → K (Value.int IntKind.i64 (1 : Int)) H)))) ∧
 ((kind == (3 : Int)) = false →
 ((kind == (5 : Int)) = true →
 ((kind == (5 : Int)) = true → K (Value.int IntKind.i64 (2 : Int)) H) ∧
 ((kind == (5 : Int)) = false →
 ((kind == (31 : Int)) = true → K (Value.int IntKind.i64 (0 : Int)) H) ∧
 ((kind == (31 : Int)) = false →
 ((decide (kind < (1 : Int)) || decide (kind > (31 : Int))) = true → K (Value.int IntKind.i64 (-1 : Int)) H) ∧
 ((decide (kind < (1 : Int)) || decide (kind > (31 : Int))) = false → K (Value.int IntKind.i64 (1 : Int)) H)))) ∧
 ((kind == (5 : Int)) = false →
 ((kind == (10 : Int)) = true →
 ((kind == (10 : Int)) = true → K (Value.int IntKind.i64 (2 : Int)) H) ∧
 ((kind == (10 : Int)) = false →
 ((kind == (31 : Int)) = true → K (Value.int IntKind.i64 (0 : Int)) H) ∧
 ((kind == (31 : Int)) = false →
 ((decide (kind < (1 : Int)) || decide (kind > (31 : Int))) = true → K (Value.int IntKind.i64 (-1 : Int)) H) ∧
 ((decide (kind < (1 : Int)) || decide (kind > (31 : Int))) = false → K (Value.int IntKind.i64 (1 : Int)) H)))) ∧
 ((kind == (10 : Int)) = false →
 ((kind == (13 : Int)) = true →
 ((kind == (13 : Int)) = true → K (Value.int IntKind.i64 (2 : Int)) H) ∧
 ((kind == (13 : Int)) = false →
 ((kind == (31 : Int)) = true → K (Value.int IntKind.i64 (0 : Int)) H) ∧
 ((kind == (31 : Int)) = false →
 ((decide (kind < (1 : Int)) || decide (kind > (31 : Int))) = true → K (Value.int IntKind.i64 (-1 : Int)) H) ∧
 ((decide (kind < (1 : Int)) || decide (kind > (31 : Int))) = false → K (Value.int IntKind.i64 (1 : Int)) H)))) ∧
 ((kind == (13 : Int)) = false →
 ((kind == (18 : Int)) = true →
 ((kind == (18 : Int)) = true → K (Value.int IntKind.i64 (2 : Int)) H) ∧
 ((kind == (18 : Int)) = false →
 ((kind == (31 : Int)) = true → K (Value.int IntKind.i64 (0 : Int)) H) ∧
 ((kind == (31 : Int)) = false →
 ((decide (kind < (1 : Int)) || decide (kind > (31 : Int))) = true → K (Value.int IntKind.i64 (-1 : Int)) H) ∧
 ((decide (kind < (1 : Int)) || decide (kind > (31 : Int))) = false → K (Value.int IntKind.i64 (1 : Int)) H)))) ∧
 ((kind == (18 : Int)) = false →
 ((kind == (26 : Int)) = true →
 ((kind == (26 : Int)) = true → K (Value.int IntKind.i64 (2 : Int)) H) ∧
 ((kind == (26 : Int)) = false →
 ((kind == (31 : Int)) = true → K (Value.int IntKind.i64 (0 : Int)) H) ∧
 ((kind == (31 : Int)) = false →
 ((decide (kind < (1 : Int)) || decide (kind > (31 : Int))) = true → K (Value.int IntKind.i64 (-1 : Int)) H) ∧
 ((decide (kind < (1 : Int)) || decide (kind > (31 : Int))) = false → K (Value.int IntKind.i64 (1 : Int)) H)))) ∧
 ((kind == (26 : Int)) = false →
 ((kind == (27 : Int)) = true →
 ((kind == (27 : Int)) = true → K (Value.int IntKind.i64 (2 : Int)) H) ∧
 ((kind == (27 : Int)) = false →
 ((kind == (31 : Int)) = true → K (Value.int IntKind.i64 (0 : Int)) H) ∧
 ((kind == (31 : Int)) = false →
 ((decide (kind < (1 : Int)) || decide (kind > (31 : Int))) = true → K (Value.int IntKind.i64 (-1 : Int)) H) ∧
 ((decide (kind < (1 : Int)) || decide (kind > (31 : Int))) = false → K (Value.int IntKind.i64 (1 : Int)) H)))) ∧
 ((kind == (27 : Int)) = false →
 ((kind == (29 : Int)) = true → K (Value.int IntKind.i64 (2 : Int)) H) ∧
 ((kind == (29 : Int)) = false →
 ((kind == (31 : Int)) = true → K (Value.int IntKind.i64 (0 : Int)) H) ∧
 ((kind == (31 : Int)) = false →
 ((decide (kind < (1 : Int)) || decide (kind > (31 : Int))) = true → K (Value.int IntKind.i64 (-1 : Int)) H) ∧
 ((decide (kind < (1 : Int)) || decide (kind > (31 : Int))) = false → K (Value.int IntKind.i64 (1 : Int)) H)))))))))))) ∧
 ((kind == (14 : Int)) = false →
 ((kind == (19 : Int)) = true →
 ((kind == (19 : Int)) = true → K (Value.int IntKind.i64 (3 : Int)) H) ∧
 ((kind == (19 : Int)) = false →
 ((kind == (3 : Int)) = true →
 ((kind == (3 : Int)) = true → K (Value.int IntKind.i64 (2 : Int)) H) ∧
 ((kind == (3 : Int)) = false →
 ((kind == (31 : Int)) = true → K (Value.int IntKind.i64 (0 : Int)) H) ∧
 ((kind == (31 : Int)) = false →
 ((decide (kind < (1 : Int)) || decide (kind > (31 : Int))) = true → K (Value.int IntKind.i64 (-1 : Int)) H) ∧
 ((decide (kind < (1 : Int)) || decide (kind > (31 : Int))) = false → K (Value.int IntKind.i64 (1 : Int)) H)))) ∧
 ((kind == (3 : Int)) = false →
 ((kind == (5 : Int)) = true →
 ((kind == (5 : Int)) = true → K (Value.int IntKind.i64 (2 : Int)) H) ∧
 ((kind == (5 : Int)) = false →
 ((kind == (31 : Int)) = true → K (Value.int IntKind.i64 (0 : Int)) H) ∧
 ((kind == (31 : Int)) = false →
 ((decide (kind < (1 : Int)) || decide (kind > (31 : Int))) = true → K (Value.int IntKind.i64 (-1 : Int)) H) ∧
 ((decide (kind < (1 : Int)) || decide (kind > (31 : Int))) = false → K (Value.int IntKind.i64 (1 : Int)) H)))) ∧
 ((kind == (5 : Int)) = false →
 ((kind == (10 : Int)) = true →
 ((kind == (10 : Int)) = true → K (Value.int IntKind.i64 (2 : Int)) H) ∧
 ((kind == (10 : Int)) = false →
 ((kind == (31 : Int)) = true → K (Value.int IntKind.i64 (0 : Int)) H) ∧
 ((kind == (31 : Int)) = false →
 ((decide (kind < (1 : Int)) || decide (kind > (31 : Int))) = true → K (Value.int IntKind.i64 (-1 : Int)) H) ∧
 ((decide (kind < (1 : Int)) || decide (kind > (31 : Int))) = false → K (Value.int IntKind.i64 (1 : Int)) H)))) ∧
 ((kind == (10 : Int)) = false →
 ((kind == (13 : Int)) = true →
 ((kind == (13 : Int)) = true → K (Value.int IntKind.i64 (2 : Int)) H) ∧
 ((kind == (13 : Int)) = false →
 ((kind == (31 : Int)) = true → K (Value.int IntKind.i64 (0 : Int)) H) ∧
 ((kind == (31 : Int)) = false →
 ((decide (kind < (1 : Int)) || decide (kind > (31 : Int))) = true → K (Value.int IntKind.i64 (-1 : Int)) H) ∧
 ((decide (kind < (1 : Int)) || decide (kind > (31 : Int))) = false → K (Value.int IntKind.i64 (1 : Int)) H)))) ∧
 ((kind == (13 : Int)) = false →
 ((kind == (18 : Int)) = true →
 ((kind == (18 : Int)) = true → K (Value.int IntKind.i64 (2 : Int)) H) ∧
 ((kind == (18 : Int)) = false →
 ((kind == (31 : Int)) = true → K (Value.int IntKind.i64 (0 : Int)) H) ∧
 ((kind == (31 : Int)) = false →
 ((decide (kind < (1 : Int)) || decide (kind > (31 : Int))) = true → K (Value.int IntKind.i64 (-1 : Int)) H) ∧
 ((decide (kind < (1 : Int)) || decide (kind > (31 : Int))) = false → K (Value.int IntKind.i64 (1 : Int)) H)))) ∧
 ((kind == (18 : Int)) = false →
 ((kind == (26 : Int)) = true →
 ((kind == (26 : Int)) = true → K (Value.int IntKind.i64 (2 : Int)) H) ∧
 ((kind == (26 : Int)) = false →
 ((kind == (31 : Int)) = true → K (Value.int IntKind.i64 (0 : Int)) H) ∧
 ((kind == (31 : Int)) = false →
 ((decide (kind < (1 : Int)) || decide (kind > (31 : Int))) = true → K (Value.int IntKind.i64 (-1 : Int)) H) ∧
 ((decide (kind < (1 : Int)) || decide (kind > (31 : Int))) = false → K (Value.int IntKind.i64 (1 : Int)) H)))) ∧
 ((kind == (26 : Int)) = false →
 ((kind == (27 : Int)) = true →
 ((kind == (27 : Int)) = true → K (Value.int IntKind.i64 (2 : Int)) H) ∧
 ((kind == (27 : Int)) = false →
 ((kind == (31 : Int)) = true → K (Value.int IntKind.i64 (0 : Int)) H) ∧
 ((kind == (31 : Int)) = false →
 ((decide (kind < (1 : Int)) || decide (kind > (31 : Int))) = true → K (Value.int IntKind.i64 (-1 : Int)) H) ∧
 ((decide (kind < (1 : Int)) || decide (kind > (31 : Int))) = false → K (Value.int IntKind.i64 (1 : Int)) H)))) ∧
 ((kind == (27 : Int)) = false →
 ((kind == (29 : Int)) = true → K (Value.int IntKind.i64 (2 : Int)) H) ∧
 ((kind == (29 : Int)) = false →
 ((kind == (31 : Int)) = true → K (Value.int IntKind.i64 (0 : Int)) H) ∧
 ((kind == (31 : Int)) = false →
 ((decide (kind < (1 : Int)) || decide (kind > (31 : Int))) = true → K (Value.int IntKind.i64 (-1 : Int)) H) ∧
 ((decide (kind < (1 : Int)) || decide (kind > (31 : Int))) = false → K (Value.int IntKind.i64 (1 : Int)) H)))))))))))) ∧
 ((kind == (19 : Int)) = false →
 ((kind == (21 : Int)) = true →
 ((kind == (21 : Int)) = true → K (Value.int IntKind.i64 (3 : Int)) H) ∧
 ((kind == (21 : Int)) = false →
 ((kind == (3 : Int)) = true →
 ((kind == (3 : Int)) = true → K (Value.int IntKind.i64 (2 : Int)) H) ∧
 ((kind == (3 : Int)) = false →
 ((kind == (31 : Int)) = true → K (Value.int IntKind.i64 (0 : Int)) H) ∧
 ((kind == (31 : Int)) = false →
 ((decide (kind < (1 : Int)) || decide (kind > (31 : Int))) = true → K (Value.int IntKind.i64 (-1 : Int)) H) ∧
 ((decide (kind < (1 : Int)) || decide (kind > (31 : Int))) = false → K (Value.int IntKind.i64 (1 : Int)) H)))) ∧
 ((kind == (3 : Int)) = false →
 ((kind == (5 : Int)) = true →
 ((kind == (5 : Int)) = true → K (Value.int IntKind.i64 (2 : Int)) H) ∧
 ((kind == (5 : Int)) = false →
 ((kind == (31 : Int)) = true → K (Value.int IntKind.i64 (0 : Int)) H) ∧
 ((kind == (31 : Int)) = false →
 ((decide (kind < (1 : Int)) || decide (kind > (31 : Int))) = true → K (Value.int IntKind.i64 (-1 : Int)) H) ∧
 ((decide (kind < (1 : Int)) || decide (kind > (31 : Int))) = false → K (Value.int IntKind.i64 (1 : Int)) H)))) ∧
 ((kind == (5 : Int)) = false →
 ((kind == (10 : Int)) = true →
 ((kind == (10 : Int)) = true → K (Value.int IntKind.i64 (2 : Int)) H) ∧
 ((kind == (10 : Int)) = false →
 ((kind == (31 : Int)) = true → K (Value.int IntKind.i64 (0 : Int)) H) ∧
 ((kind == (31 : Int)) = false →
 ((decide (kind < (1 : Int)) || decide (kind > (31 : Int))) = true → K (Value.int IntKind.i64 (-1 : Int)) H) ∧
 ((decide (kind < (1 : Int)) || decide (kind > (31 : Int))) = false → K (Value.int IntKind.i64 (1 : Int)) H)))) ∧
 ((kind == (10 : Int)) = false →
 ((kind == (13 : Int)) = true →
 ((kind == (13 : Int)) = true → K (Value.int IntKind.i64 (2 : Int)) H) ∧
 ((kind == (13 : Int)) = false →
 ((kind == (31 : Int)) = true → K (Value.int IntKind.i64 (0 : Int)) H) ∧
 ((kind == (31 : Int)) = false →
 ((decide (kind < (1 : Int)) || decide (kind > (31 : Int))) = true → K (Value.int IntKind.i64 (-1 : Int)) H) ∧
 ((decide (kind < (1 : Int)) || decide (kind > (31 : Int))) = false → K (Value.int IntKind.i64 (1 : Int)) H)))) ∧
 ((kind == (13 : Int)) = false →
 ((kind == (18 : Int)) = true →
 ((kind == (18 : Int)) = true → K (Value.int IntKind.i64 (2 : Int)) H) ∧
 ((kind == (18 : Int)) = false →
 ((kind == (31 : Int)) = true → K (Value.int IntKind.i64 (0 : Int)) H) ∧
 ((kind == (31 : Int)) = false →
 ((decide (kind < (1 : Int)) || decide (kind > (31 : Int))) = true → K (Value.int IntKind.i64 (-1 : Int)) H) ∧
 ((decide (kind < (1 : Int)) || decide (kind > (31 : Int))) = false → K (Value.int IntKind.i64 (1 : Int)) H)))) ∧
 ((kind == (18 : Int)) = false →
 ((kind == (26 : Int)) = true →
 ((kind == (26 : Int)) = true → K (Value.int IntKind.i64 (2 : Int)) H) ∧
 ((kind == (26 : Int)) = false →
 ((kind == (31 : Int)) = true → K (Value.int IntKind.i64 (0 : Int)) H) ∧
 ((kind == (31 : Int)) = false →
 ((decide (kind < (1 : Int)) || decide (kind > (31 : Int))) = true → K (Value.int IntKind.i64 (-1 : Int)) H) ∧
 ((decide (kind < (1 : Int)) || decide (kind > (31 : Int))) = false → K (Value.int IntKind.i64 (1 : Int)) H)))) ∧
 ((kind == (26 : Int)) = false →
 ((kind == (27 : Int)) = true →
 ((kind == (27 : Int)) = true → K (Value.int IntKind.i64 (2 : Int)) H) ∧
 ((kind == (27 : Int)) = false →
 ((kind == (31 : Int)) = true → K (Value.int IntKind.i64 (0 : Int)) H) ∧
 ((kind == (31 : Int)) = false →
 ((decide (kind < (1 : Int)) || decide (kind > (31 : Int))) = true → K (Value.int IntKind.i64 (-1 : Int)) H) ∧
 ((decide (kind < (1 : Int)) || decide (kind > (31 : Int))) = false → K (Value.int IntKind.i64 (1 : Int)) H)))) ∧
 ((kind == (27 : Int)) = false →
 ((kind == (29 : Int)) = true → K (Value.int IntKind.i64 (2 : Int)) H) ∧
 ((kind == (29 : Int)) = false →
 ((kind == (31 : Int)) = true → K (Value.int IntKind.i64 (0 : Int)) H) ∧
 ((kind == (31 : Int)) = false →
 ((decide (kind < (1 : Int)) || decide (kind > (31 : Int))) = true → K (Value.int IntKind.i64 (-1 : Int)) H) ∧
 ((decide (kind < (1 : Int)) || decide (kind > (31 : Int))) = false →
 K (Value.int IntKind.i64 (1 : Int)) H)))))))))))) ∧
 ((kind == (21 : Int)) = false →
 ((kind == (22 : Int)) = true →
 ((kind == (22 : Int)) = true → K (Value.int IntKind.i64 (3 : Int)) H) ∧
 ((kind == (22 : Int)) = false →
 ((kind == (3 : Int)) = true →
 ((kind == (3 : Int)) = true → K (Value.int IntKind.i64 (2 : Int)) H) ∧
 ((kind == (3 : Int)) = false →
 ((kind == (31 : Int)) = true → K (Value.int IntKind.i64 (0 : Int)) H) ∧
 ((kind == (31 : Int)) = false →
 ((decide (kind < (1 : Int)) || decide (kind > (31 : Int))) = true → K (Value.int IntKind.i64 (-1 : Int)) H) ∧
 ((decide (kind < (1 : Int)) || decide (kind > (31 : Int))) = false → K (Value.int IntKind.i64 (1 : Int)) H)))) ∧
 ((kind == (3 : Int)) = false →
 ((kind == (5 : Int)) = true →
 ((kind == (5 : Int)) = true → K (Value.int IntKind.i64 (2 : Int)) H) ∧
 ((kind == (5 : Int)) = false →
 ((kind == (31 : Int)) = true → K (Value.int IntKind.i64 (0 : Int)) H) ∧
 ((kind == (31 : Int)) = false →
 ((decide (kind < (1 : Int)) || decide (kind > (31 : Int))) = true → K (Value.int IntKind.i64 (-1 : Int)) H) ∧
 ((decide (kind < (1 : Int)) || decide (kind > (31 : Int))) = false → K (Value.int IntKind.i64 (1 : Int)) H)))) ∧
 ((kind == (5 : Int)) = false →
 ((kind == (10 : Int)) = true →
 ((kind == (10 : Int)) = true → K (Value.int IntKind.i64 (2 : Int)) H) ∧
 ((kind == (10 : Int)) = false →
 ((kind == (31 : Int)) = true → K (Value.int IntKind.i64 (0 : Int)) H) ∧
 ((kind == (31 : Int)) = false →
 ((decide (kind < (1 : Int)) || decide (kind > (31 : Int))) = true → K (Value.int IntKind.i64 (-1 : Int)) H) ∧
 ((decide (kind < (1 : Int)) || decide (kind > (31 : Int))) = false → K (Value.int IntKind.i64 (1 : Int)) H)))) ∧
 ((kind == (10 : Int)) = false →
 ((kind == (13 : Int)) = true →
 ((kind == (13 : Int)) = true → K (Value.int IntKind.i64 (2 : Int)) H) ∧
 ((kind == (13 : Int)) = false →
 ((kind == (31 : Int)) = true → K (Value.int IntKind.i64 (0 : Int)) H) ∧
 ((kind == (31 : Int)) = false →
 ((decide (kind < (1 : Int)) || decide (kind > (31 : Int))) = true → K (Value.int IntKind.i64 (-1 : Int)) H) ∧
 ((decide (kind < (1 : Int)) || decide (kind > (31 : Int))) = false → K (Value.int IntKind.i64 (1 : Int)) H)))) ∧
 ((kind == (13 : Int)) = false →
 ((kind == (18 : Int)) = true →
 ((kind == (18 : Int)) = true → K (Value.int IntKind.i64 (2 : Int)) H) ∧
 ((kind == (18 : Int)) = false →
 ((kind == (31 : Int)) = true → K (Value.int IntKind.i64 (0 : Int)) H) ∧
 ((kind == (31 : Int)) = false →
 ((decide (kind < (1 : Int)) || decide (kind > (31 : Int))) = true → K (Value.int IntKind.i64 (-1 : Int)) H) ∧
 ((decide (kind < (1 : Int)) || decide (kind > (31 : Int))) = false → K (Value.int IntKind.i64 (1 : Int)) H)))) ∧
 ((kind == (18 : Int)) = false →
 ((kind == (26 : Int)) = true →
 ((kind == (26 : Int)) = true → K (Value.int IntKind.i64 (2 : Int)) H) ∧
 ((kind == (26 : Int)) = false →
 ((kind == (31 : Int)) = true → K (Value.int IntKind.i64 (0 : Int)) H) ∧
 ((kind == (31 : Int)) = false →
 ((decide (kind < (1 : Int)) || decide (kind > (31 : Int))) = true → K (Value.int IntKind.i64 (-1 : Int)) H) ∧
 ((decide (kind < (1 : Int)) || decide (kind > (31 : Int))) = false → K (Value.int IntKind.i64 (1 : Int)) H)))) ∧
 ((kind == (26 : Int)) = false →
 ((kind == (27 : Int)) = true →
 ((kind == (27 : Int)) = true → K (Value.int IntKind.i64 (2 : Int)) H) ∧
 ((kind == (27 : Int)) = false →
 ((kind == (31 : Int)) = true → K (Value.int IntKind.i64 (0 : Int)) H) ∧
 ((kind == (31 : Int)) = false →
 ((decide (kind < (1 : Int)) || decide (kind > (31 : Int))) = true → K (Value.int IntKind.i64 (-1 : Int)) H) ∧
 ((decide (kind < (1 : Int)) || decide (kind > (31 : Int))) = false → K (Value.int IntKind.i64 (1 : Int)) H)))) ∧
 ((kind == (27 : Int)) = false →
 ((kind == (29 : Int)) = true → K (Value.int IntKind.i64 (2 : Int)) H) ∧
 ((kind == (29 : Int)) = false →
 ((kind == (31 : Int)) = true → K (Value.int IntKind.i64 (0 : Int)) H) ∧
 ((kind == (31 : Int)) = false →
 ((decide (kind < (1 : Int)) || decide (kind > (31 : Int))) = true → K (Value.int IntKind.i64 (-1 : Int)) H) ∧
 ((decide (kind < (1 : Int)) || decide (kind > (31 : Int))) = false →
 K (Value.int IntKind.i64 (1 : Int)) H)))))))))))) ∧
 ((kind == (22 : Int)) = false →
 ((kind == (23 : Int)) = true →
 ((kind == (23 : Int)) = true → K (Value.int IntKind.i64 (3 : Int)) H) ∧
 ((kind == (23 : Int)) = false →
 ((kind == (3 : Int)) = true →
 ((kind == (3 : Int)) = true → K (Value.int IntKind.i64 (2 : Int)) H) ∧
 ((kind == (3 : Int)) = false →
 ((kind == (31 : Int)) = true → K (Value.int IntKind.i64 (0 : Int)) H) ∧
 ((kind == (31 : Int)) = false →
 ((decide (kind < (1 : Int)) || decide (kind > (31 : Int))) = true → K (Value.int IntKind.i64 (-1 : Int)) H) ∧
 ((decide (kind < (1 : Int)) || decide (kind > (31 : Int))) = false → K (Value.int IntKind.i64 (1 : Int)) H)))) ∧
 ((kind == (3 : Int)) = false →
 ((kind == (5 : Int)) = true →
 ((kind == (5 : Int)) = true → K (Value.int IntKind.i64 (2 : Int)) H) ∧
 ((kind == (5 : Int)) = false →
 ((kind == (31 : Int)) = true → K (Value.int IntKind.i64 (0 : Int)) H) ∧
 ((kind == (31 : Int)) = false →
 ((decide (kind < (1 : Int)) || decide (kind > (31 : Int))) = true → K (Value.int IntKind.i64 (-1 : Int)) H) ∧
 ((decide (kind < (1 : Int)) || decide (kind > (31 : Int))) = false → K (Value.int IntKind.i64 (1 : Int)) H)))) ∧
 ((kind == (5 : Int)) = false →
 ((kind == (10 : Int)) = true →
 ((kind == (10 : Int)) = true → K (Value.int IntKind.i64 (2 : Int)) H) ∧
 ((kind == (10 : Int)) = false →
 ((kind == (31 : Int)) = true → K (Value.int IntKind.i64 (0 : Int)) H) ∧
 ((kind == (31 : Int)) = false →
 ((decide (kind < (1 : Int)) || decide (kind > (31 : Int))) = true → K (Value.int IntKind.i64 (-1 : Int)) H) ∧
 ((decide (kind < (1 : Int)) || decide (kind > (31 : Int))) = false → K (Value.int IntKind.i64 (1 : Int)) H)))) ∧
 ((kind == (10 : Int)) = false →
 ((kind == (13 : Int)) = true →
 ((kind == (13 : Int)) = true → K (Value.int IntKind.i64 (2 : Int)) H) ∧
 ((kind == (13 : Int)) = false →
 ((kind == (31 : Int)) = true → K (Value.int IntKind.i64 (0 : Int)) H) ∧
 ((kind == (31 : Int)) = false →
 ((decide (kind < (1 : Int)) || decide (kind > (31 : Int))) = true → K (Value.int IntKind.i64 (-1 : Int)) H) ∧
 ((decide (kind < (1 : Int)) || decide (kind > (31 : Int))) = false → K (Value.int IntKind.i64 (1 : Int)) H)))) ∧
 ((kind == (13 : Int)) = false →
 ((kind == (18 : Int)) = true →
 ((kind == (18 : Int)) = true → K (Value.int IntKind.i64 (2 : Int)) H) ∧
 ((kind == (18 : Int)) = false →
 ((kind == (31 : Int)) = true → K (Value.int IntKind.i64 (0 : Int)) H) ∧
 ((kind == (31 : Int)) = false →
 ((decide (kind < (1 : Int)) || decide (kind > (31 : Int))) = true → K (Value.int IntKind.i64 (-1 : Int)) H) ∧
 ((decide (kind < (1 : Int)) || decide (kind > (31 : Int))) = false → K (Value.int IntKind.i64 (1 : Int)) H)))) ∧
 ((kind == (18 : Int)) = false →
 ((kind == (26 : Int)) = true →
 ((kind == (26 : Int)) = true → K (Value.int IntKind.i64 (2 : Int)) H) ∧
 ((kind == (26 : Int)) = false →
 ((kind == (31 : Int)) = true → K (Value.int IntKind.i64 (0 : Int)) H) ∧
 ((kind == (31 : Int)) = false →
 ((decide (kind < (1 : Int)) || decide (kind > (31 : Int))) = true → K (Value.int IntKind.i64 (-1 : Int)) H) ∧
 ((decide (kind < (1 : Int)) || decide (kind > (31 : Int))) = false → K (Value.int IntKind.i64 (1 : Int)) H)))) ∧
 ((kind == (26 : Int)) = false →
 ((kind == (27 : Int)) = true →
 ((kind == (27 : Int)) = true → K (Value.int IntKind.i64 (2 : Int)) H) ∧
 ((kind == (27 : Int)) = false →
 ((kind == (31 : Int)) = true → K (Value.int IntKind.i64 (0 : Int)) H) ∧
 ((kind == (31 : Int)) = false →
 ((decide (kind < (1 : Int)) || decide (kind > (31 : Int))) = true → K (Value.int IntKind.i64 (-1 : Int)) H) ∧
 ((decide (kind < (1 : Int)) || decide (kind > (31 : Int))) = false →
 K (Value.int IntKind.i64 (1 : Int)) H)))) ∧
 ((kind == (27 : Int)) = false →
 ((kind == (29 : Int)) = true → K (Value.int IntKind.i64 (2 : Int)) H) ∧
 ((kind == (29 : Int)) = false →
 ((kind == (31 : Int)) = true → K (Value.int IntKind.i64 (0 : Int)) H) ∧
 ((kind == (31 : Int)) = false →
 ((decide (kind < (1 : Int)) || decide (kind > (31 : Int))) = true → K (Value.int IntKind.i64 (-1 : Int)) H) ∧
 ((decide (kind < (1 : Int)) || decide (kind > (31 : Int))) = false →
 K (Value.int IntKind.i64 (1 : Int)) H)))))))))))) ∧
 ((kind == (23 : Int)) = false →
 ((kind == (24 : Int)) = true →
 ((kind == (24 : Int)) = true → K (Value.int IntKind.i64 (3 : Int)) H) ∧
 ((kind == (24 : Int)) = false →
 ((kind == (3 : Int)) = true →
 ((kind == (3 : Int)) = true → K (Value.int IntKind.i64 (2 : Int)) H) ∧
 ((kind == (3 : Int)) = false →
 ((kind == (31 : Int)) = true → K (Value.int IntKind.i64 (0 : Int)) H) ∧
 ((kind == (31 : Int)) = false →
 ((decide (kind < (1 : Int)) || decide (kind > (31 : Int))) = true → K (Value.int IntKind.i64 (-1 : Int)) H) ∧
 ((decide (kind < (1 : Int)) || decide (kind > (31 : Int))) = false → K (Value.int IntKind.i64 (1 : Int)) H)))) ∧
 ((kind == (3 : Int)) = false →
 ((kind == (5 : Int)) = true →
 ((kind == (5 : Int)) = true → K (Value.int IntKind.i64 (2 : Int)) H) ∧
 ((kind == (5 : Int)) = false →
 ((kind == (31 : Int)) = true → K (Value.int IntKind.i64 (0 : Int)) H) ∧
 ((kind == (31 : Int)) = false →
 ((decide (kind < (1 : Int)) || decide (kind > (31 : Int))) = true → K (Value.int IntKind.i64 (-1 : Int)) H) ∧
 ((decide (kind < (1 : Int)) || decide (kind > (31 : Int))) = false → K (Value.int IntKind.i64 (1 : Int)) H)))) ∧
 ((kind == (5 : Int)) = false →
 ((kind == (10 : Int)) = true →
 ((kind == (10 : Int)) = true → K (Value.int IntKind.i64 (2 : Int)) H) ∧
 ((kind == (10 : Int)) = false →
 ((kind == (31 : Int)) = true → K (Value.int IntKind.i64 (0 : Int)) H) ∧
 ((kind == (31 : Int)) = false →
 ((decide (kind < (1 : Int)) || decide (kind > (31 : Int))) = true → K (Value.int IntKind.i64 (-1 : Int)) H) ∧
 ((decide (kind < (1 : Int)) || decide (kind > (31 : Int))) = false → K (Value.int IntKind.i64 (1 : Int)) H)))) ∧
 ((kind == (10 : Int)) = false →
 ((kind == (13 : Int)) = true →
 ((kind == (13 : Int)) = true → K (Value.int IntKind.i64 (2 : Int)) H) ∧
 ((kind == (13 : Int)) = false →
 ((kind == (31 : Int)) = true → K (Value.int IntKind.i64 (0 : Int)) H) ∧
 ((kind == (31 : Int)) = false →
 ((decide (kind < (1 : Int)) || decide (kind > (31 : Int))) = true → K (Value.int IntKind.i64 (-1 : Int)) H) ∧
 ((decide (kind < (1 : Int)) || decide (kind > (31 : Int))) = false → K (Value.int IntKind.i64 (1 : Int)) H)))) ∧
 ((kind == (13 : Int)) = false →
 ((kind == (18 : Int)) = true →
 ((kind == (18 : Int)) = true → K (Value.int IntKind.i64 (2 : Int)) H) ∧
 ((kind == (18 : Int)) = false →
 ((kind == (31 : Int)) = true → K (Value.int IntKind.i64 (0 : Int)) H) ∧
 ((kind == (31 : Int)) = false →
 ((decide (kind < (1 : Int)) || decide (kind > (31 : Int))) = true → K (Value.int IntKind.i64 (-1 : Int)) H) ∧
 ((decide (kind < (1 : Int)) || decide (kind > (31 : Int))) = false → K (Value.int IntKind.i64 (1 : Int)) H)))) ∧
 ((kind == (18 : Int)) = false →
 ((kind == (26 : Int)) = true →
 ((kind == (26 : Int)) = true → K (Value.int IntKind.i64 (2 : Int)) H) ∧
 ((kind == (26 : Int)) = false →
 ((kind == (31 : Int)) = true → K (Value.int IntKind.i64 (0 : Int)) H) ∧
 ((kind == (31 : Int)) = false →
 ((decide (kind < (1 : Int)) || decide (kind > (31 : Int))) = true → K (Value.int IntKind.i64 (-1 : Int)) H) ∧
 ((decide (kind < (1 : Int)) || decide (kind > (31 : Int))) = false →
 K (Value.int IntKind.i64 (1 : Int)) H)))) ∧
 ((kind == (26 : Int)) = false →
 ((kind == (27 : Int)) = true →
 ((kind == (27 : Int)) = true → K (Value.int IntKind.i64 (2 : Int)) H) ∧
 ((kind == (27 : Int)) = false →
 ((kind == (31 : Int)) = true → K (Value.int IntKind.i64 (0 : Int)) H) ∧
 ((kind == (31 : Int)) = false →
 ((decide (kind < (1 : Int)) || decide (kind > (31 : Int))) = true →
 K (Value.int IntKind.i64 (-1 : Int)) H) ∧
 ((decide (kind < (1 : Int)) || decide (kind > (31 : Int))) = false →
 K (Value.int IntKind.i64 (1 : Int)) H)))) ∧
 ((kind == (27 : Int)) = false →
 ((kind == (29 : Int)) = true → K (Value.int IntKind.i64 (2 : Int)) H) ∧
 ((kind == (29 : Int)) = false →
 ((kind == (31 : Int)) = true → K (Value.int IntKind.i64 (0 : Int)) H) ∧
 ((kind == (31 : Int)) = false →
 ((decide (kind < (1 : Int)) || decide (kind > (31 : Int))) = true →
 K (Value.int IntKind.i64 (-1 : Int)) H) ∧
 ((decide (kind < (1 : Int)) || decide (kind > (31 : Int))) = false →
 K (Value.int IntKind.i64 (1 : Int)) H)))))))))))) ∧
 ((kind == (24 : Int)) = false →
 ((kind == (28 : Int)) = true → K (Value.int IntKind.i64 (3 : Int)) H) ∧
 ((kind == (28 : Int)) = false →
 ((kind == (3 : Int)) = true →
 ((kind == (3 : Int)) = true → K (Value.int IntKind.i64 (2 : Int)) H) ∧
 ((kind == (3 : Int)) = false →
 ((kind == (31 : Int)) = true → K (Value.int IntKind.i64 (0 : Int)) H) ∧
 ((kind == (31 : Int)) = false →
 ((decide (kind < (1 : Int)) || decide (kind > (31 : Int))) = true → K (Value.int IntKind.i64 (-1 : Int)) H) ∧
 ((decide (kind < (1 : Int)) || decide (kind > (31 : Int))) = false → K (Value.int IntKind.i64 (1 : Int)) H)))) ∧
 ((kind == (3 : Int)) = false →
 ((kind == (5 : Int)) = true →
 ((kind == (5 : Int)) = true → K (Value.int IntKind.i64 (2 : Int)) H) ∧
 ((kind == (5 : Int)) = false →
 ((kind == (31 : Int)) = true → K (Value.int IntKind.i64 (0 : Int)) H) ∧
 ((kind == (31 : Int)) = false →
 ((decide (kind < (1 : Int)) || decide (kind > (31 : Int))) = true → K (Value.int IntKind.i64 (-1 : Int)) H) ∧
 ((decide (kind < (1 : Int)) || decide (kind > (31 : Int))) = false → K (Value.int IntKind.i64 (1 : Int)) H)))) ∧
 ((kind == (5 : Int)) = false →
 ((kind == (10 : Int)) = true →
 ((kind == (10 : Int)) = true → K (Value.int IntKind.i64 (2 : Int)) H) ∧
 ((kind == (10 : Int)) = false →
 ((kind == (31 : Int)) = true → K (Value.int IntKind.i64 (0 : Int)) H) ∧
 ((kind == (31 : Int)) = false →
 ((decide (kind < (1 : Int)) || decide (kind > (31 : Int))) = true → K (Value.int IntKind.i64 (-1 : Int)) H) ∧
 ((decide (kind < (1 : Int)) || decide (kind > (31 : Int))) = false → K (Value.int IntKind.i64 (1 : Int)) H)))) ∧
 ((kind == (10 : Int)) = false →
 ((kind == (13 : Int)) = true →
 ((kind == (13 : Int)) = true → K (Value.int IntKind.i64 (2 : Int)) H) ∧
 ((kind == (13 : Int)) = false →
 ((kind == (31 : Int)) = true → K (Value.int IntKind.i64 (0 : Int)) H) ∧
 ((kind == (31 : Int)) = false →
 ((decide (kind < (1 : Int)) || decide (kind > (31 : Int))) = true → K (Value.int IntKind.i64 (-1 : Int)) H) ∧
 ((decide (kind < (1 : Int)) || decide (kind > (31 : Int))) = false → K (Value.int IntKind.i64 (1 : Int)) H)))) ∧
 ((kind == (13 : Int)) = false →
 ((kind == (18 : Int)) = true →
 ((kind == (18 : Int)) = true → K (Value.int IntKind.i64 (2 : Int)) H) ∧
 ((kind == (18 : Int)) = false →
 ((kind == (31 : Int)) = true → K (Value.int IntKind.i64 (0 : Int)) H) ∧
 ((kind == (31 : Int)) = false →
 ((decide (kind < (1 : Int)) || decide (kind > (31 : Int))) = true → K (Value.int IntKind.i64 (-1 : Int)) H) ∧
 ((decide (kind < (1 : Int)) || decide (kind > (31 : Int))) = false → K (Value.int IntKind.i64 (1 : Int)) H)))) ∧
 ((kind == (18 : Int)) = false →
 ((kind == (26 : Int)) = true →
 ((kind == (26 : Int)) = true → K (Value.int IntKind.i64 (2 : Int)) H) ∧
 ((kind == (26 : Int)) = false →
 ((kind == (31 : Int)) = true → K (Value.int IntKind.i64 (0 : Int)) H) ∧
 ((kind == (31 : Int)) = false →
 ((decide (kind < (1 : Int)) || decide (kind > (31 : Int))) = true → K (Value.int IntKind.i64 (-1 : Int)) H) ∧
 ((decide (kind < (1 : Int)) || decide (kind > (31 : Int))) = false →
 K (Value.int IntKind.i64 (1 : Int)) H)))) ∧
 ((kind == (26 : Int)) = false →
 ((kind == (27 : Int)) = true →
 ((kind == (27 : Int)) = true → K (Value.int IntKind.i64 (2 : Int)) H) ∧
 ((kind == (27 : Int)) = false →
 ((kind == (31 : Int)) = true → K (Value.int IntKind.i64 (0 : Int)) H) ∧
 ((kind == (31 : Int)) = false →
 ((decide (kind < (1 : Int)) || decide (kind > (31 : Int))) = true →
 K (Value.int IntKind.i64 (-1 : Int)) H) ∧
 ((decide (kind < (1 : Int)) || decide (kind > (31 : Int))) = false →
 K (Value.int IntKind.i64 (1 : Int)) H)))) ∧
 ((kind == (27 : Int)) = false →
 ((kind == (29 : Int)) = true → K (Value.int IntKind.i64 (2 : Int)) H) ∧
 ((kind == (29 : Int)) = false →
 ((kind == (31 : Int)) = true → K (Value.int IntKind.i64 (0 : Int)) H) ∧
 ((kind == (31 : Int)) = false →
 ((decide (kind < (1 : Int)) || decide (kind > (31 : Int))) = true →
 K (Value.int IntKind.i64 (-1 : Int)) H) ∧
 ((decide (kind < (1 : Int)) || decide (kind > (31 : Int))) = false →
 K (Value.int IntKind.i64 (1 : Int)) H)))))))))))))))))))
theorem v20 {kind : Int} {H : Heap} {K : Value → Heap → Prop} (h : F20 kind H K) : Tr Try.prog 20 #[.int .i64 kind] H K :=
  tr_of_eq (C := c20) Try.func20 (show vcFn c20 Try.f20 [.int .i64 kind] H K = F20 kind H K by kernel_rfl) h

/- tapestry/event.Command -/
noncomputable def c22 : Cx := { P := Try.prog, res := [], pub := [], loops := [], quiet := [] }
def F22 (kind : Int) (H : Heap) (K : Value → Heap → Prop) : Prop :=
 K (Value.bool (decide (kind ≥ (3 : Int)) && decide (kind ≤ (18 : Int)))) H
theorem v22 {kind : Int} {H : Heap} {K : Value → Heap → Prop} (h : F22 kind H K) : Tr Try.prog 22 #[.int .i64 kind] H K :=
  tr_of_eq (C := c22) Try.func22 (show vcFn c22 Try.f22 [.int .i64 kind] H K = F22 kind H K by kernel_rfl) h

/- tapestry/tapestryref14.Command -/
noncomputable def c23 : Cx := { P := Try.prog, res := [], pub := [], loops := [], quiet := [] }
def F23 (kind : Int) (H : Heap) (K : Value → Heap → Prop) : Prop :=
 K (Value.bool (decide (kind ≥ (3 : Int)) && decide (kind ≤ (18 : Int)))) H
theorem v23 {kind : Int} {H : Heap} {K : Value → Heap → Prop} (h : F23 kind H K) : Tr Try.prog 23 #[.int .i64 kind] H K :=
  tr_of_eq (C := c23) Try.func23 (show vcFn c23 Try.f23 [.int .i64 kind] H K = F23 kind H K by kernel_rfl) h

end Go.Proofs.Ytbojjcmhdklhbaa
