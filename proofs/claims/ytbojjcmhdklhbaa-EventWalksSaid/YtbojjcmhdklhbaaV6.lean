/- By program (axgen.py): the formulas of functions of the translation, and that each gives its function's contract. Conditions: none. -/
import Derived.Test.YtbojjcmhdklhbaaProg
import Derived.Test.YtbojjcmhdklhbaaAxF
set_option maxRecDepth 100000
set_option linter.unusedVariables false
namespace Go.Proofs.Ytbojjcmhdklhbaa
open Go.Ax

/- tapestry/tapestrylaw15.GrammarChecks -/
noncomputable def c9 : Cx := { P := Try.prog, res := [], pub := [], loops := [], quiet := [30, 33, 34, 35], asm := true }
def F9 (hA : Option Addr) (hn hc : Nat) (H : Heap) (K : Value → Heap → Prop) : Prop :=
 ∃ (b : Bool),
 (Tr Try.prog (33 : Nat) #[] H fun (v : Value) (H' : Heap) => v = Value.bool b ∧ Ax.Sub H H') ∧
 Sm Try.prog (Instr.makeSlice (38 : Nat) (Value.int IntKind.i64 (↑hn : Int)) (Value.int IntKind.i64 (↑hn : Int))) H fun (v1 : Value) (H'1 : Heap) =>
 ∃ (A : Option Addr),
 ∃ (n : Nat),
 ∃ (c : Nat),
 v1 = Value.slice A n c ∧
 Sm Try.prog (Builtin.copy_ #[(38 : Nat), (38 : Nat)] (nat_lit 3) #[Value.slice A n c, Value.slice hA hn hc]) H'1 fun (v2 : Value) (H'2 : Heap) =>
 ∃ (x : Int),
 v2 = Value.int IntKind.i64 x ∧
 ∃ (x1 : Int),
 ∃ (x2 : Int),
 (Tr Try.prog (34 : Nat) #[Value.slice A n c] H'2 fun (v3 : Value) (H'3 : Heap) =>
 v3 = Value.tuple #[Value.int IntKind.i64 x1, Value.int IntKind.i64 x2] ∧ Ax.Sub H'2 H'3) ∧
 ∃ (x3 : Int),
 ∃ (x4 : Int),
 (Tr Try.prog (35 : Nat) #[Value.slice hA hn hc] H'2 fun (v4 : Value) (H'4 : Heap) =>
 v4 = Value.tuple #[Value.int IntKind.i64 x3, Value.int IntKind.i64 x4] ∧ Ax.Sub H'2 H'4) ∧
 ∃ (b1 : Bool),
 (Tr Try.prog (30 : Nat) #[Value.slice A n c, Value.slice hA hn hc] H'2 fun (v5 : Value) (H'5 : Heap) => v5 = Value.bool b1 ∧ Ax.Sub H'2 H'5) ∧
 K (Value.bool (b && b1 && x1 == x3 && x2 == x4)) H'2
theorem v9 {hA : Option Addr} {hn hc : Nat} {H : Heap} {K : Value → Heap → Prop} (h : F9 hA hn hc H K) : Tr Try.prog 9 #[.slice hA hn hc] H K :=
  tr_of_eq (C := c9) Try.func9 (show vcFn c9 Try.f9 [.slice hA hn hc] H K = F9 hA hn hc H K by kernel_rfl) h

/- tapestry/tapestrylaw15.GrammarOpens -/
noncomputable def c10 : Cx := { P := Try.prog, res := [], pub := [], loops := [], quiet := [33, 38, 39, 40], asm := true }
def F10 (hA : Option Addr) (hn hc : Nat) (H : Heap) (K : Value → Heap → Prop) : Prop :=
 ∃ (b : Bool),
 (Tr Try.prog (33 : Nat) #[] H fun (v : Value) (H' : Heap) => v = Value.bool b ∧ Ax.Sub H H') ∧
 Tr Try.prog (36 : Nat) #[Value.slice hA hn hc] H fun (v1 : Value) (H'1 : Heap) =>
 ∃ (A : Option Addr),
 ∃ (n : Nat),
 ∃ (c : Nat),
 ∃ (x : Int),
 v1 = Value.tuple #[Value.slice A n c, Value.int IntKind.i64 x] ∧
 Tr Try.prog (37 : Nat) #[Value.slice hA hn hc] H'1 fun (v2 : Value) (H'2 : Heap) =>
 ∃ (A1 : Option Addr),
 ∃ (n1 : Nat),
 ∃ (c1 : Nat),
 ∃ (x1 : Int),
 v2 = Value.tuple #[Value.slice A1 n1 c1, Value.int IntKind.i64 x1] ∧
 ∃ (x2 : Int),
 ∃ (x3 : Int),
 (Tr Try.prog (38 : Nat) #[Value.slice hA hn hc] H'2 fun (v3 : Value) (H'3 : Heap) =>
 v3 = Value.tuple #[Value.int IntKind.i64 x2, Value.int IntKind.i64 x3] ∧ Ax.Sub H'2 H'3) ∧
 ∃ (x4 : Int),
 ∃ (x5 : Int),
 (Tr Try.prog (39 : Nat) #[Value.slice hA hn hc] H'2 fun (v4 : Value) (H'4 : Heap) =>
 v4 = Value.tuple #[Value.int IntKind.i64 x4, Value.int IntKind.i64 x5] ∧ Ax.Sub H'2 H'4) ∧
 ∃ (b1 : Bool),
 (Tr Try.prog (40 : Nat) #[Value.slice A n c, Value.slice A1 n1 c1] H'2 fun (v5 : Value) (H'5 : Heap) =>
 v5 = Value.bool b1 ∧ Ax.Sub H'2 H'5) ∧
 K (Value.bool (b && b1 && x == x1 && x2 == x4 && x3 == x5)) H'2
theorem v10 {hA : Option Addr} {hn hc : Nat} {H : Heap} {K : Value → Heap → Prop} (h : F10 hA hn hc H K) : Tr Try.prog 10 #[.slice hA hn hc] H K :=
  tr_of_eq (C := c10) Try.func10 (show vcFn c10 Try.f10 [.slice hA hn hc] H K = F10 hA hn hc H K by kernel_rfl) h

/- tapestry/tapestrylaw15.GrammarBegins -/
noncomputable def c11 : Cx := { P := Try.prog, res := [], pub := [], loops := [⟨9, [(7, .int .i64)], [2, 8, 9, 10, 11, 31, 32, 33, 34, 35, 36, 37, 38, 39, 40, 41, 42, 43, 44, 45, 46, 47, 48, 49, 50, 51, 52, 53, 54, 55, 56, 57, 58, 59, 60, 61, 62, 63, 64, 65, 66, 67, 68, 69, 70, 71, 72, 73, 74, 75, 76, 77, 78, 79, 80, 81, 82, 83, 84, 85, 86, 87, 88, 89, 90, 91, 92, 93, 94, 95, 96, 97], []⟩], quiet := [33, 34, 38], asm := true }
def F11 (hA : Option Addr) (hn hc : Nat) (H : Heap) (K : Value → Heap → Prop) : Prop :=
 ∃ (b : Bool),
 (Tr Try.prog (33 : Nat) #[] H fun (v : Value) (H' : Heap) => v = Value.bool b ∧ Ax.Sub H H') ∧
 ∃ (x : Int),
 ∃ (x1 : Int),
 (Tr Try.prog (34 : Nat) #[Value.slice hA hn hc] H fun (v1 : Value) (H'1 : Heap) => v1 = Value.tuple #[Value.int IntKind.i64 x, Value.int IntKind.i64 x1] ∧ Ax.Sub H H'1) ∧
 ((x != (0 : Int)) = true →
 ((decide (x1 < (0 : Int)) || decide (x1 > (↑hn : Int))) = true → K (Value.bool false) H) ∧
 ((decide (x1 < (0 : Int)) || decide (x1 > (↑hn : Int))) = false →
 ∃ (Rel : Int → Heap → Prop),
 ∃ (mu : Int → Heap → Nat),
 Rel (0 : Int) H ∧
 ∀ (x2 : Int) (H1 : Heap),
 Rel x2 H1 →
 (decide (x2 ≤ (↑hn : Int)) = true →
 ((0 : Int) ≤ x2 ∧ x2 ≤ (↑hc : Int)) ∧
 ∃ (x3 : Int),
 ∃ (x4 : Int),
 (Tr Try.prog (34 : Nat)
 #[Value.slice (if hc = (0 : Nat) then hA else Option.map (fun (x : Addr) => x.add ((0 : Nat) * nat_lit 9)) hA) (x2.toNat - (0 : Nat))
 (hc - (0 : Nat))]
 H1 fun (v2 : Value) (H'2 : Heap) => v2 = Value.tuple #[Value.int IntKind.i64 x3, Value.int IntKind.i64 x4] ∧ Ax.Sub H1 H'2) ∧
 ((decide (x2 ≤ x1) && x3 != (0 : Int) || decide (x2 > x1) && (x3 != (52 : Int) || x4 != x1)) = true → K (Value.bool false) H1) ∧
 ((decide (x2 ≤ x1) && x3 != (0 : Int) || decide (x2 > x1) && (x3 != (52 : Int) || x4 != x1)) = false →
 ((0 : Int) ≤ x2 ∧ x2 ≤ (↑hc : Int)) ∧
 ∃ (x5 : Int),
 ∃ (x6 : Int),
 (Tr Try.prog (38 : Nat)
 #[Value.slice (if hc = (0 : Nat) then hA else Option.map (fun (x : Addr) => x.add ((0 : Nat) * nat_lit 9)) hA)
 (x2.toNat - (0 : Nat)) (hc - (0 : Nat))]
 H1 fun (v3 : Value) (H'3 : Heap) => v3 = Value.tuple #[Value.int IntKind.i64 x5, Value.int IntKind.i64 x6] ∧ Ax.Sub H1 H'3) ∧
 ((decide (x2 ≤ x1) &&
 (x6 != (0 : Int) || decide (x5 ≥ (0 : Int)) && x5 != IntKind.i64.wrap (x2 - (1 : Int)) ||
 decide (x5 ≥ (0 : Int)) && decide (x2 < x1))) =
 true →
 K (Value.bool false) H1) ∧
 ((decide (x2 ≤ x1) &&
 (x6 != (0 : Int) || decide (x5 ≥ (0 : Int)) && x5 != IntKind.i64.wrap (x2 - (1 : Int)) ||
 decide (x5 ≥ (0 : Int)) && decide (x2 < x1))) =
 false →
 Rel (IntKind.i64.wrap (x2 + (1 : Int))) H1 ∧ mu (IntKind.i64.wrap (x2 + (1 : Int))) H1 < mu x2 H1))) ∧
 (decide (x2 ≤ (↑hn : Int)) = false → K (Value.bool b) H1))) ∧
 ((x != (0 : Int)) = false →
 ((decide ((↑hn : Int) < (0 : Int)) || decide ((↑hn : Int) > (↑hn : Int))) = true → K (Value.bool false) H) ∧
 ((decide ((↑hn : Int) < (0 : Int)) || decide ((↑hn : Int) > (↑hn : Int))) = false →
 ∃ (Rel1 : Int → Heap → Prop),
 ∃ (mu1 : Int → Heap → Nat),
 Rel1 (0 : Int) H ∧
 ∀ (x7 : Int) (H2 : Heap),
 Rel1 x7 H2 →
 (decide (x7 ≤ (↑hn : Int)) = true →
 ((0 : Int) ≤ x7 ∧ x7 ≤ (↑hc : Int)) ∧
 ∃ (x8 : Int),
 ∃ (x9 : Int),
 (Tr Try.prog (34 : Nat)
 #[Value.slice (if hc = (0 : Nat) then hA else Option.map (fun (x : Addr) => x.add ((0 : Nat) * nat_lit 9)) hA) (x7.toNat - (0 : Nat))
 (hc - (0 : Nat))]
 H2 fun (v4 : Value) (H'4 : Heap) => v4 = Value.tuple #[Value.int IntKind.i64 x8, Value.int IntKind.i64 x9] ∧ Ax.Sub H2 H'4) ∧
 ((decide (x7 ≤ (↑hn : Int)) && x8 != (0 : Int) || decide (x7 > (↑hn : Int)) && (x8 != (52 : Int) || x9 != (↑hn : Int))) = true →
 K (Value.bool false) H2) ∧
 ((decide (x7 ≤ (↑hn : Int)) && x8 != (0 : Int) || decide (x7 > (↑hn : Int)) && (x8 != (52 : Int) || x9 != (↑hn : Int))) = false →
 ((0 : Int) ≤ x7 ∧ x7 ≤ (↑hc : Int)) ∧
 ∃ (x10 : Int),
 ∃ (x11 : Int),
 (Tr Try.prog (38 : Nat)
 #[Value.slice (if hc = (0 : Nat) then hA else Option.map (fun (x : Addr) => x.add ((0 : Nat) * nat_lit 9)) hA)
 (x7.toNat - (0 : Nat)) (hc - (0 : Nat))]
 H2 fun (v5 : Value) (H'5 : Heap) =>
 v5 = Value.tuple #[Value.int IntKind.i64 x10, Value.int IntKind.i64 x11] ∧ Ax.Sub H2 H'5) ∧
 ((decide (x7 ≤ (↑hn : Int)) &&
 (x11 != (0 : Int) || decide (x10 ≥ (0 : Int)) && x10 != IntKind.i64.wrap (x7 - (1 : Int)) ||
 decide (x10 ≥ (0 : Int)) && decide (x7 < (↑hn : Int)))) =
 true →
 K (Value.bool false) H2) ∧
 ((decide (x7 ≤ (↑hn : Int)) &&
 (x11 != (0 : Int) || decide (x10 ≥ (0 : Int)) && x10 != IntKind.i64.wrap (x7 - (1 : Int)) ||
 decide (x10 ≥ (0 : Int)) && decide (x7 < (↑hn : Int)))) =
 false →
 Rel1 (IntKind.i64.wrap (x7 + (1 : Int))) H2 ∧ mu1 (IntKind.i64.wrap (x7 + (1 : Int))) H2 < mu1 x7 H2))) ∧
 (decide (x7 ≤ (↑hn : Int)) = false → K (Value.bool b) H2)))
theorem v11 {hA : Option Addr} {hn hc : Nat} {H : Heap} {K : Value → Heap → Prop} (h : F11 hA hn hc H K) : Tr Try.prog 11 #[.slice hA hn hc] H K :=
  tr_of_eq (C := c11) Try.func11 (show vcFn c11 Try.f11 [.slice hA hn hc] H K = F11 hA hn hc H K by kernel_rfl) h

/- tapestry/tapestrylaw15.GrammarNames -/
noncomputable def c12 : Cx := { P := Try.prog, res := [], pub := [], loops := [⟨7, [(7, .int .i64)], [2, 30, 31, 32, 33, 34, 35, 36, 37, 38, 39, 40, 41, 42, 43, 44, 45, 46, 47, 48, 49, 50, 51, 52, 53, 54, 55], []⟩, ⟨13, [(8, .int .i64)], [2, 9, 10, 11, 12, 13, 14, 15, 16, 17, 56, 57, 58, 59, 60, 61, 62, 63, 64, 65, 66, 67, 68, 69, 70, 71, 72, 73, 74, 75, 76, 77, 78, 79, 80, 81, 82, 83, 84, 85, 86, 87, 88, 89, 90, 91, 92, 93, 94, 95, 96, 97, 98, 99, 100, 101, 102, 103, 104, 105, 106, 107, 108, 109, 110, 111, 112, 113, 114, 115, 116, 117, 118, 119, 120, 121, 122, 123, 124, 125, 126, 127, 128, 129, 130, 131, 132, 133, 134, 135, 136, 137, 138, 139, 140, 141, 142, 143, 144, 145, 146, 147, 148, 149, 150, 151, 152, 153, 154, 155, 156, 157, 158, 159, 160, 161, 162, 163, 164, 165, 166, 167, 168, 169, 170, 171, 172, 173, 174, 175, 176, 177, 178, 179], []⟩, ⟨17, [(9, .int .i64), (10, .int .i64)], [11, 12, 13, 14, 15, 16, 62, 63, 64, 65, 66, 67, 68, 69, 70, 71, 72, 73, 74, 75, 76, 77, 78, 79, 80, 81, 82, 83, 84, 85, 86, 87, 88, 89, 90, 91, 92, 93, 94, 95, 96, 97, 98, 99, 100, 101, 102, 103, 104, 105, 106, 107, 108, 109, 110, 111, 112, 113, 114, 115, 116, 117, 118, 119, 120, 121, 122, 123, 124, 125, 126, 127, 128, 129, 130, 131, 132, 133, 134, 135, 136, 137, 138, 139, 140, 141, 142, 143], []⟩], quiet := [33], asm := true }
def F12 (hA : Option Addr) (hn hc : Nat) (H : Heap) (K : Value → Heap → Prop) : Prop :=
 ∃ (b : Bool),
 (Tr Try.prog (33 : Nat) #[] H fun (v : Value) (H' : Heap) => v = Value.bool b ∧ Ax.Sub H H') ∧
 Tr Try.prog (36 : Nat) #[Value.slice hA hn hc] H fun (v1 : Value) (H'1 : Heap) =>
 ∃ (A : Option Addr),
 ∃ (n : Nat),
 ∃ (c : Nat),
 ∃ (x : Int),
 v1 = Value.tuple #[Value.slice A n c, Value.int IntKind.i64 x] ∧
 ((x != (0 : Int)) = true → K (Value.bool b) H'1) ∧
 ((x != (0 : Int)) = false →
 Sm Try.prog (Instr.makeSlice (66 : Nat) (Value.int IntKind.i64 (↑hn : Int)) (Value.int IntKind.i64 (↑hn : Int))) H'1 fun (v2 : Value) (H'2 : Heap) =>
 ∃ (A1 : Option Addr),
 ∃ (n1 : Nat),
 ∃ (c1 : Nat),
 v2 = Value.slice A1 n1 c1 ∧
 ∃ (Rel : Int → Heap → Prop),
 ∃ (mu : Int → Heap → Nat),
 Rel (0 : Int) H'2 ∧
 ∀ (x1 : Int) (H1 : Heap),
 Rel x1 H1 →
 (decide (x1 < (↑n : Int)) = true →
 ∃ (a : Addr),
 (A = some a ∧ (0 : Int) ≤ x1 ∧ x1 < (↑n : Int)) ∧
 ∃ (x2 : Int),
 At H1 (a.add (x1.toNat * nat_lit 1)) [Value.int IntKind.i64 x2] ∧
 ∃ (a1 : Addr),
 ((!decide (x2 < (0 : Int))) = true → A = some a1 ∧ (0 : Int) ≤ x1 ∧ x1 < (↑n : Int)) ∧
 ∃ (x3 : Int),
 ((!decide (x2 < (0 : Int))) = true → At H1 (a1.add (x1.toNat * nat_lit 1)) [Value.int IntKind.i64 x3]) ∧
 ((decide (x2 < (0 : Int)) || decide (x3 ≥ (↑hn : Int))) = true → K (Value.bool false) H1) ∧
 ((decide (x2 < (0 : Int)) || decide (x3 ≥ (↑hn : Int))) = false →
 ∃ (a2 : Addr),
 (A = some a2 ∧ (0 : Int) ≤ x1 ∧ x1 < (↑n : Int)) ∧
 ∃ (x4 : Int),
 At H1 (a2.add (x1.toNat * nat_lit 1)) [Value.int IntKind.i64 x4] ∧
 ∃ (a3 : Addr),
 (A1 = some a3 ∧ (0 : Int) ≤ x4 ∧ x4 < (↑n1 : Int)) ∧
 ∃ (c2 : Array Value),
 ∃ (T : TypeId),
 H1 (a3.add (x4.toNat * nat_lit 1)).block = some (Obj.cells c2 T) ∧
 (a3.add (x4.toNat * nat_lit 1)).spot = none ∧
 (a3.add (x4.toNat * nat_lit 1)).off + [Value.bool true].length ≤ c2.size ∧
 ∀ (H1_1 : Heap),
 H1_1 =
 H1.upd (a3.add (x4.toNat * nat_lit 1)).block
 (Obj.cells (splice c2 (a3.add (x4.toNat * nat_lit 1)).off [Value.bool true]) T) →
 Rel (IntKind.i64.wrap (x1 + (1 : Int))) H1_1 ∧
 mu (IntKind.i64.wrap (x1 + (1 : Int))) H1_1 < mu x1 H1)) ∧
 (decide (x1 < (↑n : Int)) = false →
 ∃ (Rel1 : Int → Heap → Prop),
 ∃ (mu1 : Int → Heap → Nat),
 Rel1 (0 : Int) H1 ∧
 ∀ (x5 : Int) (H2 : Heap),
 Rel1 x5 H2 →
 (decide (x5 < (↑hn : Int)) = true →
 ∃ (Rel2 : Int → Int → Heap → Prop),
 ∃ (mu2 : Int → Int → Heap → Nat),
 Rel2 (0 : Int) (0 : Int) H2 ∧
 ∀ (x6 x7 : Int) (H3 : Heap),
 Rel2 x6 x7 H3 →
 (decide (x7 < (↑hn : Int)) = true →
 ∃ (a4 : Addr),
 (hA = some a4 ∧ (0 : Int) ≤ x7 ∧ x7 < (↑hn : Int)) ∧
 ∃ (x8 : Int),
 At H3 ((a4.add (x7.toNat * nat_lit 9)).add (nat_lit 2)) [Value.int IntKind.i64 x8] ∧
 ∃ (a5 : Addr),
 (hA = some a5 ∧ (0 : Int) ≤ x5 ∧ x5 < (↑hn : Int)) ∧
 ∃ (x9 : Int),
 At H3 ((a5.add (x5.toNat * nat_lit 9)).add (nat_lit 2)) [Value.int IntKind.i64 x9] ∧
 ∃ (a6 : Addr),
 (hA = some a6 ∧ (0 : Int) ≤ x7 ∧ x7 < (↑hn : Int)) ∧
 ∃ (x10 : Int),
 At H3 ((a6.add (x7.toNat * nat_lit 9)).add (nat_lit 3)) [Value.int IntKind.i64 x10] ∧
 ((x10 == IntKind.i64.wrap (x5 + (1 : Int)) &&
 (x9 == (3 : Int) &&
 (x8 == (6 : Int) ||
 decide (x8 ≥ (22 : Int)) && decide (x8 ≤ (24 : Int))) ||
 x9 == (4 : Int) && (x8 == (7 : Int) || x8 == (25 : Int)) ||
 x9 == (5 : Int) && (x8 == (27 : Int) || x8 == (28 : Int)) ||
 x9 == (21 : Int) && (x8 == (13 : Int) || x8 == (14 : Int)))) =
 true →
 Rel2 (IntKind.i64.wrap (x6 + (1 : Int))) (IntKind.i64.wrap (x7 + (1 : Int)))
 H3 ∧
 mu2 (IntKind.i64.wrap (x6 + (1 : Int))) (IntKind.i64.wrap (x7 + (1 : Int)))
 H3 <
 mu2 x6 x7 H3) ∧
 ((x10 == IntKind.i64.wrap (x5 + (1 : Int)) &&
 (x9 == (3 : Int) &&
 (x8 == (6 : Int) ||
 decide (x8 ≥ (22 : Int)) && decide (x8 ≤ (24 : Int))) ||
 x9 == (4 : Int) && (x8 == (7 : Int) || x8 == (25 : Int)) ||
 x9 == (5 : Int) && (x8 == (27 : Int) || x8 == (28 : Int)) ||
 x9 == (21 : Int) && (x8 == (13 : Int) || x8 == (14 : Int)))) =
 false →
 Rel2 x6 (IntKind.i64.wrap (x7 + (1 : Int))) H3 ∧
 mu2 x6 (IntKind.i64.wrap (x7 + (1 : Int))) H3 < mu2 x6 x7 H3)) ∧
 (decide (x7 < (↑hn : Int)) = false →
 ∃ (a7 : Addr),
 (hA = some a7 ∧ (0 : Int) ≤ x5 ∧ x5 < (↑hn : Int)) ∧
 ∃ (x11 : Int),
 At H3 ((a7.add (x5.toNat * nat_lit 9)).add (nat_lit 2)) [Value.int IntKind.i64 x11] ∧
 ∃ (a8 : Addr),
 (decide (x11 ≥ (3 : Int)) = true → hA = some a8 ∧ (0 : Int) ≤ x5 ∧ x5 < (↑hn : Int)) ∧
 ∃ (x12 : Int),
 (decide (x11 ≥ (3 : Int)) = true →
 At H3 ((a8.add (x5.toNat * nat_lit 9)).add (nat_lit 2)) [Value.int IntKind.i64 x12]) ∧
 ∃ (a9 : Addr),
 ((!(decide (x11 ≥ (3 : Int)) && decide (x12 ≤ (5 : Int)))) = true →
 hA = some a9 ∧ (0 : Int) ≤ x5 ∧ x5 < (↑hn : Int)) ∧
 ∃ (x13 : Int),
 ((!(decide (x11 ≥ (3 : Int)) && decide (x12 ≤ (5 : Int)))) = true →
 At H3 ((a9.add (x5.toNat * nat_lit 9)).add (nat_lit 2))
 [Value.int IntKind.i64 x13]) ∧
 ∃ (a10 : Addr),
 ((!decide (x6 > (1 : Int))) = true →
 A1 = some a10 ∧ (0 : Int) ≤ x5 ∧ x5 < (↑n1 : Int)) ∧
 ∃ (b1 : Bool),
 ((!decide (x6 > (1 : Int))) = true →
 At H3 (a10.add (x5.toNat * nat_lit 1)) [Value.bool b1]) ∧
 ((decide (x6 > (1 : Int)) ||
 !b1 ==
 ((decide (x11 ≥ (3 : Int)) && decide (x12 ≤ (5 : Int)) ||
 x13 == (21 : Int)) &&
 x6 == (0 : Int))) =
 true →
 K (Value.bool false) H3) ∧
 ((decide (x6 > (1 : Int)) ||
 !b1 ==
 ((decide (x11 ≥ (3 : Int)) && decide (x12 ≤ (5 : Int)) ||
 x13 == (21 : Int)) &&
 x6 == (0 : Int))) =
 false →
 Rel1 (IntKind.i64.wrap (x5 + (1 : Int))) H3 ∧
 mu1 (IntKind.i64.wrap (x5 + (1 : Int))) H3 < mu1 x5 H2))) ∧
 (decide (x5 < (↑hn : Int)) = false → K (Value.bool b) H2)))
theorem v12 {hA : Option Addr} {hn hc : Nat} {H : Heap} {K : Value → Heap → Prop} (h : F12 hA hn hc H K) : Tr Try.prog 12 #[.slice hA hn hc] H K :=
  tr_of_eq (C := c12) Try.func12 (show vcFn c12 Try.f12 [.slice hA hn hc] H K = F12 hA hn hc H K by kernel_rfl) h

/- tapestry/tapestrylaw15.shown -/
noncomputable def c33 : Cx := { P := Try.prog, res := [], pub := [27], loops := [], quiet := [34, 38], asm := true }
def F33  (H : Heap) (K : Value → Heap → Prop) : Prop :=
 Tr Try.prog (56 : Nat) #[] H fun (v : Value) (H' : Heap) =>
 ∃ (A : Option Addr),
 ∃ (n : Nat),
 ∃ (c : Nat),
 v = Value.slice A n c ∧
 ∃ (x : Int),
 ∃ (x1 : Int),
 (Tr Try.prog (34 : Nat) #[Value.slice A n c] H' fun (v1 : Value) (H'1 : Heap) =>
 v1 = Value.tuple #[Value.int IntKind.i64 x, Value.int IntKind.i64 x1] ∧ Ax.Sub H' H'1) ∧
 Tr Try.prog (56 : Nat) #[] H' fun (v2 : Value) (H'2 : Heap) =>
 ∃ (A1 : Option Addr),
 ∃ (n1 : Nat),
 ∃ (c1 : Nat),
 v2 = Value.slice A1 n1 c1 ∧
 Tr Try.prog (36 : Nat) #[Value.slice A1 n1 c1] H'2 fun (v3 : Value) (H'3 : Heap) =>
 ∃ (A2 : Option Addr),
 ∃ (n2 : Nat),
 ∃ (c2 : Nat),
 ∃ (x2 : Int),
 v3 = Value.tuple #[Value.slice A2 n2 c2, Value.int IntKind.i64 x2] ∧
 Tr Try.prog (56 : Nat) #[] H'3 fun (v4 : Value) (H'4 : Heap) =>
 ∃ (A3 : Option Addr),
 ∃ (n3 : Nat),
 ∃ (c3 : Nat),
 v4 = Value.slice A3 n3 c3 ∧
 ∃ (x3 : Int),
 ∃ (x4 : Int),
 (Tr Try.prog (38 : Nat) #[Value.slice A3 n3 c3] H'4 fun (v5 : Value) (H'5 : Heap) =>
 v5 = Value.tuple #[Value.int IntKind.i64 x3, Value.int IntKind.i64 x4] ∧ Ax.Sub H'4 H'5) ∧
 ∀ (b : Nat),
 H'4 b = none →
 ∀ (H1 : Heap),
 H1 =
 H'4.upd b
 (Obj.cells
 #[Value.int IntKind.i64 (1 : Int), Value.int IntKind.i64 (0 : Int), Value.int IntKind.i64 (1 : Int),
 Value.int IntKind.i64 (0 : Int), Value.int IntKind.i64 (0 : Int), Value.int IntKind.i64 (0 : Int),
 Value.int IntKind.i64 (0 : Int), Value.int IntKind.i64 (0 : Int), Value.int IntKind.i64 (0 : Int),
 Value.int IntKind.i64 (2 : Int), Value.int IntKind.i64 (0 : Int), Value.int IntKind.i64 (3 : Int),
 Value.int IntKind.i64 (0 : Int), Value.int IntKind.i64 (0 : Int), Value.int IntKind.i64 (0 : Int),
 Value.int IntKind.i64 (0 : Int), Value.int IntKind.i64 (0 : Int), Value.int IntKind.i64 (0 : Int)]
 (23 : Nat)) →
 ∃ (x5 : Int),
 ∃ (x6 : Int),
 (Tr Try.prog (34 : Nat) #[Value.slice (some ({ block := b, off := (0 : Nat) } : Addr)) (2 : Nat) (2 : Nat)] H1
 fun (v6 : Value) (H'6 : Heap) =>
 v6 = Value.tuple #[Value.int IntKind.i64 x5, Value.int IntKind.i64 x6] ∧ Ax.Sub H1 H'6) ∧
 (((↑n2 : Int) != (1 : Int)) = true → K (Value.bool false) H1) ∧
 (((↑n2 : Int) != (1 : Int)) = false →
 ∃ (a : Addr),
 ((x == (0 : Int) && x1 == (0 : Int) && x2 == (0 : Int)) = true →
 A2 = some a ∧ (0 : Int) ≤ (0 : Int) ∧ (0 : Int) < (↑n2 : Int)) ∧
 ∃ (x7 : Int),
 ((x == (0 : Int) && x1 == (0 : Int) && x2 == (0 : Int)) = true →
 At H1 (a.add (Int.toNat (0 : Int) * nat_lit 1)) [Value.int IntKind.i64 x7]) ∧
 K
 (Value.bool
 (x == (0 : Int) && x1 == (0 : Int) && x2 == (0 : Int) && x7 == (3 : Int) && x4 == (0 : Int) &&
 x3 == (6 : Int) &&
 x5 == (52 : Int) &&
 x6 == (1 : Int)))
 H1)
theorem v33 {H : Heap} {K : Value → Heap → Prop} (h : F33  H K) : Tr Try.prog 33 #[] H K :=
  tr_of_eq (C := c33) Try.func33 (show vcFn c33 Try.f33 [] H K = F33  H K by kernel_rfl) h

/- tapestry/grammar.Check -/
noncomputable def c34 : Cx := { P := Try.prog, res := [], pub := [], loops := [], quiet := [], asm := true }
def F34 (hA : Option Addr) (hn hc : Nat) (H : Heap) (K : Value → Heap → Prop) : Prop :=
 Tr Try.prog (57 : Nat) #[Value.slice hA hn hc] H fun (v : Value) (H' : Heap) =>
 ∃ (v1 : Option Addr),
 ∃ (x : Int),
 v = Value.tuple #[Value.pointer v1, Value.int IntKind.i64 x] ∧
 (decide (x < (↑hn : Int)) = true → K (Value.tuple #[Value.int IntKind.i64 (52 : Int), Value.int IntKind.i64 x]) H') ∧
 (decide (x < (↑hn : Int)) = false → K (Value.tuple #[Value.int IntKind.i64 (0 : Int), Value.int IntKind.i64 (0 : Int)]) H')
theorem v34 {hA : Option Addr} {hn hc : Nat} {H : Heap} {K : Value → Heap → Prop} (h : F34 hA hn hc H K) : Tr Try.prog 34 #[.slice hA hn hc] H K :=
  tr_of_eq (C := c34) Try.func34 (show vcFn c34 Try.f34 [.slice hA hn hc] H K = F34 hA hn hc H K by kernel_rfl) h

/- tapestry/tapestryref15.Check -/
noncomputable def c35 : Cx := { P := Try.prog, res := [], pub := [], loops := [⟨2, [(4, .int .i64)], [2, 3, 5, 6, 7, 8, 9, 10, 11, 12, 13, 14, 15, 16, 17], []⟩], quiet := [58], asm := true }
def F35 (hA : Option Addr) (hn hc : Nat) (H : Heap) (K : Value → Heap → Prop) : Prop :=
 ∃ (Rel : Int → Heap → Prop),
 ∃ (mu : Int → Heap → Nat),
 Rel (0 : Int) H ∧
 ∀ (x : Int) (H1 : Heap),
 Rel x H1 →
 (decide (x < (↑hn : Int)) = true →
 ∃ (b : Bool),
 (Tr Try.prog (58 : Nat) #[Value.slice hA hn hc, Value.int IntKind.i64 x] H1 fun (v : Value) (H' : Heap) => v = Value.bool b ∧ Ax.Sub H1 H') ∧
 ((!b) = true → K (Value.tuple #[Value.int IntKind.i64 (52 : Int), Value.int IntKind.i64 x]) H1) ∧
 ((!b) = false → Rel (IntKind.i64.wrap (x + (1 : Int))) H1 ∧ mu (IntKind.i64.wrap (x + (1 : Int))) H1 < mu x H1)) ∧
 (decide (x < (↑hn : Int)) = false → K (Value.tuple #[Value.int IntKind.i64 (0 : Int), Value.int IntKind.i64 (0 : Int)]) H1)
theorem v35 {hA : Option Addr} {hn hc : Nat} {H : Heap} {K : Value → Heap → Prop} (h : F35 hA hn hc H K) : Tr Try.prog 35 #[.slice hA hn hc] H K :=
  tr_of_eq (C := c35) Try.func35 (show vcFn c35 Try.f35 [.slice hA hn hc] H K = F35 hA hn hc H K by kernel_rfl) h

/- tapestry/tapestryref15.Open -/
noncomputable def c37 : Cx := { P := Try.prog, res := [], pub := [31, 34, 37, 40], loops := [⟨6, [(6, .sl), (7, .int .i64)], [8, 9, 18, 19, 20, 21, 22, 23, 24, 25, 26, 27, 28, 29, 30, 31, 32, 33, 34, 35, 36, 37, 38, 39, 40, 41, 42, 43, 44, 45, 46, 47, 48, 49, 50, 51, 52, 53], []⟩], quiet := [35, 60], asm := true }
def F37 (hA : Option Addr) (hn hc : Nat) (H : Heap) (K : Value → Heap → Prop) : Prop :=
 ∃ (x : Int),
 ∃ (x1 : Int),
 (Tr Try.prog (35 : Nat) #[Value.slice hA hn hc] H fun (v : Value) (H' : Heap) => v = Value.tuple #[Value.int IntKind.i64 x, Value.int IntKind.i64 x1] ∧ Ax.Sub H H') ∧
 ((x != (0 : Int)) = true → K (Value.tuple #[Value.slice none (0 : Nat) (0 : Nat), Value.int IntKind.i64 x]) H) ∧
 ((x != (0 : Int)) = false →
 ∃ (Rel : Option Addr → Nat → Nat → Int → Heap → Prop),
 ∃ (mu : Option Addr → Nat → Nat → Int → Heap → Nat),
 Rel none (0 : Nat) (0 : Nat) (0 : Int) H ∧
 ∀ (A : Option Addr) (n c : Nat) (x2 : Int) (H1 : Heap),
 Rel A n c x2 H1 →
 (decide (x2 < (↑hn : Int)) = true →
 ∃ (a : Addr),
 (hA = some a ∧ (0 : Int) ≤ x2 ∧ x2 < (↑hn : Int)) ∧
 ∃ (x3 : Int),
 At H1 ((a.add (x2.toNat * nat_lit 9)).add (nat_lit 2)) [Value.int IntKind.i64 x3] ∧
 ((x3 == (3 : Int)) = true →
 ∀ (b : Nat),
 H1 b = none →
 ∀ (H1_1 : Heap),
 H1_1 =
 H1.upd b
 (Obj.cells
 #[Value.int IntKind.i64 (6 : Int), Value.int IntKind.i64 (22 : Int), Value.int IntKind.i64 (23 : Int),
 Value.int IntKind.i64 (24 : Int)]
 (3 : Nat)) →
 ∃ (b1 : Bool),
 (Tr Try.prog (60 : Nat)
 #[Value.slice hA hn hc, Value.int IntKind.i64 (↑hn : Int), Value.int IntKind.i64 (IntKind.i64.wrap (x2 + (1 : Int))),
 Value.slice (some ({ block := b, off := (0 : Nat) } : Addr)) (4 : Nat) (4 : Nat)]
 H1_1 fun (v1 : Value) (H'1 : Heap) => v1 = Value.bool b1 ∧ Ax.Sub H1_1 H'1) ∧
 ((!b1) = true →
 appC (3 : Nat) (nat_lit 1) (nat_lit 8) H1_1 A n c [Value.int IntKind.i64 x2] (1 : Nat)
 fun (A' : Option Addr) (n' c' : Nat) (H'2 : Heap) =>
 Rel A' n' c' (IntKind.i64.wrap (x2 + (1 : Int))) H'2 ∧ mu A' n' c' (IntKind.i64.wrap (x2 + (1 : Int))) H'2 < mu A n c x2 H1) ∧
 ((!b1) = false →
 Rel A n c (IntKind.i64.wrap (x2 + (1 : Int))) H1_1 ∧ mu A n c (IntKind.i64.wrap (x2 + (1 : Int))) H1_1 < mu A n c x2 H1)) ∧
 ((x3 == (3 : Int)) = false →
 ((x3 == (4 : Int)) = true →
 ∀ (b2 : Nat),
 H1 b2 = none →
 ∀ (H11 : Heap),
 H11 = H1.upd b2 (Obj.cells #[Value.int IntKind.i64 (7 : Int), Value.int IntKind.i64 (25 : Int)] (3 : Nat)) →
 ∃ (b3 : Bool),
 (Tr Try.prog (60 : Nat)
 #[Value.slice hA hn hc, Value.int IntKind.i64 (↑hn : Int), Value.int IntKind.i64 (IntKind.i64.wrap (x2 + (1 : Int))),
 Value.slice (some ({ block := b2, off := (0 : Nat) } : Addr)) (2 : Nat) (2 : Nat)]
 H11 fun (v2 : Value) (H'3 : Heap) => v2 = Value.bool b3 ∧ Ax.Sub H11 H'3) ∧
 ((!b3) = true →
 appC (3 : Nat) (nat_lit 1) (nat_lit 8) H11 A n c [Value.int IntKind.i64 x2] (1 : Nat)
 fun (A'1 : Option Addr) (n'1 c'1 : Nat) (H'4 : Heap) =>
 Rel A'1 n'1 c'1 (IntKind.i64.wrap (x2 + (1 : Int))) H'4 ∧
 mu A'1 n'1 c'1 (IntKind.i64.wrap (x2 + (1 : Int))) H'4 < mu A n c x2 H1) ∧
 ((!b3) = false →
 Rel A n c (IntKind.i64.wrap (x2 + (1 : Int))) H11 ∧ mu A n c (IntKind.i64.wrap (x2 + (1 : Int))) H11 < mu A n c x2 H1)) ∧
 ((x3 == (4 : Int)) = false →
 ((x3 == (5 : Int)) = true →
 ∀ (b4 : Nat),
 H1 b4 = none →
 ∀ (H12 : Heap),
 H12 = H1.upd b4 (Obj.cells #[Value.int IntKind.i64 (27 : Int), Value.int IntKind.i64 (28 : Int)] (3 : Nat)) →
 ∃ (b5 : Bool),
 (Tr Try.prog (60 : Nat)
 #[Value.slice hA hn hc, Value.int IntKind.i64 (↑hn : Int), Value.int IntKind.i64 (IntKind.i64.wrap (x2 + (1 : Int))),
 Value.slice (some ({ block := b4, off := (0 : Nat) } : Addr)) (2 : Nat) (2 : Nat)]
 H12 fun (v3 : Value) (H'5 : Heap) => v3 = Value.bool b5 ∧ Ax.Sub H12 H'5) ∧
 ((!b5) = true →
 appC (3 : Nat) (nat_lit 1) (nat_lit 8) H12 A n c [Value.int IntKind.i64 x2] (1 : Nat)
 fun (A'2 : Option Addr) (n'2 c'2 : Nat) (H'6 : Heap) =>
 Rel A'2 n'2 c'2 (IntKind.i64.wrap (x2 + (1 : Int))) H'6 ∧
 mu A'2 n'2 c'2 (IntKind.i64.wrap (x2 + (1 : Int))) H'6 < mu A n c x2 H1) ∧
 ((!b5) = false →
 Rel A n c (IntKind.i64.wrap (x2 + (1 : Int))) H12 ∧
 mu A n c (IntKind.i64.wrap (x2 + (1 : Int))) H12 < mu A n c x2 H1)) ∧
 ((x3 == (5 : Int)) = false →
 ((x3 == (21 : Int)) = true →
 ∀ (b6 : Nat),
 H1 b6 = none →
 ∀ (H13 : Heap),
 H13 = H1.upd b6 (Obj.cells #[Value.int IntKind.i64 (13 : Int), Value.int IntKind.i64 (14 : Int)] (3 : Nat)) →
 ∃ (b7 : Bool),
 (Tr Try.prog (60 : Nat)
 #[Value.slice hA hn hc, Value.int IntKind.i64 (↑hn : Int), Value.int IntKind.i64 (IntKind.i64.wrap (x2 + (1 : Int))),
 Value.slice (some ({ block := b6, off := (0 : Nat) } : Addr)) (2 : Nat) (2 : Nat)]
 H13 fun (v4 : Value) (H'7 : Heap) => v4 = Value.bool b7 ∧ Ax.Sub H13 H'7) ∧
 ((!b7) = true →
 appC (3 : Nat) (nat_lit 1) (nat_lit 8) H13 A n c [Value.int IntKind.i64 x2] (1 : Nat)
 fun (A'3 : Option Addr) (n'3 c'3 : Nat) (H'8 : Heap) =>
 Rel A'3 n'3 c'3 (IntKind.i64.wrap (x2 + (1 : Int))) H'8 ∧
 mu A'3 n'3 c'3 (IntKind.i64.wrap (x2 + (1 : Int))) H'8 < mu A n c x2 H1) ∧
 ((!b7) = false →
 Rel A n c (IntKind.i64.wrap (x2 + (1 : Int))) H13 ∧
 mu A n c (IntKind.i64.wrap (x2 + (1 : Int))) H13 < mu A n c x2 H1)) ∧
 ((x3 == (21 : Int)) = false →
 Rel A n c (IntKind.i64.wrap (x2 + (1 : Int))) H1 ∧ mu A n c (IntKind.i64.wrap (x2 + (1 : Int))) H1 < mu A n c x2 H1))))) ∧
 (decide (x2 < (↑hn : Int)) = false → K (Value.tuple #[Value.slice A n c, Value.int IntKind.i64 (0 : Int)]) H1))
theorem v37 {hA : Option Addr} {hn hc : Nat} {H : Heap} {K : Value → Heap → Prop} (h : F37 hA hn hc H K) : Tr Try.prog 37 #[.slice hA hn hc] H K :=
  tr_of_eq (C := c37) Try.func37 (show vcFn c37 Try.f37 [.slice hA hn hc] H K = F37 hA hn hc H K by kernel_rfl) h

/- tapestry/grammar.Close -/
noncomputable def c38 : Cx := { P := Try.prog, res := [], pub := [], loops := [], quiet := [], asm := true }
def F38 (hA : Option Addr) (hn hc : Nat) (H : Heap) (K : Value → Heap → Prop) : Prop :=
 Tr Try.prog (57 : Nat) #[Value.slice hA hn hc] H fun (v : Value) (H' : Heap) =>
 ∃ (v1 : Option Addr),
 ∃ (x : Int),
 v = Value.tuple #[Value.pointer v1, Value.int IntKind.i64 x] ∧
 (decide (x < (↑hn : Int)) = true → K (Value.tuple #[Value.int IntKind.i64 (0 : Int), Value.int IntKind.i64 (52 : Int)]) H') ∧
 (decide (x < (↑hn : Int)) = false →
 ∃ (a : Addr),
 v1 = some a ∧
 ∃ (b : Bool),
 At H' (a.add (nat_lit 2)) [Value.bool b] ∧
 (b = true → K (Value.tuple #[Value.int IntKind.i64 (IntKind.i64.wrap ((↑hn : Int) - (1 : Int))), Value.int IntKind.i64 (0 : Int)]) H') ∧
 (b = false → K (Value.tuple #[Value.int IntKind.i64 (-1 : Int), Value.int IntKind.i64 (0 : Int)]) H'))
theorem v38 {hA : Option Addr} {hn hc : Nat} {H : Heap} {K : Value → Heap → Prop} (h : F38 hA hn hc H K) : Tr Try.prog 38 #[.slice hA hn hc] H K :=
  tr_of_eq (C := c38) Try.func38 (show vcFn c38 Try.f38 [.slice hA hn hc] H K = F38 hA hn hc H K by kernel_rfl) h

/- tapestry/tapestryref15.Close -/
noncomputable def c39 : Cx := { P := Try.prog, res := [], pub := [], loops := [], quiet := [25, 35], asm := true }
def F39 (hA : Option Addr) (hn hc : Nat) (H : Heap) (K : Value → Heap → Prop) : Prop :=
 ∃ (x : Int),
 ∃ (x1 : Int),
 (Tr Try.prog (35 : Nat) #[Value.slice hA hn hc] H fun (v : Value) (H' : Heap) => v = Value.tuple #[Value.int IntKind.i64 x, Value.int IntKind.i64 x1] ∧ Ax.Sub H H') ∧
 ((x != (0 : Int)) = true → K (Value.tuple #[Value.int IntKind.i64 (0 : Int), Value.int IntKind.i64 x]) H) ∧
 ((x != (0 : Int)) = false →
 (decide ((↑hn : Int) > (0 : Int)) = true →
 ∃ (a : Addr),
 (hA = some a ∧ (0 : Int) ≤ IntKind.i64.wrap ((↑hn : Int) - (1 : Int)) ∧ IntKind.i64.wrap ((↑hn : Int) - (1 : Int)) < (↑hn : Int)) ∧
 ∃ (x2 : Int),
 At H ((a.add ((IntKind.i64.wrap ((↑hn : Int) - (1 : Int))).toNat * nat_lit 9)).add (nat_lit 2)) [Value.int IntKind.i64 x2] ∧
 ∃ (b : Bool),
 (Tr Try.prog (25 : Nat) #[Value.int IntKind.i64 x2] H fun (v1 : Value) (H'1 : Heap) => v1 = Value.bool b ∧ Ax.Sub H H'1) ∧
 (b = true → K (Value.tuple #[Value.int IntKind.i64 (IntKind.i64.wrap ((↑hn : Int) - (1 : Int))), Value.int IntKind.i64 (0 : Int)]) H) ∧
 (b = false → K (Value.tuple #[Value.int IntKind.i64 (-1 : Int), Value.int IntKind.i64 (0 : Int)]) H)) ∧
 (decide ((↑hn : Int) > (0 : Int)) = false → K (Value.tuple #[Value.int IntKind.i64 (-1 : Int), Value.int IntKind.i64 (0 : Int)]) H))
theorem v39 {hA : Option Addr} {hn hc : Nat} {H : Heap} {K : Value → Heap → Prop} (h : F39 hA hn hc H K) : Tr Try.prog 39 #[.slice hA hn hc] H K :=
  tr_of_eq (C := c39) Try.func39 (show vcFn c39 Try.f39 [.slice hA hn hc] H K = F39 hA hn hc H K by kernel_rfl) h

/- tapestry/tapestrylaw15.ints -/
noncomputable def c40 : Cx := { P := Try.prog, res := [], pub := [], loops := [⟨4, [(5, .int .i64)], [4, 11, 12, 13, 14, 15, 16, 17, 18, 19, 20, 21, 22, 23, 24, 25], []⟩], quiet := [], asm := true }
def F40 (aA : Option Addr) (an ac : Nat) (bA : Option Addr) (bn bc : Nat) (H : Heap) (K : Value → Heap → Prop) : Prop :=
 (((↑an : Int) != (↑bn : Int)) = true → K (Value.bool false) H) ∧
 (((↑an : Int) != (↑bn : Int)) = false →
 ∃ (Rel : Int → Heap → Prop),
 ∃ (mu : Int → Heap → Nat),
 Rel (0 : Int) H ∧
 ∀ (x : Int) (H1 : Heap),
 Rel x H1 →
 (decide (x < (↑an : Int)) = true →
 ∃ (a : Addr),
 (aA = some a ∧ (0 : Int) ≤ x ∧ x < (↑an : Int)) ∧
 ∃ (x1 : Int),
 At H1 (a.add (x.toNat * nat_lit 1)) [Value.int IntKind.i64 x1] ∧
 ∃ (a1 : Addr),
 (bA = some a1 ∧ (0 : Int) ≤ x ∧ x < (↑bn : Int)) ∧
 ∃ (x2 : Int),
 At H1 (a1.add (x.toNat * nat_lit 1)) [Value.int IntKind.i64 x2] ∧
 ((x1 != x2) = true → K (Value.bool false) H1) ∧
 ((x1 != x2) = false → Rel (IntKind.i64.wrap (x + (1 : Int))) H1 ∧ mu (IntKind.i64.wrap (x + (1 : Int))) H1 < mu x H1)) ∧
 (decide (x < (↑an : Int)) = false → K (Value.bool true) H1))
theorem v40 {aA : Option Addr} {an ac : Nat} {bA : Option Addr} {bn bc : Nat} {H : Heap} {K : Value → Heap → Prop} (h : F40 aA an ac bA bn bc H K) : Tr Try.prog 40 #[.slice aA an ac, .slice bA bn bc] H K :=
  tr_of_eq (C := c40) Try.func40 (show vcFn c40 Try.f40 [.slice aA an ac, .slice bA bn bc] H K = F40 aA an ac bA bn bc H K by kernel_rfl) h

/- slices.Contains[[]int,int] -/
noncomputable def c55 : Cx := { P := Try.prog, res := [], pub := [], loops := [], quiet := [62], asm := true }
def F55 (sA : Option Addr) (sn sc : Nat) (v : Int) (H : Heap) (K : Value → Heap → Prop) : Prop :=
 ∃ (x : Int),
 (Tr Try.prog (62 : Nat) #[Value.slice sA sn sc, Value.int IntKind.i64 v] H fun (v1 : Value) (H' : Heap) => v1 = Value.int IntKind.i64 x ∧ Ax.Sub H H') ∧
 K (Value.bool (decide (x ≥ (0 : Int)))) H
theorem v55 {sA : Option Addr} {sn sc : Nat} {v : Int} {H : Heap} {K : Value → Heap → Prop} (h : F55 sA sn sc v H K) : Tr Try.prog 55 #[.slice sA sn sc, .int .i64 v] H K :=
  tr_of_eq (C := c55) Try.func55 (show vcFn c55 Try.f55 [.slice sA sn sc, .int .i64 v] H K = F55 sA sn sc v H K by kernel_rfl) h

/- tapestry/tapestrylaw15.list -/
noncomputable def c56 : Cx := { P := Try.prog, res := [], pub := [8], loops := [], quiet := [], asm := true }
def F56  (H : Heap) (K : Value → Heap → Prop) : Prop :=
 ∀ (b : Nat),
 H b = none →
 ∀ (H1 : Heap),
 H1 =
 H.upd b
 (Obj.cells
 #[Value.int IntKind.i64 (1 : Int), Value.int IntKind.i64 (0 : Int), Value.int IntKind.i64 (1 : Int), Value.int IntKind.i64 (0 : Int), Value.int IntKind.i64 (0 : Int),
 Value.int IntKind.i64 (0 : Int), Value.int IntKind.i64 (0 : Int), Value.int IntKind.i64 (0 : Int), Value.int IntKind.i64 (0 : Int), Value.int IntKind.i64 (2 : Int),
 Value.int IntKind.i64 (0 : Int), Value.int IntKind.i64 (2 : Int), Value.int IntKind.i64 (1 : Int), Value.int IntKind.i64 (0 : Int), Value.int IntKind.i64 (0 : Int),
 Value.int IntKind.i64 (0 : Int), Value.int IntKind.i64 (0 : Int), Value.int IntKind.i64 (0 : Int), Value.int IntKind.i64 (3 : Int), Value.int IntKind.i64 (0 : Int),
 Value.int IntKind.i64 (3 : Int), Value.int IntKind.i64 (0 : Int), Value.int IntKind.i64 (0 : Int), Value.int IntKind.i64 (0 : Int), Value.int IntKind.i64 (0 : Int),
 Value.int IntKind.i64 (0 : Int), Value.int IntKind.i64 (0 : Int), Value.int IntKind.i64 (4 : Int), Value.int IntKind.i64 (0 : Int), Value.int IntKind.i64 (4 : Int),
 Value.int IntKind.i64 (9 : Int), Value.int IntKind.i64 (0 : Int), Value.int IntKind.i64 (0 : Int), Value.int IntKind.i64 (0 : Int), Value.int IntKind.i64 (0 : Int),
 Value.int IntKind.i64 (0 : Int), Value.int IntKind.i64 (5 : Int), Value.int IntKind.i64 (0 : Int), Value.int IntKind.i64 (22 : Int),
 Value.int IntKind.i64 (3 : Int), Value.int IntKind.i64 (0 : Int), Value.int IntKind.i64 (1 : Int), Value.int IntKind.i64 (0 : Int), Value.int IntKind.i64 (0 : Int),
 Value.int IntKind.i64 (0 : Int), Value.int IntKind.i64 (6 : Int), Value.int IntKind.i64 (0 : Int), Value.int IntKind.i64 (2 : Int), Value.int IntKind.i64 (5 : Int),
 Value.int IntKind.i64 (0 : Int), Value.int IntKind.i64 (0 : Int), Value.int IntKind.i64 (0 : Int), Value.int IntKind.i64 (0 : Int), Value.int IntKind.i64 (0 : Int),
 Value.int IntKind.i64 (7 : Int), Value.int IntKind.i64 (0 : Int), Value.int IntKind.i64 (15 : Int), Value.int IntKind.i64 (4 : Int),
 Value.int IntKind.i64 (0 : Int), Value.int IntKind.i64 (0 : Int), Value.int IntKind.i64 (0 : Int), Value.int IntKind.i64 (0 : Int), Value.int IntKind.i64 (0 : Int)]
 (23 : Nat)) →
 K (Value.slice (some ({ block := b, off := (0 : Nat) } : Addr)) (7 : Nat) (7 : Nat)) H1
theorem v56 {H : Heap} {K : Value → Heap → Prop} (h : F56  H K) : Tr Try.prog 56 #[] H K :=
  tr_of_eq (C := c56) Try.func56 (show vcFn c56 Try.f56 [] H K = F56  H K by kernel_rfl) h

/- tapestry/grammar.read -/
noncomputable def c57 : Cx := { P := Try.prog, res := [], pub := [9], loops := [⟨3, [(12, .int .i64)], [2, 3, 5, 6, 13, 14, 15, 16, 17, 18, 19, 20, 21, 22, 23, 24, 25, 26, 27, 28, 29, 30, 31, 32, 33, 34, 35, 36, 37, 38, 39, 40, 41, 42, 43, 44, 45, 46, 47, 48], []⟩], quiet := [24, 63], draws := [⟨7, [5], [], false, true⟩, ⟨8, [5, 7], [], false, true⟩], asm := true }
def F57 (hA : Option Addr) (hn hc : Nat) (H : Heap) (K : Value → Heap → Prop) : Prop :=
 ∀ (b : Nat),
 H b = none →
 ∀ (H1 : Heap),
 H1 = H.upd b (Obj.map #[] (0 : Nat)) →
 ∀ (b1 : Nat),
 H1 b1 = none →
 ∀ (H11 : Heap),
 H11 = H1.upd b1 (Obj.cells #[Value.slice none (0 : Nat) (0 : Nat), Value.map (some b), Value.bool false] (92 : Nat)) →
 ∃ (Rel : Int → Heap → Prop),
 ∃ (mu : Int → Heap → Nat),
 Rel (0 : Int) H11 ∧
 ∀ (x : Int) (H1 : Heap),
 Rel x H1 →
 (decide (x < (↑hn : Int)) = true →
 ∃ (a : Addr),
 (hA = some a ∧ (0 : Int) ≤ x ∧ x < (↑hn : Int)) ∧
 ∃ (x1 : Int),
 ∃ (x2 : Int),
 ∃ (x3 : Int),
 ∃ (x4 : Int),
 ∃ (x5 : Int),
 ∃ (x6 : Int),
 ∃ (x7 : Int),
 ∃ (x8 : Int),
 ∃ (x9 : Int),
 At H1 (a.add (x.toNat * nat_lit 9))
 [Value.int IntKind.i64 x1, Value.int IntKind.i64 x2, Value.int IntKind.i64 x3, Value.int IntKind.i64 x4,
 Value.int IntKind.i64 x5, Value.int IntKind.i64 x6, Value.int IntKind.i64 x7, Value.int IntKind.i64 x8,
 Value.int IntKind.i64 x9] ∧
 ∃ (b2 : Bool),
 (Tr Try.prog (63 : Nat)
 #[Value.pointer (some ({ block := b1, off := (0 : Nat) } : Addr)),
 Value.agg
 #[Value.int IntKind.i64 x1, Value.int IntKind.i64 x2, Value.int IntKind.i64 x3, Value.int IntKind.i64 x4,
 Value.int IntKind.i64 x5, Value.int IntKind.i64 x6, Value.int IntKind.i64 x7, Value.int IntKind.i64 x8,
 Value.int IntKind.i64 x9]]
 H1 fun (v : Value) (H' : Heap) => v = Value.bool b2 ∧ Ax.Sub H1 H') ∧
 ((!b2) = true → K (Value.tuple #[Value.pointer (some ({ block := b1, off := (0 : Nat) } : Addr)), Value.int IntKind.i64 x]) H1) ∧
 ((!b2) = false →
 ∃ (a1 : Addr),
 some ({ block := b1, off := (0 : Nat) } : Addr) = some a1 ∧
 (∃ (A : Option Addr),
 ∃ (n : Nat),
 ∃ (c : Nat),
 At H1 (a1.add (nat_lit 0)) [Value.slice A n c] ∧
 appC (23 : Nat) (nat_lit 9) (nat_lit 72) H1 A n c
 [Value.int IntKind.i64 x1, Value.int IntKind.i64 x2, Value.int IntKind.i64 x3,
 Value.int IntKind.i64 x4, Value.int IntKind.i64 x5, Value.int IntKind.i64 x6,
 Value.int IntKind.i64 x7, Value.int IntKind.i64 x8, Value.int IntKind.i64 x9]
 (1 : Nat) fun (A' : Option Addr) (n' c' : Nat) (H'1 : Heap) =>
 ∃ (a2 : Addr),
 some ({ block := b1, off := (0 : Nat) } : Addr) = some a2 ∧
 ∃ (c1 : Array Value),
 ∃ (T : TypeId),
 H'1 (a2.add (nat_lit 0)).block = some (Obj.cells c1 T) ∧
 (a2.add (nat_lit 0)).spot = none ∧
 (a2.add (nat_lit 0)).off + [Value.slice A' n' c'].length ≤ c1.size ∧
 ∀ (H12 : Heap),
 H12 =
 H'1.upd (a2.add (nat_lit 0)).block
 (Obj.cells (splice c1 (a2.add (nat_lit 0)).off [Value.slice A' n' c']) T) →
 ∃ (a3 : Addr),
 some ({ block := b1, off := (0 : Nat) } : Addr) = some a3 ∧
 ∃ (v1 : Option Nat),
 At H12 (a3.add (nat_lit 1)) [Value.map v1] ∧
 Sm Try.prog
 (updU
 (Instr.mapUpdate (90 : Nat) (Value.map v1)
 (Value.agg #[Value.int IntKind.i64 x3, Value.int IntKind.i64 x4])
 (Value.bool true)))
 H12 fun (v2 : Value) (H'2 : Heap) =>
 ∃ (b3 : Bool),
 (Tr Try.prog (24 : Nat) #[Value.int IntKind.i64 x3] H'2
 fun (v3 : Value) (H'3 : Heap) =>
 v3 = Value.bool b3 ∧ Ax.Sub H'2 H'3) ∧
 ∃ (a4 : Addr),
 some ({ block := b1, off := (0 : Nat) } : Addr) = some a4 ∧
 ∃ (c2 : Array Value),
 ∃ (T1 : TypeId),
 H'2 (a4.add (nat_lit 2)).block = some (Obj.cells c2 T1) ∧
 (a4.add (nat_lit 2)).spot = none ∧
 (a4.add (nat_lit 2)).off + [Value.bool b3].length ≤
 c2.size ∧
 ∀ (H13 : Heap),
 H13 =
 H'2.upd (a4.add (nat_lit 2)).block
 (Obj.cells
 (splice c2 (a4.add (nat_lit 2)).off
 [Value.bool b3])
 T1) →
 Rel (IntKind.i64.wrap (x + (1 : Int))) H13 ∧
 mu (IntKind.i64.wrap (x + (1 : Int))) H13 <
 mu x H1) ∧
 ∃ (A1 : Option Addr),
 ∃ (n1 : Nat),
 ∃ (c3 : Nat),
 At H1 (a1.add (nat_lit 0)) [Value.slice A1 n1 c3] ∧
 appC (23 : Nat) (nat_lit 9) (nat_lit 72) H1 A1 n1 c3
 [Value.int IntKind.i64 x1, Value.int IntKind.i64 x2, Value.int IntKind.i64 x3,
 Value.int IntKind.i64 x4, Value.int IntKind.i64 x5, Value.int IntKind.i64 x6,
 Value.int IntKind.i64 x7, Value.int IntKind.i64 x8, Value.int IntKind.i64 x9]
 (1 : Nat) fun (A'1 : Option Addr) (n'1 c'1 : Nat) (H'4 : Heap) =>
 ∃ (a5 : Addr),
 some ({ block := b1, off := (0 : Nat) } : Addr) = some a5 ∧
 ∃ (c4 : Array Value),
 ∃ (T2 : TypeId),
 H'4 (a5.add (nat_lit 0)).block = some (Obj.cells c4 T2) ∧
 (a5.add (nat_lit 0)).spot = none ∧
 (a5.add (nat_lit 0)).off + [Value.slice A'1 n'1 c'1].length ≤ c4.size ∧
 ∀ (H14 : Heap),
 H14 =
 H'4.upd (a5.add (nat_lit 0)).block
 (Obj.cells (splice c4 (a5.add (nat_lit 0)).off [Value.slice A'1 n'1 c'1]) T2) →
 ∃ (a6 : Addr),
 some ({ block := b1, off := (0 : Nat) } : Addr) = some a6 ∧
 ∃ (v4 : Option Nat),
 At H14 (a6.add (nat_lit 1)) [Value.map v4] ∧
 Sm Try.prog
 (updU
 (Instr.mapUpdate (90 : Nat) (Value.map v4)
 (Value.agg #[Value.int IntKind.i64 x3, Value.int IntKind.i64 x4])
 (Value.bool true)))
 H14 fun (v5 : Value) (H'5 : Heap) =>
 ∃ (b4 : Bool),
 (Tr Try.prog (24 : Nat) #[Value.int IntKind.i64 x3] H'5
 fun (v6 : Value) (H'6 : Heap) =>
 v6 = Value.bool b4 ∧ Ax.Sub H'5 H'6) ∧
 ∃ (a7 : Addr),
 some ({ block := b1, off := (0 : Nat) } : Addr) = some a7 ∧
 ∃ (c5 : Array Value),
 ∃ (T3 : TypeId),
 H'5 (a7.add (nat_lit 2)).block = some (Obj.cells c5 T3) ∧
 (a7.add (nat_lit 2)).spot = none ∧
 (a7.add (nat_lit 2)).off + [Value.bool b4].length ≤
 c5.size ∧
 ∀ (H15 : Heap),
 H15 =
 H'5.upd (a7.add (nat_lit 2)).block
 (Obj.cells
 (splice c5 (a7.add (nat_lit 2)).off
 [Value.bool b4])
 T3) →
 Rel (IntKind.i64.wrap (x + (1 : Int))) H15 ∧
 mu (IntKind.i64.wrap (x + (1 : Int))) H15 <
 mu x H1)) ∧
 (decide (x < (↑hn : Int)) = false → K (Value.tuple #[Value.pointer (some ({ block := b1, off := (0 : Nat) } : Addr)), Value.int IntKind.i64 (↑hn : Int)]) H1)
theorem v57 {hA : Option Addr} {hn hc : Nat} {H : Heap} {K : Value → Heap → Prop} (h : F57 hA hn hc H K) : Tr Try.prog 57 #[.slice hA hn hc] H K :=
  tr_of_eq (C := c57) Try.func57 (show vcFn c57 Try.f57 [.slice hA hn hc] H K = F57 hA hn hc H K by kernel_rfl) h

/- tapestry/tapestryref15.May -/
noncomputable def c58 : Cx := { P := Try.prog, res := [], pub := [], loops := [], quiet := [15, 23, 25, 64], asm := true }
def F58 (hA : Option Addr) (hn hc : Nat) (i : Int) (H : Heap) (K : Value → Heap → Prop) : Prop :=
 ∃ (a : Addr),
 (hA = some a ∧ (0 : Int) ≤ i ∧ i < (↑hn : Int)) ∧
 ∃ (x : Int),
 ∃ (x1 : Int),
 ∃ (x2 : Int),
 ∃ (x3 : Int),
 ∃ (x4 : Int),
 ∃ (x5 : Int),
 ∃ (x6 : Int),
 ∃ (x7 : Int),
 ∃ (x8 : Int),
 At H (a.add (i.toNat * nat_lit 9))
 [Value.int IntKind.i64 x, Value.int IntKind.i64 x1, Value.int IntKind.i64 x2, Value.int IntKind.i64 x3, Value.int IntKind.i64 x4,
 Value.int IntKind.i64 x5, Value.int IntKind.i64 x6, Value.int IntKind.i64 x7, Value.int IntKind.i64 x8] ∧
 ∃ (b : Bool),
 (Tr Try.prog (15 : Nat)
 #[Value.agg
 #[Value.int IntKind.i64 x, Value.int IntKind.i64 x1, Value.int IntKind.i64 x2, Value.int IntKind.i64 x3, Value.int IntKind.i64 x4,
 Value.int IntKind.i64 x5, Value.int IntKind.i64 x6, Value.int IntKind.i64 x7, Value.int IntKind.i64 x8]]
 H fun (v : Value) (H' : Heap) => v = Value.bool b ∧ Ax.Sub H H') ∧
 ((!b || x != IntKind.i64.wrap (i + (1 : Int)) || x2 == (1 : Int) && i != (0 : Int) || x2 != (1 : Int) && i == (0 : Int)) = true →
 K (Value.bool false) H) ∧
 ((!b || x != IntKind.i64.wrap (i + (1 : Int)) || x2 == (1 : Int) && i != (0 : Int) || x2 != (1 : Int) && i == (0 : Int)) = false →
 ((i == (0 : Int)) = true → K (Value.bool true) H) ∧
 ((i == (0 : Int)) = false →
 ∃ (a1 : Addr),
 (hA = some a1 ∧ (0 : Int) ≤ IntKind.i64.wrap (i - (1 : Int)) ∧ IntKind.i64.wrap (i - (1 : Int)) < (↑hn : Int)) ∧
 ∃ (x9 : Int),
 ∃ (x10 : Int),
 ∃ (x11 : Int),
 ∃ (x12 : Int),
 ∃ (x13 : Int),
 ∃ (x14 : Int),
 ∃ (x15 : Int),
 ∃ (x16 : Int),
 ∃ (x17 : Int),
 At H (a1.add ((IntKind.i64.wrap (i - (1 : Int))).toNat * nat_lit 9))
 [Value.int IntKind.i64 x9, Value.int IntKind.i64 x10, Value.int IntKind.i64 x11, Value.int IntKind.i64 x12,
 Value.int IntKind.i64 x13, Value.int IntKind.i64 x14, Value.int IntKind.i64 x15, Value.int IntKind.i64 x16,
 Value.int IntKind.i64 x17] ∧
 ∃ (b1 : Bool),
 (Tr Try.prog (25 : Nat) #[Value.int IntKind.i64 x11] H fun (v1 : Value) (H'1 : Heap) =>
 v1 = Value.bool b1 ∧ Ax.Sub H H'1) ∧
 ((decide (x1 < x10) || b1 || x2 == (2 : Int) && x3 != i) = true → K (Value.bool false) H) ∧
 ((decide (x1 < x10) || b1 || x2 == (2 : Int) && x3 != i) = false →
 ∃ (b2 : Bool),
 (Tr Try.prog (23 : Nat) #[Value.int IntKind.i64 x2] H fun (v2 : Value) (H'2 : Heap) =>
 v2 = Value.bool b2 ∧ Ax.Sub H H'2) ∧
 ∃ (b3 : Bool),
 (Tr Try.prog (23 : Nat) #[Value.int IntKind.i64 x11] H fun (v3 : Value) (H'3 : Heap) =>
 v3 = Value.bool b3 ∧ Ax.Sub H H'3) ∧
 ((b2 && !(x2 == (16 : Int) && x3 == (-4 : Int)) && (x11 != (2 : Int) && !b3 || x1 != x10)) = true →
 K (Value.bool false) H) ∧
 ((b2 && !(x2 == (16 : Int) && x3 == (-4 : Int)) && (x11 != (2 : Int) && !b3 || x1 != x10)) = false →
 ∃ (b4 : Bool),
 (Tr Try.prog (64 : Nat) #[Value.slice hA hn hc, Value.int IntKind.i64 i] H
 fun (v4 : Value) (H'4 : Heap) => v4 = Value.bool b4 ∧ Ax.Sub H H'4) ∧
 K (Value.bool b4) H))))
theorem v58 {hA : Option Addr} {hn hc : Nat} {i : Int} {H : Heap} {K : Value → Heap → Prop} (h : F58 hA hn hc i H K) : Tr Try.prog 58 #[.slice hA hn hc, .int .i64 i] H K :=
  tr_of_eq (C := c58) Try.func58 (show vcFn c58 Try.f58 [.slice hA hn hc, .int .i64 i] H K = F58 hA hn hc i H K by kernel_rfl) h

/- (ptr tapestry/grammar.book).none -/
noncomputable def c59 : Cx := { P := Try.prog, res := [], pub := [], loops := [⟨2, [(11, .int .i64)], [6, 8, 12, 13, 14, 15, 16, 17, 18, 19, 20, 21, 22, 23], []⟩], quiet := [], asm := true }
def F59 (b : Option Addr) (id : Int) (kindsA : Option Addr) (kindsn kindsc : Nat) (H : Heap) (K : Value → Heap → Prop) : Prop :=
 ∃ (Rel : Int → Heap → Prop),
 ∃ (mu : Int → Heap → Nat),
 Rel (0 : Int) H ∧
 ∀ (x : Int) (H1 : Heap),
 Rel x H1 →
 (decide (x < (↑kindsn : Int)) = true →
 ∃ (a : Addr),
 (kindsA = some a ∧ (0 : Int) ≤ x ∧ x < (↑kindsn : Int)) ∧
 ∃ (x1 : Int),
 At H1 (a.add (x.toNat * nat_lit 1)) [Value.int IntKind.i64 x1] ∧
 ∃ (a1 : Addr),
 b = some a1 ∧
 ∃ (v : Option Nat),
 At H1 (a1.add (nat_lit 1)) [Value.map v] ∧
 Sm Try.prog (Instr.lookup (90 : Nat) (Value.map v) (Value.agg #[Value.int IntKind.i64 x1, Value.int IntKind.i64 id]) false) H1
 fun (v1 : Value) (H' : Heap) =>
 ∃ (b1 : Bool),
 v1 = Value.bool b1 ∧
 (b1 = true → K (Value.bool false) H') ∧
 (b1 = false → Rel (IntKind.i64.wrap (x + (1 : Int))) H' ∧ mu (IntKind.i64.wrap (x + (1 : Int))) H' < mu x H1)) ∧
 (decide (x < (↑kindsn : Int)) = false → K (Value.bool true) H1)
theorem v59 {b : Option Addr} {id : Int} {kindsA : Option Addr} {kindsn kindsc : Nat} {H : Heap} {K : Value → Heap → Prop} (h : F59 b id kindsA kindsn kindsc H K) : Tr Try.prog 59 #[.pointer b, .int .i64 id, .slice kindsA kindsn kindsc] H K :=
  tr_of_eq (C := c59) Try.func59 (show vcFn c59 Try.f59 [.pointer b, .int .i64 id, .slice kindsA kindsn kindsc] H K = F59 b id kindsA kindsn kindsc H K by kernel_rfl) h

/- tapestry/tapestryref15.named -/
noncomputable def c60 : Cx := { P := Try.prog, res := [], pub := [], loops := [⟨2, [(9, .int .i64)], [8, 10, 11, 12, 13, 14, 15, 16, 17, 18, 19, 20, 21, 22, 23, 24, 25, 26, 27, 28, 29, 30, 31, 32], []⟩], quiet := [31], asm := true }
def F60 (hA : Option Addr) (hn hc : Nat) (to0 : Int) (id : Int) (kindsA : Option Addr) (kindsn kindsc : Nat) (H : Heap) (K : Value → Heap → Prop) : Prop :=
 ∃ (Rel : Int → Heap → Prop),
 ∃ (mu : Int → Heap → Nat),
 Rel (0 : Int) H ∧
 ∀ (x : Int) (H1 : Heap),
 Rel x H1 →
 (decide (x < to0) = true →
 ∃ (a : Addr),
 (hA = some a ∧ (0 : Int) ≤ x ∧ x < (↑hn : Int)) ∧
 ∃ (x1 : Int),
 At H1 ((a.add (x.toNat * nat_lit 9)).add (nat_lit 2)) [Value.int IntKind.i64 x1] ∧
 ∃ (b : Bool),
 (Tr Try.prog (31 : Nat) #[Value.slice kindsA kindsn kindsc, Value.int IntKind.i64 x1] H1 fun (v : Value) (H' : Heap) => v = Value.bool b ∧ Ax.Sub H1 H') ∧
 ∃ (a1 : Addr),
 (b = true → hA = some a1 ∧ (0 : Int) ≤ x ∧ x < (↑hn : Int)) ∧
 ∃ (x2 : Int),
 (b = true → At H1 ((a1.add (x.toNat * nat_lit 9)).add (nat_lit 3)) [Value.int IntKind.i64 x2]) ∧
 ((b && x2 == id) = true → K (Value.bool true) H1) ∧
 ((b && x2 == id) = false → Rel (IntKind.i64.wrap (x + (1 : Int))) H1 ∧ mu (IntKind.i64.wrap (x + (1 : Int))) H1 < mu x H1)) ∧
 (decide (x < to0) = false → K (Value.bool false) H1)
theorem v60 {hA : Option Addr} {hn hc : Nat} {to0 : Int} {id : Int} {kindsA : Option Addr} {kindsn kindsc : Nat} {H : Heap} {K : Value → Heap → Prop} (h : F60 hA hn hc to0 id kindsA kindsn kindsc H K) : Tr Try.prog 60 #[.slice hA hn hc, .int .i64 to0, .int .i64 id, .slice kindsA kindsn kindsc] H K :=
  tr_of_eq (C := c60) Try.func60 (show vcFn c60 Try.f60 [.slice hA hn hc, .int .i64 to0, .int .i64 id, .slice kindsA kindsn kindsc] H K = F60 hA hn hc to0 id kindsA kindsn kindsc H K by kernel_rfl) h

/- slices.Index[[]int,int] -/
noncomputable def c62 : Cx := { P := Try.prog, res := [], pub := [], loops := [⟨2, [(8, .int .i64)], [4, 5, 9, 10, 11, 12, 13, 14, 15, 16, 17, 18], []⟩], quiet := [], asm := true }
def F62 (sA : Option Addr) (sn sc : Nat) (v : Int) (H : Heap) (K : Value → Heap → Prop) : Prop :=
 ∃ (Rel : Int → Heap → Prop),
 ∃ (mu : Int → Heap → Nat),
 Rel (0 : Int) H ∧
 ∀ (x : Int) (H1 : Heap),
 Rel x H1 →
 (decide (x < (↑sn : Int)) = true →
 ∃ (a : Addr),
 (sA = some a ∧ (0 : Int) ≤ x ∧ x < (↑sn : Int)) ∧
 ∃ (x1 : Int),
 At H1 (a.add (x.toNat * nat_lit 1)) [Value.int IntKind.i64 x1] ∧
 ((v == x1) = true → K (Value.int IntKind.i64 x) H1) ∧
 ((v == x1) = false → Rel (IntKind.i64.wrap (x + (1 : Int))) H1 ∧ mu (IntKind.i64.wrap (x + (1 : Int))) H1 < mu x H1)) ∧
 (decide (x < (↑sn : Int)) = false → K (Value.int IntKind.i64 (-1 : Int)) H1)
theorem v62 {sA : Option Addr} {sn sc : Nat} {v : Int} {H : Heap} {K : Value → Heap → Prop} (h : F62 sA sn sc v H K) : Tr Try.prog 62 #[.slice sA sn sc, .int .i64 v] H K :=
  tr_of_eq (C := c62) Try.func62 (show vcFn c62 Try.f62 [.slice sA sn sc, .int .i64 v] H K = F62 sA sn sc v H K by kernel_rfl) h

/- (ptr tapestry/grammar.book).may -/
noncomputable def c63 : Cx := { P := Try.prog, res := [], pub := [], loops := [], quiet := [14, 22, 65], asm := true }
def F63 (b : Option Addr) (eId : Int) (eTime : Int) (eKind : Int) (eA : Int) (eB : Int) (eC : Int) (eD : Int) (eE : Int) (eF : Int) (H : Heap) (K : Value → Heap → Prop) : Prop :=
 ∃ (a : Addr),
 b = some a ∧
 ∃ (A : Option Addr),
 ∃ (n : Nat),
 ∃ (c : Nat),
 At H (a.add (nat_lit 0)) [Value.slice A n c] ∧
 ∃ (b1 : Bool),
 (Tr Try.prog (14 : Nat)
 #[Value.agg
 #[Value.int IntKind.i64 eId, Value.int IntKind.i64 eTime, Value.int IntKind.i64 eKind, Value.int IntKind.i64 eA, Value.int IntKind.i64 eB,
 Value.int IntKind.i64 eC, Value.int IntKind.i64 eD, Value.int IntKind.i64 eE, Value.int IntKind.i64 eF]]
 H fun (v : Value) (H' : Heap) => v = Value.bool b1 ∧ Ax.Sub H H') ∧
 ∃ (a1 : Addr),
 ((!(!b1 || eId != IntKind.i64.wrap ((↑n : Int) + (1 : Int)))) = true → b = some a1) ∧
 ∃ (b2 : Bool),
 ((!(!b1 || eId != IntKind.i64.wrap ((↑n : Int) + (1 : Int)))) = true → At H (a1.add (nat_lit 2)) [Value.bool b2]) ∧
 ((!b1 || eId != IntKind.i64.wrap ((↑n : Int) + (1 : Int)) || b2 || !(eKind == (1 : Int)) == ((↑n : Int) == (0 : Int))) = true → K (Value.bool false) H) ∧
 ((!b1 || eId != IntKind.i64.wrap ((↑n : Int) + (1 : Int)) || b2 || !(eKind == (1 : Int)) == ((↑n : Int) == (0 : Int))) = false →
 (((↑n : Int) == (0 : Int)) = true → K (Value.bool true) H) ∧
 (((↑n : Int) == (0 : Int)) = false →
 ∃ (a2 : Addr),
 b = some a2 ∧
 ∃ (A1 : Option Addr),
 ∃ (n1 : Nat),
 ∃ (c1 : Nat),
 At H (a2.add (nat_lit 0)) [Value.slice A1 n1 c1] ∧
 ∃ (a3 : Addr),
 (A1 = some a3 ∧ (0 : Int) ≤ IntKind.i64.wrap ((↑n : Int) - (1 : Int)) ∧ IntKind.i64.wrap ((↑n : Int) - (1 : Int)) < (↑n1 : Int)) ∧
 ∃ (x : Int),
 ∃ (x1 : Int),
 ∃ (x2 : Int),
 ∃ (x3 : Int),
 ∃ (x4 : Int),
 ∃ (x5 : Int),
 ∃ (x6 : Int),
 ∃ (x7 : Int),
 ∃ (x8 : Int),
 At H (a3.add ((IntKind.i64.wrap ((↑n : Int) - (1 : Int))).toNat * nat_lit 9))
 [Value.int IntKind.i64 x, Value.int IntKind.i64 x1, Value.int IntKind.i64 x2, Value.int IntKind.i64 x3,
 Value.int IntKind.i64 x4, Value.int IntKind.i64 x5, Value.int IntKind.i64 x6, Value.int IntKind.i64 x7,
 Value.int IntKind.i64 x8] ∧
 ((decide (eTime < x1) || eKind == (2 : Int) && eA != (↑n : Int)) = true → K (Value.bool false) H) ∧
 ((decide (eTime < x1) || eKind == (2 : Int) && eA != (↑n : Int)) = false →
 ∃ (b3 : Bool),
 (Tr Try.prog (22 : Nat) #[Value.int IntKind.i64 eKind] H fun (v1 : Value) (H'1 : Heap) =>
 v1 = Value.bool b3 ∧ Ax.Sub H H'1) ∧
 ((b3 && !(eKind == (16 : Int) && eA == (-4 : Int))) = true →
 ∃ (b4 : Bool),
 ((x2 != (2 : Int)) = true →
 Tr Try.prog (22 : Nat) #[Value.int IntKind.i64 x2] H fun (v2 : Value) (H'2 : Heap) =>
 v2 = Value.bool b4 ∧ Ax.Sub H H'2) ∧
 ((x2 != (2 : Int) && !b4 || eTime != x1) = true → K (Value.bool false) H) ∧
 ((x2 != (2 : Int) && !b4 || eTime != x1) = false →
 ∃ (b5 : Bool),
 (Tr Try.prog (65 : Nat)
 #[Value.pointer b,
 Value.agg
 #[Value.int IntKind.i64 eId, Value.int IntKind.i64 eTime,
 Value.int IntKind.i64 eKind, Value.int IntKind.i64 eA, Value.int IntKind.i64 eB,
 Value.int IntKind.i64 eC, Value.int IntKind.i64 eD, Value.int IntKind.i64 eE,
 Value.int IntKind.i64 eF]]
 H fun (v3 : Value) (H'3 : Heap) => v3 = Value.bool b5 ∧ Ax.Sub H H'3) ∧
 K (Value.bool b5) H)) ∧
 ((b3 && !(eKind == (16 : Int) && eA == (-4 : Int))) = false →
 ∃ (b6 : Bool),
 (Tr Try.prog (65 : Nat)
 #[Value.pointer b,
 Value.agg
 #[Value.int IntKind.i64 eId, Value.int IntKind.i64 eTime, Value.int IntKind.i64 eKind,
 Value.int IntKind.i64 eA, Value.int IntKind.i64 eB, Value.int IntKind.i64 eC,
 Value.int IntKind.i64 eD, Value.int IntKind.i64 eE, Value.int IntKind.i64 eF]]
 H fun (v4 : Value) (H'4 : Heap) => v4 = Value.bool b6 ∧ Ax.Sub H H'4) ∧
 K (Value.bool b6) H))))
theorem v63 {b : Option Addr} {eId : Int} {eTime : Int} {eKind : Int} {eA : Int} {eB : Int} {eC : Int} {eD : Int} {eE : Int} {eF : Int} {H : Heap} {K : Value → Heap → Prop} (h : F63 b eId eTime eKind eA eB eC eD eE eF H K) : Tr Try.prog 63 #[.pointer b, .agg #[.int .i64 eId, .int .i64 eTime, .int .i64 eKind, .int .i64 eA, .int .i64 eB, .int .i64 eC, .int .i64 eD, .int .i64 eE, .int .i64 eF]] H K :=
  tr_of_eq (C := c63) Try.func63 (show vcFn c63 Try.f63 [.pointer b, .agg #[.int .i64 eId, .int .i64 eTime, .int .i64 eKind, .int .i64 eA, .int .i64 eB, .int .i64 eC, .int .i64 eD, .int .i64 eE, .int .i64 eF]] H K = F63 b eId eTime eKind eA eB eC eD eE eF H K by kernel_rfl) h

/- tapestry/tapestryref15.names -/
noncomputable def c64 : Cx := { P := Try.prog, res := [], pub := [49, 54, 59, 64, 69, 74, 79, 84, 89, 94], loops := [], quiet := [60, 66], asm := true }
def F64 (hA : Option Addr) (hn hc : Nat) (i : Int) (H : Heap) (K : Value → Heap → Prop) : Prop :=
 ∃ (a : Addr),
 (hA = some a ∧ (0 : Int) ≤ i ∧ i < (↑hn : Int)) ∧
 ∃ (x : Int),
 At H ((a.add (i.toNat * nat_lit 9)).add (nat_lit 3)) [Value.int IntKind.i64 x] ∧
 ∃ (b : Bool),
 (Tr Try.prog (66 : Nat) #[Value.slice hA hn hc, Value.int IntKind.i64 i, Value.int IntKind.i64 x, Value.int IntKind.i64 (3 : Int)] H fun (v : Value) (H' : Heap) =>
 v = Value.bool b ∧ Ax.Sub H H') ∧
 ∃ (b1 : Bool),
 (Tr Try.prog (66 : Nat) #[Value.slice hA hn hc, Value.int IntKind.i64 i, Value.int IntKind.i64 x, Value.int IntKind.i64 (4 : Int)] H fun (v1 : Value) (H'1 : Heap) =>
 v1 = Value.bool b1 ∧ Ax.Sub H H'1) ∧
 ∃ (b2 : Bool),
 (Tr Try.prog (66 : Nat) #[Value.slice hA hn hc, Value.int IntKind.i64 i, Value.int IntKind.i64 x, Value.int IntKind.i64 (5 : Int)] H
 fun (v2 : Value) (H'2 : Heap) => v2 = Value.bool b2 ∧ Ax.Sub H H'2) ∧
 ∃ (b3 : Bool),
 (Tr Try.prog (66 : Nat) #[Value.slice hA hn hc, Value.int IntKind.i64 i, Value.int IntKind.i64 x, Value.int IntKind.i64 (9 : Int)] H
 fun (v3 : Value) (H'3 : Heap) => v3 = Value.bool b3 ∧ Ax.Sub H H'3) ∧
 ∃ (b4 : Bool),
 (Tr Try.prog (66 : Nat) #[Value.slice hA hn hc, Value.int IntKind.i64 i, Value.int IntKind.i64 x, Value.int IntKind.i64 (21 : Int)] H
 fun (v4 : Value) (H'4 : Heap) => v4 = Value.bool b4 ∧ Ax.Sub H H'4) ∧
 ∀ (b5 : Nat),
 H b5 = none →
 ∀ (H1 : Heap),
 H1 =
 H.upd b5
 (Obj.cells
 #[Value.int IntKind.i64 (6 : Int), Value.int IntKind.i64 (22 : Int), Value.int IntKind.i64 (23 : Int), Value.int IntKind.i64 (24 : Int)]
 (3 : Nat)) →
 ∃ (b6 : Bool),
 (Tr Try.prog (60 : Nat)
 #[Value.slice hA hn hc, Value.int IntKind.i64 i, Value.int IntKind.i64 x,
 Value.slice (some ({ block := b5, off := (0 : Nat) } : Addr)) (4 : Nat) (4 : Nat)]
 H1 fun (v5 : Value) (H'5 : Heap) => v5 = Value.bool b6 ∧ Ax.Sub H1 H'5) ∧
 ∀ (b7 : Nat),
 H1 b7 = none →
 ∀ (H11 : Heap),
 H11 = H1.upd b7 (Obj.cells #[Value.int IntKind.i64 (7 : Int), Value.int IntKind.i64 (25 : Int)] (3 : Nat)) →
 ∃ (b8 : Bool),
 (Tr Try.prog (60 : Nat)
 #[Value.slice hA hn hc, Value.int IntKind.i64 i, Value.int IntKind.i64 x,
 Value.slice (some ({ block := b7, off := (0 : Nat) } : Addr)) (2 : Nat) (2 : Nat)]
 H11 fun (v6 : Value) (H'6 : Heap) => v6 = Value.bool b8 ∧ Ax.Sub H11 H'6) ∧
 ∀ (b9 : Nat),
 H11 b9 = none →
 ∀ (H12 : Heap),
 H12 = H11.upd b9 (Obj.cells #[Value.int IntKind.i64 (26 : Int), Value.int IntKind.i64 (27 : Int)] (3 : Nat)) →
 ∃ (b10 : Bool),
 (Tr Try.prog (60 : Nat)
 #[Value.slice hA hn hc, Value.int IntKind.i64 i, Value.int IntKind.i64 x,
 Value.slice (some ({ block := b9, off := (0 : Nat) } : Addr)) (2 : Nat) (2 : Nat)]
 H12 fun (v7 : Value) (H'7 : Heap) => v7 = Value.bool b10 ∧ Ax.Sub H12 H'7) ∧
 ∀ (b11 : Nat),
 H12 b11 = none →
 ∀ (H13 : Heap),
 H13 = H12.upd b11 (Obj.cells #[Value.int IntKind.i64 (26 : Int)] (3 : Nat)) →
 ∃ (b12 : Bool),
 (Tr Try.prog (60 : Nat)
 #[Value.slice hA hn hc, Value.int IntKind.i64 i, Value.int IntKind.i64 x,
 Value.slice (some ({ block := b11, off := (0 : Nat) } : Addr)) (1 : Nat) (1 : Nat)]
 H13 fun (v8 : Value) (H'8 : Heap) => v8 = Value.bool b12 ∧ Ax.Sub H13 H'8) ∧
 ∀ (b13 : Nat),
 H13 b13 = none →
 ∀ (H14 : Heap),
 H14 = H13.upd b13 (Obj.cells #[Value.int IntKind.i64 (28 : Int)] (3 : Nat)) →
 ∃ (b14 : Bool),
 (Tr Try.prog (60 : Nat)
 #[Value.slice hA hn hc, Value.int IntKind.i64 i, Value.int IntKind.i64 x,
 Value.slice (some ({ block := b13, off := (0 : Nat) } : Addr)) (1 : Nat) (1 : Nat)]
 H14 fun (v9 : Value) (H'9 : Heap) => v9 = Value.bool b14 ∧ Ax.Sub H14 H'9) ∧
 ∀ (b15 : Nat),
 H14 b15 = none →
 ∀ (H15 : Heap),
 H15 =
 H14.upd b15
 (Obj.cells
 #[Value.int IntKind.i64 (8 : Int), Value.int IntKind.i64 (27 : Int),
 Value.int IntKind.i64 (28 : Int)]
 (3 : Nat)) →
 ∃ (b16 : Bool),
 (Tr Try.prog (60 : Nat)
 #[Value.slice hA hn hc, Value.int IntKind.i64 i, Value.int IntKind.i64 x,
 Value.slice (some ({ block := b15, off := (0 : Nat) } : Addr)) (3 : Nat) (3 : Nat)]
 H15 fun (v10 : Value) (H'10 : Heap) =>
 v10 = Value.bool b16 ∧ Ax.Sub H15 H'10) ∧
 ∀ (b17 : Nat),
 H15 b17 = none →
 ∀ (H16 : Heap),
 H16 =
 H15.upd b17
 (Obj.cells #[Value.int IntKind.i64 (29 : Int)] (3 : Nat)) →
 ∃ (b18 : Bool),
 (Tr Try.prog (60 : Nat)
 #[Value.slice hA hn hc, Value.int IntKind.i64 i,
 Value.int IntKind.i64 x,
 Value.slice (some ({ block := b17, off := (0 : Nat) } : Addr)) (1 : Nat)
 (1 : Nat)]
 H16 fun (v11 : Value) (H'11 : Heap) =>
 v11 = Value.bool b18 ∧ Ax.Sub H16 H'11) ∧
 ∀ (b19 : Nat),
 H16 b19 = none →
 ∀ (H17 : Heap),
 H17 =
 H16.upd b19
 (Obj.cells
 #[Value.int IntKind.i64 (12 : Int),
 Value.int IntKind.i64 (13 : Int)]
 (3 : Nat)) →
 ∃ (b20 : Bool),
 (Tr Try.prog (60 : Nat)
 #[Value.slice hA hn hc, Value.int IntKind.i64 i,
 Value.int IntKind.i64 x,
 Value.slice
 (some ({ block := b19, off := (0 : Nat) } : Addr))
 (2 : Nat) (2 : Nat)]
 H17 fun (v12 : Value) (H'12 : Heap) =>
 v12 = Value.bool b20 ∧ Ax.Sub H17 H'12) ∧
 ∀ (b21 : Nat),
 H17 b21 = none →
 ∀ (H18 : Heap),
 H18 =
 H17.upd b21
 (Obj.cells
 #[Value.int IntKind.i64 (12 : Int)]
 (3 : Nat)) →
 ∃ (b22 : Bool),
 (Tr Try.prog (60 : Nat)
 #[Value.slice hA hn hc,
 Value.int IntKind.i64 i,
 Value.int IntKind.i64 x,
 Value.slice
 (some
 ({ block := b21, off := (0 : Nat) } : Addr))
 (1 : Nat) (1 : Nat)]
 H18 fun (v13 : Value) (H'13 : Heap) =>
 v13 = Value.bool b22 ∧ Ax.Sub H18 H'13) ∧
 ∀ (b23 : Nat),
 H18 b23 = none →
 ∀ (H19 : Heap),
 H19 =
 H18.upd b23
 (Obj.cells
 #[Value.int IntKind.i64
 (14 : Int)]
 (3 : Nat)) →
 ∃ (b24 : Bool),
 (Tr Try.prog (60 : Nat)
 #[Value.slice hA hn hc,
 Value.int IntKind.i64 i,
 Value.int IntKind.i64 x,
 Value.slice
 (some
 ({ block := b23, off := (0 : Nat) } : Addr))
 (1 : Nat) (1 : Nat)]
 H19
 fun (v14 : Value)
 (H'14 : Heap) =>
 v14 = Value.bool b24 ∧
 Ax.Sub H19 H'14) ∧
 ∃ (a1 : Addr),
 (hA = some a1 ∧
 (0 : Int) ≤ i ∧
 i < (↑hn : Int)) ∧
 ∃ (x1 : Int),
 At H19
 ((a1.add
 (i.toNat *
 nat_lit
 9)).add
 (nat_lit 2))
 [Value.int IntKind.i64
 x1] ∧
 ((x1 == (6 : Int)) =
 true →
 K
 (Value.bool
 (b && !b6))
 H19) ∧
 ((x1 == (6 : Int)) =
 false →
 ((x1 ==
 (22 :
 Int)) =
 true →
 K
 (Value.bool
 (b && !b6))
 H19) ∧
 ((x1 ==
 (22 :
 Int)) =
 false →
 ((x1 ==
 (23 :
 Int)) =
 true →
 K
 (Value.bool
 (b &&
 !b6))
 H19) ∧
 ((x1 ==
 (23 :
 Int)) =
 false →
 ((x1 ==
 (24 :
 Int)) =
 true →
 K
 (Value.bool
 (b &&
 !b6))
 H19) ∧
 ((x1 ==
 (24 :
 Int)) =
 false →
 ((x1 ==
 (7 :
 Int)) =
 true →
 K
 (Value.bool
 (b1 &&
 !b8))
 H19) ∧
 ((x1 ==
 (7 :
 Int)) =
 false →
 ((x1 ==
 (25 :
 Int)) =
 true →
 ∃
 (a2
 :
 Addr),
 ((b1 &&
 !b8) =
 true →
 hA =
 some
 a2 ∧
 (0 :
 Int) ≤
 i ∧
 i <
 (↑hn :
 Int)) ∧
 ∃
 (x2
 :
 Int),
 ((b1 &&
 !b8) =
 true →
 At
 H19
 ((a2.add
 (i.toNat *
 nat_lit
 9)).add
 (nat_lit
 1))
 [Value.int
 IntKind.i64
 x2]) ∧
 ∃
 (a3
 :
 Addr),
 ((b1 &&
 !b8) =
 true →
 hA =
 some
 a3 ∧
 (0 :
 Int) ≤
 IntKind.i64.wrap
 (x -
 (1 :
 Int)) ∧
 IntKind.i64.wrap
 (x -
 (1 :
 Int)) <
 (↑hn :
 Int)) ∧
 ∃
 (x3
 :
 Int),
 ((b1 &&
 !b8) =
 true →
 At
 H19
 ((a3.add
 ((IntKind.i64.wrap
 (x -
 (1 :
 Int))).toNat *
 nat_lit
 9)).add
 (nat_lit
 3))
 [Value.int
 IntKind.i64
 x3]) ∧
 K
 (Value.bool
 (b1 &&
 !b8 &&
 decide
 (x2 ≥
 x3)))
 H19) ∧
 ((x1 ==
 (25 :
 Int)) =
 false →
 ((x1 ==
 (26 :
 Int)) =
 true →
 K
 (Value.bool
 (b2 &&
 !b10))
 H19) ∧
 ((x1 ==
 (26 :
 Int)) =
 false →
 ((x1 ==
 (27 :
 Int)) =
 true →
 K
 (Value.bool
 (b2 &&
 !b10))
 H19) ∧
 ((x1 ==
 (27 :
 Int)) =
 false →
 ((x1 ==
 (28 :
 Int)) =
 true →
 K
 (Value.bool
 (b2 &&
 b12 &&
 !b14))
 H19) ∧
 ((x1 ==
 (28 :
 Int)) =
 false →
 ((x1 ==
 (8 :
 Int)) =
 true →
 K
 (Value.bool
 (b2 &&
 !b16))
 H19) ∧
 ((x1 ==
 (8 :
 Int)) =
 false →
 ((x1 ==
 (9 :
 Int)) =
 true →
 K
 (Value.bool
 b2)
 H19) ∧
 ((x1 ==
 (9 :
 Int)) =
 false →
 ((x1 ==
 (29 :
 Int)) =
 true →
 K
 (Value.bool
 (b3 &&
 !b18))
 H19) ∧
 ((x1 ==
 (29 :
 Int)) =
 false →
 ((x1 ==
 (12 :
 Int)) =
 true →
 K
 (Value.bool
 (b4 &&
 !b20))
 H19) ∧
 ((x1 ==
 (12 :
 Int)) =
 false →
 ((x1 ==
 (13 :
 Int)) =
 true →
 K
 (Value.bool
 (b4 &&
 !b20))
 H19) ∧
 ((x1 ==
 (13 :
 Int)) =
 false →
 ((x1 ==
 (14 :
 Int)) =
 true →
 K
 (Value.bool
 (b4 &&
 b22 &&
 !b24))
 H19) ∧
 ((x1 ==
 (14 :
 Int)) =
 false →
 K
 (Value.bool
 true)
 H19)))))))))))))))
theorem v64 {hA : Option Addr} {hn hc : Nat} {i : Int} {H : Heap} {K : Value → Heap → Prop} (h : F64 hA hn hc i H K) : Tr Try.prog 64 #[.slice hA hn hc, .int .i64 i] H K :=
  tr_of_eq (C := c64) Try.func64 (show vcFn c64 Try.f64 [.slice hA hn hc, .int .i64 i] H K = F64 hA hn hc i H K by kernel_rfl) h

/- (ptr tapestry/grammar.book).names -/
noncomputable def c65 : Cx := { P := Try.prog, res := [], pub := [20, 33, 46, 75, 88, 96, 109, 128, 142, 155, 163], loops := [], quiet := [59, 67], draws := [⟨10, [2, 7, 13, 17, 19, 23], [], true, true⟩], asm := true }
def F65 (b : Option Addr) (eId : Int) (eTime : Int) (eKind : Int) (eA : Int) (eB : Int) (eC : Int) (eD : Int) (eE : Int) (eF : Int) (H : Heap) (K : Value → Heap → Prop) : Prop :=
 ((eKind == (6 : Int)) = true →
 ∃ (b1 : Bool),
 (Tr Try.prog (67 : Nat) #[Value.pointer b, Value.int IntKind.i64 eA, Value.int IntKind.i64 (3 : Int)] H fun (v : Value) (H' : Heap) => v = Value.bool b1 ∧ Ax.Sub H H') ∧
 (b1 = true →
 ∀ (b2 : Nat),
 H b2 = none →
 ∀ (H1 : Heap),
 H1 =
 H.upd b2
 (Obj.cells #[Value.int IntKind.i64 (6 : Int), Value.int IntKind.i64 (22 : Int), Value.int IntKind.i64 (23 : Int), Value.int IntKind.i64 (24 : Int)]
 (3 : Nat)) →
 ∃ (b3 : Bool),
 (Tr Try.prog (59 : Nat) #[Value.pointer b, Value.int IntKind.i64 eA, Value.slice (some ({ block := b2, off := (0 : Nat) } : Addr)) (4 : Nat) (4 : Nat)] H1
 fun (v1 : Value) (H'1 : Heap) => v1 = Value.bool b3 ∧ Ax.Sub H1 H'1) ∧
 K (Value.bool b3) H1) ∧
 (b1 = false → K (Value.bool false) H)) ∧
 ((eKind == (6 : Int)) = false →
 ((eKind == (22 : Int)) = true →
 ∃ (b4 : Bool),
 (Tr Try.prog (67 : Nat) #[Value.pointer b, Value.int IntKind.i64 eA, Value.int IntKind.i64 (3 : Int)] H fun (v2 : Value) (H'2 : Heap) =>
 v2 = Value.bool b4 ∧ Ax.Sub H H'2) ∧
 (b4 = true →
 ∀ (b5 : Nat),
 H b5 = none →
 ∀ (H11 : Heap),
 H11 =
 H.upd b5
 (Obj.cells #[Value.int IntKind.i64 (6 : Int), Value.int IntKind.i64 (22 : Int), Value.int IntKind.i64 (23 : Int), Value.int IntKind.i64 (24 : Int)]
 (3 : Nat)) →
 ∃ (b6 : Bool),
 (Tr Try.prog (59 : Nat) #[Value.pointer b, Value.int IntKind.i64 eA, Value.slice (some ({ block := b5, off := (0 : Nat) } : Addr)) (4 : Nat) (4 : Nat)] H11
 fun (v3 : Value) (H'3 : Heap) => v3 = Value.bool b6 ∧ Ax.Sub H11 H'3) ∧
 K (Value.bool b6) H11) ∧
 (b4 = false → K (Value.bool false) H)) ∧
 ((eKind == (22 : Int)) = false →
 ((eKind == (23 : Int)) = true →
 ∃ (b7 : Bool),
 (Tr Try.prog (67 : Nat) #[Value.pointer b, Value.int IntKind.i64 eA, Value.int IntKind.i64 (3 : Int)] H fun (v4 : Value) (H'4 : Heap) =>
 v4 = Value.bool b7 ∧ Ax.Sub H H'4) ∧
 (b7 = true →
 ∀ (b8 : Nat),
 H b8 = none →
 ∀ (H12 : Heap),
 H12 =
 H.upd b8
 (Obj.cells #[Value.int IntKind.i64 (6 : Int), Value.int IntKind.i64 (22 : Int), Value.int IntKind.i64 (23 : Int), Value.int IntKind.i64 (24 : Int)]
 (3 : Nat)) →
 ∃ (b9 : Bool),
 (Tr Try.prog (59 : Nat) #[Value.pointer b, Value.int IntKind.i64 eA, Value.slice (some ({ block := b8, off := (0 : Nat) } : Addr)) (4 : Nat) (4 : Nat)] H12
 fun (v5 : Value) (H'5 : Heap) => v5 = Value.bool b9 ∧ Ax.Sub H12 H'5) ∧
 K (Value.bool b9) H12) ∧
 (b7 = false → K (Value.bool false) H)) ∧
 ((eKind == (23 : Int)) = false →
 ((eKind == (24 : Int)) = true →
 ∃ (b10 : Bool),
 (Tr Try.prog (67 : Nat) #[Value.pointer b, Value.int IntKind.i64 eA, Value.int IntKind.i64 (3 : Int)] H fun (v6 : Value) (H'6 : Heap) =>
 v6 = Value.bool b10 ∧ Ax.Sub H H'6) ∧
 (b10 = true →
 ∀ (b11 : Nat),
 H b11 = none →
 ∀ (H13 : Heap),
 H13 =
 H.upd b11
 (Obj.cells
 #[Value.int IntKind.i64 (6 : Int), Value.int IntKind.i64 (22 : Int), Value.int IntKind.i64 (23 : Int), Value.int IntKind.i64 (24 : Int)]
 (3 : Nat)) →
 ∃ (b12 : Bool),
 (Tr Try.prog (59 : Nat) #[Value.pointer b, Value.int IntKind.i64 eA, Value.slice (some ({ block := b11, off := (0 : Nat) } : Addr)) (4 : Nat) (4 : Nat)]
 H13 fun (v7 : Value) (H'7 : Heap) => v7 = Value.bool b12 ∧ Ax.Sub H13 H'7) ∧
 K (Value.bool b12) H13) ∧
 (b10 = false → K (Value.bool false) H)) ∧
 ((eKind == (24 : Int)) = false →
 ((eKind == (7 : Int)) = true →
 ∃ (b13 : Bool),
 (Tr Try.prog (67 : Nat) #[Value.pointer b, Value.int IntKind.i64 eA, Value.int IntKind.i64 (4 : Int)] H fun (v8 : Value) (H'8 : Heap) =>
 v8 = Value.bool b13 ∧ Ax.Sub H H'8) ∧
 (b13 = true →
 ∀ (b14 : Nat),
 H b14 = none →
 ∀ (H14 : Heap),
 H14 = H.upd b14 (Obj.cells #[Value.int IntKind.i64 (7 : Int), Value.int IntKind.i64 (25 : Int)] (3 : Nat)) →
 ∃ (b15 : Bool),
 (Tr Try.prog (59 : Nat)
 #[Value.pointer b, Value.int IntKind.i64 eA, Value.slice (some ({ block := b14, off := (0 : Nat) } : Addr)) (2 : Nat) (2 : Nat)] H14
 fun (v9 : Value) (H'9 : Heap) => v9 = Value.bool b15 ∧ Ax.Sub H14 H'9) ∧
 K (Value.bool b15) H14) ∧
 (b13 = false → K (Value.bool false) H)) ∧
 ((eKind == (7 : Int)) = false →
 ((eKind == (25 : Int)) = true →
 ∃ (Hs : Heap),
 Ax.Sub Hs H ∧
 ∃ (b16 : Bool),
 (Tr Try.prog (67 : Nat) #[Value.pointer b, Value.int IntKind.i64 eA, Value.int IntKind.i64 (4 : Int)] H fun (v10 : Value) (H'10 : Heap) =>
 v10 = Value.bool b16 ∧ Ax.Sub H H'10) ∧
 Ax.Sub Hs H ∧
 (Ax.Sub Hs H ∧
 (b16 = true →
 ∀ (b17 : Nat),
 H b17 = none →
 ∀ (H15 : Heap),
 H15 = H.upd b17 (Obj.cells #[Value.int IntKind.i64 (7 : Int), Value.int IntKind.i64 (25 : Int)] (3 : Nat)) →
 Ax.Sub Hs H15 ∧
 ∃ (b18 : Bool),
 (Tr Try.prog (59 : Nat)
 #[Value.pointer b, Value.int IntKind.i64 eA, Value.slice (some ({ block := b17, off := (0 : Nat) } : Addr)) (2 : Nat) (2 : Nat)]
 H15 fun (v11 : Value) (H'11 : Heap) => v11 = Value.bool b18 ∧ Ax.Sub H15 H'11) ∧
 ∃ (a : Addr),
 (b18 = true → b = some a) ∧
 ∃ (A : Option Addr),
 ∃ (n : Nat),
 ∃ (c : Nat),
 (b18 = true → At H15 (a.add (nat_lit 0)) [Value.slice A n c]) ∧
 ∃ (a1 : Addr),
 (b18 = true →
 A = some a1 ∧
 (0 : Int) ≤ IntKind.i64.wrap (eA - (1 : Int)) ∧ IntKind.i64.wrap (eA - (1 : Int)) < (↑n : Int)) ∧
 ∃ (x : Int),
 (b18 = true →
 At H15 ((a1.add ((IntKind.i64.wrap (eA - (1 : Int))).toNat * nat_lit 9)).add (nat_lit 3))
 [Value.int IntKind.i64 x]) ∧
 K (Value.bool (b18 && decide (eTime ≥ x))) H15) ∧
 (b16 = false → Ax.Sub Hs H ∧ K (Value.bool false) H)) ∧
 (b16 = true →
 ∀ (b19 : Nat),
 H b19 = none →
 ∀ (H16 : Heap),
 H16 = H.upd b19 (Obj.cells #[Value.int IntKind.i64 (7 : Int), Value.int IntKind.i64 (25 : Int)] (3 : Nat)) →
 Ax.Sub Hs H16 ∧
 ∃ (b20 : Bool),
 (Tr Try.prog (59 : Nat)
 #[Value.pointer b, Value.int IntKind.i64 eA, Value.slice (some ({ block := b19, off := (0 : Nat) } : Addr)) (2 : Nat) (2 : Nat)] H16
 fun (v12 : Value) (H'12 : Heap) => v12 = Value.bool b20 ∧ Ax.Sub H16 H'12) ∧
 ∃ (a2 : Addr),
 (b20 = true → b = some a2) ∧
 ∃ (A1 : Option Addr),
 ∃ (n1 : Nat),
 ∃ (c1 : Nat),
 (b20 = true → At H16 (a2.add (nat_lit 0)) [Value.slice A1 n1 c1]) ∧
 ∃ (a3 : Addr),
 (b20 = true →
 A1 = some a3 ∧
 (0 : Int) ≤ IntKind.i64.wrap (eA - (1 : Int)) ∧ IntKind.i64.wrap (eA - (1 : Int)) < (↑n1 : Int)) ∧
 ∃ (x1 : Int),
 (b20 = true →
 At H16 ((a3.add ((IntKind.i64.wrap (eA - (1 : Int))).toNat * nat_lit 9)).add (nat_lit 3))
 [Value.int IntKind.i64 x1]) ∧
 K (Value.bool (b20 && decide (eTime ≥ x1))) H16) ∧
 (b16 = false → Ax.Sub Hs H ∧ K (Value.bool false) H)) ∧
 ((eKind == (25 : Int)) = false →
 ((eKind == (26 : Int)) = true →
 ∃ (b21 : Bool),
 (Tr Try.prog (67 : Nat) #[Value.pointer b, Value.int IntKind.i64 eA, Value.int IntKind.i64 (5 : Int)] H fun (v13 : Value) (H'13 : Heap) =>
 v13 = Value.bool b21 ∧ Ax.Sub H H'13) ∧
 (b21 = true →
 ∀ (b22 : Nat),
 H b22 = none →
 ∀ (H17 : Heap),
 H17 = H.upd b22 (Obj.cells #[Value.int IntKind.i64 (26 : Int), Value.int IntKind.i64 (27 : Int)] (3 : Nat)) →
 ∃ (b23 : Bool),
 (Tr Try.prog (59 : Nat)
 #[Value.pointer b, Value.int IntKind.i64 eA, Value.slice (some ({ block := b22, off := (0 : Nat) } : Addr)) (2 : Nat) (2 : Nat)] H17
 fun (v14 : Value) (H'14 : Heap) => v14 = Value.bool b23 ∧ Ax.Sub H17 H'14) ∧
 K (Value.bool b23) H17) ∧
 (b21 = false → K (Value.bool false) H)) ∧
 ((eKind == (26 : Int)) = false →
 ((eKind == (27 : Int)) = true →
 ∃ (b24 : Bool),
 (Tr Try.prog (67 : Nat) #[Value.pointer b, Value.int IntKind.i64 eA, Value.int IntKind.i64 (5 : Int)] H fun (v15 : Value) (H'15 : Heap) =>
 v15 = Value.bool b24 ∧ Ax.Sub H H'15) ∧
 (b24 = true →
 ∀ (b25 : Nat),
 H b25 = none →
 ∀ (H18 : Heap),
 H18 = H.upd b25 (Obj.cells #[Value.int IntKind.i64 (26 : Int), Value.int IntKind.i64 (27 : Int)] (3 : Nat)) →
 ∃ (b26 : Bool),
 (Tr Try.prog (59 : Nat)
 #[Value.pointer b, Value.int IntKind.i64 eA, Value.slice (some ({ block := b25, off := (0 : Nat) } : Addr)) (2 : Nat) (2 : Nat)] H18
 fun (v16 : Value) (H'16 : Heap) => v16 = Value.bool b26 ∧ Ax.Sub H18 H'16) ∧
 K (Value.bool b26) H18) ∧
 (b24 = false → K (Value.bool false) H)) ∧
 ((eKind == (27 : Int)) = false →
 ((eKind == (28 : Int)) = true →
 ∃ (b27 : Bool),
 (Tr Try.prog (67 : Nat) #[Value.pointer b, Value.int IntKind.i64 eA, Value.int IntKind.i64 (5 : Int)] H fun (v17 : Value) (H'17 : Heap) =>
 v17 = Value.bool b27 ∧ Ax.Sub H H'17) ∧
 (b27 = true →
 ∀ (b28 : Nat),
 H b28 = none →
 ∀ (H19 : Heap),
 H19 = H.upd b28 (Obj.cells #[Value.int IntKind.i64 (26 : Int)] (3 : Nat)) →
 ∃ (b29 : Bool),
 (Tr Try.prog (59 : Nat)
 #[Value.pointer b, Value.int IntKind.i64 eA, Value.slice (some ({ block := b28, off := (0 : Nat) } : Addr)) (1 : Nat) (1 : Nat)]
 H19 fun (v18 : Value) (H'18 : Heap) => v18 = Value.bool b29 ∧ Ax.Sub H19 H'18) ∧
 ((!b29) = true →
 ∀ (b30 : Nat),
 H19 b30 = none →
 ∀ (H110 : Heap),
 H110 = H19.upd b30 (Obj.cells #[Value.int IntKind.i64 (28 : Int)] (3 : Nat)) →
 ∃ (b31 : Bool),
 (Tr Try.prog (59 : Nat)
 #[Value.pointer b, Value.int IntKind.i64 eA,
 Value.slice (some ({ block := b30, off := (0 : Nat) } : Addr)) (1 : Nat) (1 : Nat)]
 H110 fun (v19 : Value) (H'19 : Heap) => v19 = Value.bool b31 ∧ Ax.Sub H110 H'19) ∧
 K (Value.bool b31) H110) ∧
 ((!b29) = false → K (Value.bool false) H19)) ∧
 (b27 = false → K (Value.bool false) H)) ∧
 ((eKind == (28 : Int)) = false →
 ((eKind == (8 : Int)) = true →
 ∃ (b32 : Bool),
 (Tr Try.prog (67 : Nat) #[Value.pointer b, Value.int IntKind.i64 eA, Value.int IntKind.i64 (5 : Int)] H fun (v20 : Value) (H'20 : Heap) =>
 v20 = Value.bool b32 ∧ Ax.Sub H H'20) ∧
 (b32 = true →
 ∀ (b33 : Nat),
 H b33 = none →
 ∀ (H111 : Heap),
 H111 =
 H.upd b33
 (Obj.cells #[Value.int IntKind.i64 (8 : Int), Value.int IntKind.i64 (27 : Int), Value.int IntKind.i64 (28 : Int)]
 (3 : Nat)) →
 ∃ (b34 : Bool),
 (Tr Try.prog (59 : Nat)
 #[Value.pointer b, Value.int IntKind.i64 eA,
 Value.slice (some ({ block := b33, off := (0 : Nat) } : Addr)) (3 : Nat) (3 : Nat)]
 H111 fun (v21 : Value) (H'21 : Heap) => v21 = Value.bool b34 ∧ Ax.Sub H111 H'21) ∧
 K (Value.bool b34) H111) ∧
 (b32 = false → K (Value.bool false) H)) ∧
 ((eKind == (8 : Int)) = false →
 ((eKind == (9 : Int)) = true →
 ∃ (b35 : Bool),
 (Tr Try.prog (67 : Nat) #[Value.pointer b, Value.int IntKind.i64 eA, Value.int IntKind.i64 (5 : Int)] H
 fun (v22 : Value) (H'22 : Heap) => v22 = Value.bool b35 ∧ Ax.Sub H H'22) ∧
 K (Value.bool b35) H) ∧
 ((eKind == (9 : Int)) = false →
 ((eKind == (29 : Int)) = true →
 ∃ (b36 : Bool),
 (Tr Try.prog (67 : Nat) #[Value.pointer b, Value.int IntKind.i64 eA, Value.int IntKind.i64 (9 : Int)] H
 fun (v23 : Value) (H'23 : Heap) => v23 = Value.bool b36 ∧ Ax.Sub H H'23) ∧
 (b36 = true →
 ∀ (b37 : Nat),
 H b37 = none →
 ∀ (H112 : Heap),
 H112 = H.upd b37 (Obj.cells #[Value.int IntKind.i64 (29 : Int)] (3 : Nat)) →
 ∃ (b38 : Bool),
 (Tr Try.prog (59 : Nat)
 #[Value.pointer b, Value.int IntKind.i64 eA,
 Value.slice (some ({ block := b37, off := (0 : Nat) } : Addr)) (1 : Nat) (1 : Nat)]
 H112 fun (v24 : Value) (H'24 : Heap) => v24 = Value.bool b38 ∧ Ax.Sub H112 H'24) ∧
 K (Value.bool b38) H112) ∧
 (b36 = false → K (Value.bool false) H)) ∧
 ((eKind == (29 : Int)) = false →
 ((eKind == (12 : Int)) = true →
 ∃ (b39 : Bool),
 (Tr Try.prog (67 : Nat) #[Value.pointer b, Value.int IntKind.i64 eA, Value.int IntKind.i64 (21 : Int)] H
 fun (v25 : Value) (H'25 : Heap) => v25 = Value.bool b39 ∧ Ax.Sub H H'25) ∧
 (b39 = true →
 ∀ (b40 : Nat),
 H b40 = none →
 ∀ (H113 : Heap),
 H113 = H.upd b40 (Obj.cells #[Value.int IntKind.i64 (12 : Int), Value.int IntKind.i64 (13 : Int)] (3 : Nat)) →
 ∃ (b41 : Bool),
 (Tr Try.prog (59 : Nat)
 #[Value.pointer b, Value.int IntKind.i64 eA,
 Value.slice (some ({ block := b40, off := (0 : Nat) } : Addr)) (2 : Nat) (2 : Nat)]
 H113 fun (v26 : Value) (H'26 : Heap) => v26 = Value.bool b41 ∧ Ax.Sub H113 H'26) ∧
 K (Value.bool b41) H113) ∧
 (b39 = false → K (Value.bool false) H)) ∧
 ((eKind == (12 : Int)) = false →
 ((eKind == (13 : Int)) = true →
 ∃ (b42 : Bool),
 (Tr Try.prog (67 : Nat) #[Value.pointer b, Value.int IntKind.i64 eA, Value.int IntKind.i64 (21 : Int)] H
 fun (v27 : Value) (H'27 : Heap) => v27 = Value.bool b42 ∧ Ax.Sub H H'27) ∧
 (b42 = true →
 ∀ (b43 : Nat),
 H b43 = none →
 ∀ (H114 : Heap),
 H114 = H.upd b43 (Obj.cells #[Value.int IntKind.i64 (12 : Int), Value.int IntKind.i64 (13 : Int)] (3 : Nat)) →
 ∃ (b44 : Bool),
 (Tr Try.prog (59 : Nat)
 #[Value.pointer b, Value.int IntKind.i64 eA,
 Value.slice (some ({ block := b43, off := (0 : Nat) } : Addr)) (2 : Nat) (2 : Nat)]
 H114 fun (v28 : Value) (H'28 : Heap) => v28 = Value.bool b44 ∧ Ax.Sub H114 H'28) ∧
 K (Value.bool b44) H114) ∧
 (b42 = false → K (Value.bool false) H)) ∧
 ((eKind == (13 : Int)) = false →
 ((eKind == (14 : Int)) = true →
 ∃ (b45 : Bool),
 (Tr Try.prog (67 : Nat) #[Value.pointer b, Value.int IntKind.i64 eA, Value.int IntKind.i64 (21 : Int)] H
 fun (v29 : Value) (H'29 : Heap) => v29 = Value.bool b45 ∧ Ax.Sub H H'29) ∧
 (b45 = true →
 ∀ (b46 : Nat),
 H b46 = none →
 ∀ (H115 : Heap),
 H115 = H.upd b46 (Obj.cells #[Value.int IntKind.i64 (12 : Int)] (3 : Nat)) →
 ∃ (b47 : Bool),
 (Tr Try.prog (59 : Nat)
 #[Value.pointer b, Value.int IntKind.i64 eA,
 Value.slice (some ({ block := b46, off := (0 : Nat) } : Addr)) (1 : Nat) (1 : Nat)]
 H115 fun (v30 : Value) (H'30 : Heap) => v30 = Value.bool b47 ∧ Ax.Sub H115 H'30) ∧
 ((!b47) = true →
 ∀ (b48 : Nat),
 H115 b48 = none →
 ∀ (H116 : Heap),
 H116 = H115.upd b48 (Obj.cells #[Value.int IntKind.i64 (14 : Int)] (3 : Nat)) →
 ∃ (b49 : Bool),
 (Tr Try.prog (59 : Nat)
 #[Value.pointer b, Value.int IntKind.i64 eA,
 Value.slice (some ({ block := b48, off := (0 : Nat) } : Addr)) (1 : Nat) (1 : Nat)]
 H116 fun (v31 : Value) (H'31 : Heap) => v31 = Value.bool b49 ∧ Ax.Sub H116 H'31) ∧
 K (Value.bool b49) H116) ∧
 ((!b47) = false → K (Value.bool false) H115)) ∧
 (b45 = false → K (Value.bool false) H)) ∧
 ((eKind == (14 : Int)) = false → K (Value.bool true) H)))))))))))))))
theorem v65 {b : Option Addr} {eId : Int} {eTime : Int} {eKind : Int} {eA : Int} {eB : Int} {eC : Int} {eD : Int} {eE : Int} {eF : Int} {H : Heap} {K : Value → Heap → Prop} (h : F65 b eId eTime eKind eA eB eC eD eE eF H K) : Tr Try.prog 65 #[.pointer b, .agg #[.int .i64 eId, .int .i64 eTime, .int .i64 eKind, .int .i64 eA, .int .i64 eB, .int .i64 eC, .int .i64 eD, .int .i64 eE, .int .i64 eF]] H K :=
  tr_of_eq (C := c65) Try.func65 (show vcFn c65 Try.f65 [.pointer b, .agg #[.int .i64 eId, .int .i64 eTime, .int .i64 eKind, .int .i64 eA, .int .i64 eB, .int .i64 eC, .int .i64 eD, .int .i64 eE, .int .i64 eF]] H K = F65 b eId eTime eKind eA eB eC eD eE eF H K by kernel_rfl) h

/- tapestry/tapestryref15.is -/
noncomputable def c66 : Cx := { P := Try.prog, res := [], pub := [], loops := [], quiet := [], asm := true }
def F66 (hA : Option Addr) (hn hc : Nat) (to0 : Int) (id : Int) (kind : Int) (H : Heap) (K : Value → Heap → Prop) : Prop :=
 ∃ (a : Addr),
 ((decide (id ≥ (1 : Int)) && decide (id ≤ to0)) = true → hA = some a ∧ (0 : Int) ≤ IntKind.i64.wrap (id - (1 : Int)) ∧ IntKind.i64.wrap (id - (1 : Int)) < (↑hn : Int)) ∧
 ∃ (x : Int),
 ((decide (id ≥ (1 : Int)) && decide (id ≤ to0)) = true → At H ((a.add ((IntKind.i64.wrap (id - (1 : Int))).toNat * nat_lit 9)).add (nat_lit 2)) [Value.int IntKind.i64 x]) ∧
 K (Value.bool (decide (id ≥ (1 : Int)) && decide (id ≤ to0) && x == kind)) H
theorem v66 {hA : Option Addr} {hn hc : Nat} {to0 : Int} {id : Int} {kind : Int} {H : Heap} {K : Value → Heap → Prop} (h : F66 hA hn hc to0 id kind H K) : Tr Try.prog 66 #[.slice hA hn hc, .int .i64 to0, .int .i64 id, .int .i64 kind] H K :=
  tr_of_eq (C := c66) Try.func66 (show vcFn c66 Try.f66 [.slice hA hn hc, .int .i64 to0, .int .i64 id, .int .i64 kind] H K = F66 hA hn hc to0 id kind H K by kernel_rfl) h

/- (ptr tapestry/grammar.book).is -/
noncomputable def c67 : Cx := { P := Try.prog, res := [], pub := [], loops := [], quiet := [], asm := true }
def F67 (b : Option Addr) (id : Int) (kind : Int) (H : Heap) (K : Value → Heap → Prop) : Prop :=
 ∃ (a : Addr),
 (decide (id ≥ (1 : Int)) = true → b = some a) ∧
 ∃ (A : Option Addr),
 ∃ (n : Nat),
 ∃ (c : Nat),
 (decide (id ≥ (1 : Int)) = true → At H (a.add (nat_lit 0)) [Value.slice A n c]) ∧
 ∃ (a1 : Addr),
 ((decide (id ≥ (1 : Int)) && decide (id ≤ (↑n : Int))) = true → b = some a1) ∧
 ∃ (A1 : Option Addr),
 ∃ (n1 : Nat),
 ∃ (c1 : Nat),
 ((decide (id ≥ (1 : Int)) && decide (id ≤ (↑n : Int))) = true → At H (a1.add (nat_lit 0)) [Value.slice A1 n1 c1]) ∧
 ∃ (a2 : Addr),
 ((decide (id ≥ (1 : Int)) && decide (id ≤ (↑n : Int))) = true →
 A1 = some a2 ∧ (0 : Int) ≤ IntKind.i64.wrap (id - (1 : Int)) ∧ IntKind.i64.wrap (id - (1 : Int)) < (↑n1 : Int)) ∧
 ∃ (x : Int),
 ((decide (id ≥ (1 : Int)) && decide (id ≤ (↑n : Int))) = true →
 At H ((a2.add ((IntKind.i64.wrap (id - (1 : Int))).toNat * nat_lit 9)).add (nat_lit 2)) [Value.int IntKind.i64 x]) ∧
 K (Value.bool (decide (id ≥ (1 : Int)) && decide (id ≤ (↑n : Int)) && x == kind)) H
theorem v67 {b : Option Addr} {id : Int} {kind : Int} {H : Heap} {K : Value → Heap → Prop} (h : F67 b id kind H K) : Tr Try.prog 67 #[.pointer b, .int .i64 id, .int .i64 kind] H K :=
  tr_of_eq (C := c67) Try.func67 (show vcFn c67 Try.f67 [.pointer b, .int .i64 id, .int .i64 kind] H K = F67 b id kind H K by kernel_rfl) h

end Go.Proofs.Ytbojjcmhdklhbaa
