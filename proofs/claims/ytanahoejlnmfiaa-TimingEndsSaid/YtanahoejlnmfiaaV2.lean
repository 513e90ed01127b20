/- By program (axgen.py): the formulas of functions of the translation, and that each gives its function's contract. Conditions: none. -/
import Derived.Test.YtanahoejlnmfiaaProg
import Derived.Test.YtanahoejlnmfiaaAxF
set_option maxRecDepth 100000
set_option linter.unusedVariables false
namespace Go.Proofs.Ytanahoejlnmfiaa
open Go.Ax

/- tapestry/tapestryref13.Check -/
noncomputable def c34 : Cx := { P := Try.prog, res := [], pub := [], loops := [⟨4, [(5, .int .i64)], [2, 3, 4, 6, 26, 27, 28, 29, 30, 31, 32, 33, 34, 35, 36, 37, 38, 39, 40, 41], []⟩, ⟨10, [(7, .int .i64)], [2, 3, 4, 8, 9, 42, 43, 44, 45, 46, 47, 48, 49, 50, 51, 52, 53, 54, 55, 56, 57, 58, 59, 60, 61, 62, 63, 64, 65, 66, 67, 68, 69, 70, 71, 72, 73], []⟩, ⟨16, [(9, .int .i64)], [2, 3, 4, 8, 55, 56, 57, 58, 59, 60, 61, 62, 63, 64, 65, 66, 67, 68, 69, 70, 71, 72, 73], []⟩], quiet := [47, 48, 49] }
def F34 (pFuncsA : Option Addr) (pFuncsn pFuncsc : Nat) (pOptsA : Option Addr) (pOptsn pOptsc : Nat) (H : Heap) (K : Value → Heap → Prop) : Prop :=
    (((↑pFuncsn : Int) == (0 : Int) || decide ((↑pFuncsn : Int) > (16 : Int)) || decide ((↑pOptsn : Int) > (8 : Int))) = true →
        K (Value.tuple #[Value.int IntKind.i64 (40 : Int), Value.int IntKind.i64 (-1 : Int), Value.int IntKind.i64 (-1 : Int)]) H) ∧
      (((↑pFuncsn : Int) == (0 : Int) || decide ((↑pFuncsn : Int) > (16 : Int)) || decide ((↑pOptsn : Int) > (8 : Int))) = false →
        ∃ (Rel : Int → Heap → Prop),
          ∃ (mu : Int → Heap → Nat),
            Rel (0 : Int) H ∧
              ∀ (x : Int) (H1 : Heap),
                Rel x H1 →
                  (decide (x < (↑pOptsn : Int)) = true →
                      ∃ (a : Addr),
                        (pOptsA = some a ∧ (0 : Int) ≤ x ∧ x < (↑pOptsn : Int)) ∧
                          ∃ (x1 : Int),
                            ∃ (x2 : Int),
                              ∃ (x3 : Int),
                                ∃ (x4 : Int),
                                  ∃ (x5 : Int),
                                    ∃ (x6 : Int),
                                      ∃ (x7 : Int),
                                        ∃ (x8 : Int),
                                          ∃ (x9 : Int),
                                            ∃ (x10 : Int),
                                              ∃ (x11 : Int),
                                                At H1 (a.add (x.toNat * nat_lit 11))
                                                    [Value.int IntKind.i64 x1, Value.int IntKind.i64 x2, Value.int IntKind.i64 x3, Value.int IntKind.i64 x4, Value.int IntKind.i64 x5,
                                                      Value.int IntKind.i64 x6, Value.int IntKind.i64 x7, Value.int IntKind.i64 x8, Value.int IntKind.i64 x9, Value.int IntKind.i64 x10,
                                                      Value.int IntKind.i64 x11] ∧
                                                  ∃ (b : Bool),
                                                    (Tr Try.prog (47 : Nat)
                                                        #[Value.agg
                                                            #[Value.int IntKind.i64 x1, Value.int IntKind.i64 x2, Value.int IntKind.i64 x3, Value.int IntKind.i64 x4,
                                                              Value.int IntKind.i64 x5, Value.int IntKind.i64 x6, Value.int IntKind.i64 x7, Value.int IntKind.i64 x8,
                                                              Value.int IntKind.i64 x9, Value.int IntKind.i64 x10, Value.int IntKind.i64 x11]]
                                                        H1 fun (v : Value) (H' : Heap) => v = Value.bool b ∧ Ax.Sub H1 H') ∧
                                                      ((!b) = true →
                                                          K (Value.tuple #[Value.int IntKind.i64 (40 : Int), Value.int IntKind.i64 (-1 : Int), Value.int IntKind.i64 x]) H1) ∧
                                                        ((!b) = false → Rel (IntKind.i64.wrap (x + (1 : Int))) H1 ∧ mu (IntKind.i64.wrap (x + (1 : Int))) H1 < mu x H1)) ∧
                    (decide (x < (↑pOptsn : Int)) = false →
                      ∃ (Rel1 : Int → Heap → Prop),
                        ∃ (mu1 : Int → Heap → Nat),
                          Rel1 (0 : Int) H1 ∧
                            ∀ (x12 : Int) (H2 : Heap),
                              Rel1 x12 H2 →
                                (decide (x12 < (↑pFuncsn : Int)) = true →
                                    ∃ (b1 : Bool),
                                      (Tr Try.prog (48 : Nat) #[Value.agg #[Value.slice pFuncsA pFuncsn pFuncsc, Value.slice pOptsA pOptsn pOptsc], Value.int IntKind.i64 x12] H2
                                          fun (v1 : Value) (H'1 : Heap) => v1 = Value.bool b1 ∧ Ax.Sub H2 H'1) ∧
                                        ((!b1) = true → K (Value.tuple #[Value.int IntKind.i64 (40 : Int), Value.int IntKind.i64 x12, Value.int IntKind.i64 (-1 : Int)]) H2) ∧
                                          ((!b1) = false →
                                            ∃ (Rel2 : Int → Heap → Prop),
                                              ∃ (mu2 : Int → Heap → Nat),
                                                Rel2 (0 : Int) H2 ∧
                                                  ∀ (x13 : Int) (H3 : Heap),
                                                    Rel2 x13 H3 →
                                                      ∃ (a1 : Addr),
                                                        (pFuncsA = some a1 ∧ (0 : Int) ≤ x12 ∧ x12 < (↑pFuncsn : Int)) ∧
                                                          ∃ (A : Option Addr),
                                                            ∃ (n : Nat),
                                                              ∃ (c : Nat),
                                                                At H3 ((a1.add (x12.toNat * nat_lit 3)).add (nat_lit 2)) [Value.slice A n c] ∧
                                                                  (decide (x13 < (↑n : Int)) = true →
                                                                      ∃ (b2 : Bool),
                                                                        (Tr Try.prog (49 : Nat)
                                                                            #[Value.agg #[Value.slice pFuncsA pFuncsn pFuncsc, Value.slice pOptsA pOptsn pOptsc],
                                                                              Value.int IntKind.i64 x12, Value.int IntKind.i64 x13]
                                                                            H3 fun (v2 : Value) (H'2 : Heap) => v2 = Value.bool b2 ∧ Ax.Sub H3 H'2) ∧
                                                                          ((!b2) = true →
                                                                              K (Value.tuple #[Value.int IntKind.i64 (40 : Int), Value.int IntKind.i64 x12, Value.int IntKind.i64 x13])
                                                                                H3) ∧
                                                                            ((!b2) = false →
                                                                              Rel2 (IntKind.i64.wrap (x13 + (1 : Int))) H3 ∧
                                                                                mu2 (IntKind.i64.wrap (x13 + (1 : Int))) H3 < mu2 x13 H3)) ∧
                                                                    (decide (x13 < (↑n : Int)) = false →
                                                                      Rel1 (IntKind.i64.wrap (x12 + (1 : Int))) H3 ∧ mu1 (IntKind.i64.wrap (x12 + (1 : Int))) H3 < mu1 x12 H2))) ∧
                                  (decide (x12 < (↑pFuncsn : Int)) = false →
                                    K (Value.tuple #[Value.int IntKind.i64 (0 : Int), Value.int IntKind.i64 (0 : Int), Value.int IntKind.i64 (0 : Int)]) H2)))
theorem v34 {pFuncsA : Option Addr} {pFuncsn pFuncsc : Nat} {pOptsA : Option Addr} {pOptsn pOptsc : Nat} {H : Heap} {K : Value → Heap → Prop} (h : F34 pFuncsA pFuncsn pFuncsc pOptsA pOptsn pOptsc H K) : Tr Try.prog 34 #[.agg #[.slice pFuncsA pFuncsn pFuncsc, .slice pOptsA pOptsn pOptsc]] H K :=
  tr_of_vc (C := c34) Try.func34 (Eq.mpr (show vcFn c34 Try.f34 [.agg #[.slice pFuncsA pFuncsn pFuncsc, .slice pOptsA pOptsn pOptsc]] H K = F34 pFuncsA pFuncsn pFuncsc pOptsA pOptsn pOptsc H K by kernel_rfl) h)

/- tapestry/tapestryref13.Same -/
noncomputable def c35 : Cx := { P := Try.prog, res := [], pub := [], loops := [⟨4, [(5, .int .i64)], [4, 26, 27, 28, 29, 30, 31, 32, 33, 34, 35, 36, 37, 38, 39, 40, 41, 42, 43], []⟩, ⟨9, [(6, .int .i64)], [4, 7, 8, 9, 44, 45, 46, 47, 48, 49, 50, 51, 52, 53, 54, 55, 56, 57, 58, 59, 60, 61, 62, 63, 64, 65, 66, 67, 68, 69, 70, 71, 72, 73, 74, 75, 76, 77, 78, 79, 80, 81, 82, 83, 84, 85, 86, 87, 88, 89, 90, 91, 92, 93, 94, 95, 96, 97, 98, 99], []⟩, ⟨16, [(9, .int .i64)], [4, 82, 83, 84, 85, 86, 87, 88, 89, 90, 91, 92, 93, 94, 95, 96, 97, 98, 99], []⟩], quiet := [] }
def F35 (aFuncsA : Option Addr) (aFuncsn aFuncsc : Nat) (aOptsA : Option Addr) (aOptsn aOptsc : Nat) (bFuncsA : Option Addr) (bFuncsn bFuncsc : Nat) (bOptsA : Option Addr) (bOptsn bOptsc : Nat) (H : Heap) (K : Value → Heap → Prop) : Prop :=
    (((↑aFuncsn : Int) != (↑bFuncsn : Int) || (↑aOptsn : Int) != (↑bOptsn : Int)) = true → K (Value.bool false) H) ∧
      (((↑aFuncsn : Int) != (↑bFuncsn : Int) || (↑aOptsn : Int) != (↑bOptsn : Int)) = false →
        ∃ (Rel : Int → Heap → Prop),
          ∃ (mu : Int → Heap → Nat),
            Rel (0 : Int) H ∧
              ∀ (x : Int) (H1 : Heap),
                Rel x H1 →
                  (decide (x < (↑aOptsn : Int)) = true →
                      ∃ (a : Addr),
                        (aOptsA = some a ∧ (0 : Int) ≤ x ∧ x < (↑aOptsn : Int)) ∧
                          ∃ (x1 : Int),
                            ∃ (x2 : Int),
                              ∃ (x3 : Int),
                                ∃ (x4 : Int),
                                  ∃ (x5 : Int),
                                    ∃ (x6 : Int),
                                      ∃ (x7 : Int),
                                        ∃ (x8 : Int),
                                          ∃ (x9 : Int),
                                            ∃ (x10 : Int),
                                              ∃ (x11 : Int),
                                                At H1 (a.add (x.toNat * nat_lit 11))
                                                    [Value.int IntKind.i64 x1, Value.int IntKind.i64 x2, Value.int IntKind.i64 x3, Value.int IntKind.i64 x4, Value.int IntKind.i64 x5,
                                                      Value.int IntKind.i64 x6, Value.int IntKind.i64 x7, Value.int IntKind.i64 x8, Value.int IntKind.i64 x9, Value.int IntKind.i64 x10,
                                                      Value.int IntKind.i64 x11] ∧
                                                  ∃ (a1 : Addr),
                                                    (bOptsA = some a1 ∧ (0 : Int) ≤ x ∧ x < (↑bOptsn : Int)) ∧
                                                      ∃ (x12 : Int),
                                                        ∃ (x13 : Int),
                                                          ∃ (x14 : Int),
                                                            ∃ (x15 : Int),
                                                              ∃ (x16 : Int),
                                                                ∃ (x17 : Int),
                                                                  ∃ (x18 : Int),
                                                                    ∃ (x19 : Int),
                                                                      ∃ (x20 : Int),
                                                                        ∃ (x21 : Int),
                                                                          ∃ (x22 : Int),
                                                                            At H1 (a1.add (x.toNat * nat_lit 11))
                                                                                [Value.int IntKind.i64 x12, Value.int IntKind.i64 x13, Value.int IntKind.i64 x14,
                                                                                  Value.int IntKind.i64 x15, Value.int IntKind.i64 x16, Value.int IntKind.i64 x17,
                                                                                  Value.int IntKind.i64 x18, Value.int IntKind.i64 x19, Value.int IntKind.i64 x20,
                                                                                  Value.int IntKind.i64 x21, Value.int IntKind.i64 x22] ∧
                                                                              ((!(x1 == x12 &&
                                                                                        (x2 == x13 &&
                                                                                          (x3 == x14 &&
                                                                                            (x4 == x15 &&
                                                                                              (x5 == x16 &&
                                                                                                (x6 == x17 &&
                                                                                                  (x7 == x18 &&
                                                                                                    (x8 == x19 && (x9 == x20 && (x10 == x21 && (x11 == x22 && true)))))))))))) =
                                                                                    true →
                                                                                  K (Value.bool false) H1) ∧
                                                                                ((!(x1 == x12 &&
                                                                                        (x2 == x13 &&
                                                                                          (x3 == x14 &&
                                                                                            (x4 == x15 &&
                                                                                              (x5 == x16 &&
                                                                                                (x6 == x17 &&
                                                                                                  (x7 == x18 &&
                                                                                                    (x8 == x19 && (x9 == x20 && (x10 == x21 && (x11 == x22 && true)))))))))))) =
                                                                                    false →
                                                                                  Rel (IntKind.i64.wrap (x + (1 : Int))) H1 ∧ mu (IntKind.i64.wrap (x + (1 : Int))) H1 < mu x H1)) ∧
                    (decide (x < (↑aOptsn : Int)) = false →
                      ∃ (Rel1 : Int → Heap → Prop),
                        ∃ (mu1 : Int → Heap → Nat),
                          Rel1 (0 : Int) H1 ∧
                            ∀ (x23 : Int) (H2 : Heap),
                              Rel1 x23 H2 →
                                (decide (x23 < (↑aFuncsn : Int)) = true →
                                    ∃ (a2 : Addr),
                                      (aFuncsA = some a2 ∧ (0 : Int) ≤ x23 ∧ x23 < (↑aFuncsn : Int)) ∧
                                        ∃ (x24 : Int),
                                          ∃ (x25 : Int),
                                            ∃ (A : Option Addr),
                                              ∃ (n : Nat),
                                                ∃ (c : Nat),
                                                  At H2 (a2.add (x23.toNat * nat_lit 3)) [Value.int IntKind.i64 x24, Value.int IntKind.i64 x25, Value.slice A n c] ∧
                                                    ∃ (a3 : Addr),
                                                      (bFuncsA = some a3 ∧ (0 : Int) ≤ x23 ∧ x23 < (↑bFuncsn : Int)) ∧
                                                        ∃ (x26 : Int),
                                                          ∃ (x27 : Int),
                                                            ∃ (A1 : Option Addr),
                                                              ∃ (n1 : Nat),
                                                                ∃ (c1 : Nat),
                                                                  At H2 (a3.add (x23.toNat * nat_lit 3)) [Value.int IntKind.i64 x26, Value.int IntKind.i64 x27, Value.slice A1 n1 c1] ∧
                                                                    ((x24 != x26 || x25 != x27 || (↑n : Int) != (↑n1 : Int)) = true → K (Value.bool false) H2) ∧
                                                                      ((x24 != x26 || x25 != x27 || (↑n : Int) != (↑n1 : Int)) = false →
                                                                        ∃ (Rel2 : Int → Heap → Prop),
                                                                          ∃ (mu2 : Int → Heap → Nat),
                                                                            Rel2 (0 : Int) H2 ∧
                                                                              ∀ (x28 : Int) (H3 : Heap),
                                                                                Rel2 x28 H3 →
                                                                                  (decide (x28 < (↑n : Int)) = true →
                                                                                      ∃ (a4 : Addr),
                                                                                        (A = some a4 ∧ (0 : Int) ≤ x28 ∧ x28 < (↑n : Int)) ∧
                                                                                          ∃ (x29 : Int),
                                                                                            ∃ (x30 : Int),
                                                                                              At H3 (a4.add (x28.toNat * nat_lit 2))
                                                                                                  [Value.int IntKind.i64 x29, Value.int IntKind.i64 x30] ∧
                                                                                                ∃ (a5 : Addr),
                                                                                                  (A1 = some a5 ∧ (0 : Int) ≤ x28 ∧ x28 < (↑n1 : Int)) ∧
                                                                                                    ∃ (x31 : Int),
                                                                                                      ∃ (x32 : Int),
                                                                                                        At H3 (a5.add (x28.toNat * nat_lit 2))
                                                                                                            [Value.int IntKind.i64 x31, Value.int IntKind.i64 x32] ∧
                                                                                                          ((!(x29 == x31 && (x30 == x32 && true))) = true → K (Value.bool false) H3) ∧
                                                                                                            ((!(x29 == x31 && (x30 == x32 && true))) = false →
                                                                                                              Rel2 (IntKind.i64.wrap (x28 + (1 : Int))) H3 ∧
                                                                                                                mu2 (IntKind.i64.wrap (x28 + (1 : Int))) H3 < mu2 x28 H3)) ∧
                                                                                    (decide (x28 < (↑n : Int)) = false →
                                                                                      Rel1 (IntKind.i64.wrap (x23 + (1 : Int))) H3 ∧
                                                                                        mu1 (IntKind.i64.wrap (x23 + (1 : Int))) H3 < mu1 x23 H2))) ∧
                                  (decide (x23 < (↑aFuncsn : Int)) = false → K (Value.bool true) H2)))
theorem v35 {aFuncsA : Option Addr} {aFuncsn aFuncsc : Nat} {aOptsA : Option Addr} {aOptsn aOptsc : Nat} {bFuncsA : Option Addr} {bFuncsn bFuncsc : Nat} {bOptsA : Option Addr} {bOptsn bOptsc : Nat} {H : Heap} {K : Value → Heap → Prop} (h : F35 aFuncsA aFuncsn aFuncsc aOptsA aOptsn aOptsc bFuncsA bFuncsn bFuncsc bOptsA bOptsn bOptsc H K) : Tr Try.prog 35 #[.agg #[.slice aFuncsA aFuncsn aFuncsc, .slice aOptsA aOptsn aOptsc], .agg #[.slice bFuncsA bFuncsn bFuncsc, .slice bOptsA bOptsn bOptsc]] H K :=
  tr_of_vc (C := c35) Try.func35 (Eq.mpr (show vcFn c35 Try.f35 [.agg #[.slice aFuncsA aFuncsn aFuncsc, .slice aOptsA aOptsn aOptsc], .agg #[.slice bFuncsA bFuncsn bFuncsc, .slice bOptsA bOptsn bOptsc]] H K = F35 aFuncsA aFuncsn aFuncsc aOptsA aOptsn aOptsc bFuncsA bFuncsn bFuncsc bOptsA bOptsn bOptsc H K by kernel_rfl) h)

/- tapestry/code.Find -/
noncomputable def c36 : Cx := { P := Try.prog, res := [], pub := [], loops := [⟨2, [(12, .int .i64)], [6, 7, 8, 13, 14, 15, 16, 17, 18, 19, 20, 21, 22, 23, 24, 25, 26, 27, 28], []⟩], quiet := [] }
def F36 (pFuncsA : Option Addr) (pFuncsn pFuncsc : Nat) (pOptsA : Option Addr) (pOptsn pOptsc : Nat) (kind : Int) (name : Int) (H : Heap) (K : Value → Heap → Prop) : Prop :=
    ∃ (Rel : Int → Heap → Prop),
      ∃ (mu : Int → Heap → Nat),
        Rel (0 : Int) H ∧
          ∀ (x : Int) (H1 : Heap),
            Rel x H1 →
              (decide (x < (↑pFuncsn : Int)) = true →
                  ∃ (a : Addr),
                    (pFuncsA = some a ∧ (0 : Int) ≤ x ∧ x < (↑pFuncsn : Int)) ∧
                      ∃ (x1 : Int),
                        ∃ (x2 : Int),
                          ∃ (A : Option Addr),
                            ∃ (n : Nat),
                              ∃ (c : Nat),
                                At H1 (a.add (x.toNat * nat_lit 3)) [Value.int IntKind.i64 x1, Value.int IntKind.i64 x2, Value.slice A n c] ∧
                                  ((x1 == kind && x2 == name) = true → K (Value.int IntKind.i64 x) H1) ∧
                                    ((x1 == kind && x2 == name) = false → Rel (IntKind.i64.wrap (x + (1 : Int))) H1 ∧ mu (IntKind.i64.wrap (x + (1 : Int))) H1 < mu x H1)) ∧
                (decide (x < (↑pFuncsn : Int)) = false → K (Value.int IntKind.i64 (-1 : Int)) H1)
theorem v36 {pFuncsA : Option Addr} {pFuncsn pFuncsc : Nat} {pOptsA : Option Addr} {pOptsn pOptsc : Nat} {kind : Int} {name : Int} {H : Heap} {K : Value → Heap → Prop} (h : F36 pFuncsA pFuncsn pFuncsc pOptsA pOptsn pOptsc kind name H K) : Tr Try.prog 36 #[.agg #[.slice pFuncsA pFuncsn pFuncsc, .slice pOptsA pOptsn pOptsc], .int .i64 kind, .int .i64 name] H K :=
  tr_of_vc (C := c36) Try.func36 (Eq.mpr (show vcFn c36 Try.f36 [.agg #[.slice pFuncsA pFuncsn pFuncsc, .slice pOptsA pOptsn pOptsc], .int .i64 kind, .int .i64 name] H K = F36 pFuncsA pFuncsn pFuncsc pOptsA pOptsn pOptsc kind name H K by kernel_rfl) h)

/- tapestry/tapestryref13.Find -/
noncomputable def c37 : Cx := { P := Try.prog, res := [], pub := [], loops := [⟨2, [(7, .int .i64)], [6, 8, 9, 10, 11, 12, 13, 14, 15, 16, 17, 18, 19, 20, 21, 22, 23, 24, 25, 26, 27, 28, 29, 30, 31, 32, 33], []⟩], quiet := [] }
def F37 (pFuncsA : Option Addr) (pFuncsn pFuncsc : Nat) (pOptsA : Option Addr) (pOptsn pOptsc : Nat) (kind : Int) (name : Int) (H : Heap) (K : Value → Heap → Prop) : Prop :=
    ∃ (Rel : Int → Heap → Prop),
      ∃ (mu : Int → Heap → Nat),
        Rel (0 : Int) H ∧
          ∀ (x : Int) (H1 : Heap),
            Rel x H1 →
              (decide (x < (↑pFuncsn : Int)) = true →
                  ∃ (a : Addr),
                    (pFuncsA = some a ∧ (0 : Int) ≤ x ∧ x < (↑pFuncsn : Int)) ∧
                      ∃ (x1 : Int),
                        At H1 ((a.add (x.toNat * nat_lit 3)).add (nat_lit 0)) [Value.int IntKind.i64 x1] ∧
                          ∃ (a1 : Addr),
                            ((x1 == kind) = true → pFuncsA = some a1 ∧ (0 : Int) ≤ x ∧ x < (↑pFuncsn : Int)) ∧
                              ∃ (x2 : Int),
                                ((x1 == kind) = true → At H1 ((a1.add (x.toNat * nat_lit 3)).add (nat_lit 1)) [Value.int IntKind.i64 x2]) ∧
                                  ((x1 == kind && x2 == name) = true → K (Value.int IntKind.i64 x) H1) ∧
                                    ((x1 == kind && x2 == name) = false → Rel (IntKind.i64.wrap (x + (1 : Int))) H1 ∧ mu (IntKind.i64.wrap (x + (1 : Int))) H1 < mu x H1)) ∧
                (decide (x < (↑pFuncsn : Int)) = false → K (Value.int IntKind.i64 (-1 : Int)) H1)
theorem v37 {pFuncsA : Option Addr} {pFuncsn pFuncsc : Nat} {pOptsA : Option Addr} {pOptsn pOptsc : Nat} {kind : Int} {name : Int} {H : Heap} {K : Value → Heap → Prop} (h : F37 pFuncsA pFuncsn pFuncsc pOptsA pOptsn pOptsc kind name H K) : Tr Try.prog 37 #[.agg #[.slice pFuncsA pFuncsn pFuncsc, .slice pOptsA pOptsn pOptsc], .int .i64 kind, .int .i64 name] H K :=
  tr_of_vc (C := c37) Try.func37 (Eq.mpr (show vcFn c37 Try.f37 [.agg #[.slice pFuncsA pFuncsn pFuncsc, .slice pOptsA pOptsn pOptsc], .int .i64 kind, .int .i64 name] H K = F37 pFuncsA pFuncsn pFuncsc pOptsA pOptsn pOptsc kind name H K by kernel_rfl) h)

/- tapestry/tapestrylaw13.small -/
noncomputable def c43 : Cx := { P := Try.prog, res := [], pub := [3, 5], loops := [], quiet := [] }
def F43  (H : Heap) (K : Value → Heap → Prop) : Prop :=
    ∀ (b : Nat),
      H b = none →
        ∀ (b1 : Nat),
          H.upd b (Obj.cells #[Value.int IntKind.i64 (17 : Int), Value.int IntKind.i64 (0 : Int), Value.int IntKind.i64 (36 : Int), Value.int IntKind.i64 (0 : Int)] (67 : Nat)) b1 =
              none →
            K (Value.agg #[Value.slice (some { block := b1, off := (0 : Nat) }) (1 : Nat) (1 : Nat), Value.slice none (0 : Nat) (0 : Nat)])
              ((H.upd b
                    (Obj.cells #[Value.int IntKind.i64 (17 : Int), Value.int IntKind.i64 (0 : Int), Value.int IntKind.i64 (36 : Int), Value.int IntKind.i64 (0 : Int)] (67 : Nat))).upd
                b1 (Obj.cells #[Value.int IntKind.i64 (0 : Int), Value.int IntKind.i64 (0 : Int), Value.slice (some { block := b, off := (0 : Nat) }) (2 : Nat) (2 : Nat)] (70 : Nat)))
theorem v43 {H : Heap} {K : Value → Heap → Prop} (h : F43  H K) : Tr Try.prog 43 #[] H K :=
  tr_of_vc (C := c43) Try.func43 (Eq.mpr (show vcFn c43 Try.f43 [] H K = F43  H K by kernel_rfl) h)

/- tapestry/code.options -/
noncomputable def c44 : Cx := { P := Try.prog, res := [], pub := [17], loops := [⟨2, [(19, .int .i64)], [2, 4, 20, 21, 22, 23, 24, 25, 26, 27, 28, 29], []⟩], quiet := [] }
def F44 (oQueue : Int) (oStart : Int) (oClose : Int) (oTotal : Int) (oBeat : Int) (oFirst : Int) (oNum : Int) (oDen : Int) (oMost : Int) (oTries : Int) (oNever : Int) (H : Heap) (K : Value → Heap → Prop) : Prop :=
    ∀ (b : Nat),
      H b = none →
        ∃ (Rel : Int → Heap → Prop),
          ∃ (mu : Int → Heap → Nat),
            Rel (0 : Int)
                (H.upd b
                  (Obj.cells
                    #[Value.int IntKind.i64 oStart, Value.int IntKind.i64 oClose, Value.int IntKind.i64 oTotal, Value.int IntKind.i64 oBeat, Value.int IntKind.i64 oFirst,
                      Value.int IntKind.i64 oMost]
                    (2 : Nat))) ∧
              ∀ (x : Int) (H1 : Heap),
                Rel x H1 →
                  (decide (x < (↑(6 : Nat) : Int)) = true →
                      ∃ (a : Addr),
                        (some { block := b, off := (0 : Nat) } = some a ∧ (0 : Int) ≤ x ∧ x < (↑(6 : Nat) : Int)) ∧
                          ∃ (x1 : Int),
                            At H1 (a.add (x.toNat * nat_lit 1)) [Value.int IntKind.i64 x1] ∧
                              ((decide (x1 < (0 : Int)) || decide (x1 > (1048576 : Int))) = true → K (Value.bool false) H1) ∧
                                ((decide (x1 < (0 : Int)) || decide (x1 > (1048576 : Int))) = false →
                                  Rel (IntKind.i64.wrap (x + (1 : Int))) H1 ∧ mu (IntKind.i64.wrap (x + (1 : Int))) H1 < mu x H1)) ∧
                    (decide (x < (↑(6 : Nat) : Int)) = false →
                      K
                        (Value.bool
                          (decide (oQueue ≥ (0 : Int)) && decide (oQueue < (8 : Int)) && decide (oDen ≥ (1 : Int)) && decide (oDen ≤ (1000 : Int)) && decide (oNum ≥ oDen) &&
                                decide (oNum ≤ (1000 : Int)) &&
                              decide (oTries ≥ (0 : Int)) &&
                            decide (oTries ≤ (1000 : Int))))
                        H1)
theorem v44 {oQueue : Int} {oStart : Int} {oClose : Int} {oTotal : Int} {oBeat : Int} {oFirst : Int} {oNum : Int} {oDen : Int} {oMost : Int} {oTries : Int} {oNever : Int} {H : Heap} {K : Value → Heap → Prop} (h : F44 oQueue oStart oClose oTotal oBeat oFirst oNum oDen oMost oTries oNever H K) : Tr Try.prog 44 #[.agg #[.int .i64 oQueue, .int .i64 oStart, .int .i64 oClose, .int .i64 oTotal, .int .i64 oBeat, .int .i64 oFirst, .int .i64 oNum, .int .i64 oDen, .int .i64 oMost, .int .i64 oTries, .int .i64 oNever]] H K :=
  tr_of_vc (C := c44) Try.func44 (Eq.mpr (show vcFn c44 Try.f44 [.agg #[.int .i64 oQueue, .int .i64 oStart, .int .i64 oClose, .int .i64 oTotal, .int .i64 oBeat, .int .i64 oFirst, .int .i64 oNum, .int .i64 oDen, .int .i64 oMost, .int .i64 oTries, .int .i64 oNever]] H K = F44 oQueue oStart oClose oTotal oBeat oFirst oNum oDen oMost oTries oNever H K by kernel_rfl) h)

/- tapestry/code.named -/
noncomputable def c45 : Cx := { P := Try.prog, res := [], pub := [], loops := [], quiet := [36] }
def F45 (pFuncsA : Option Addr) (pFuncsn pFuncsc : Nat) (pOptsA : Option Addr) (pOptsn pOptsc : Nat) (i : Int) (H : Heap) (K : Value → Heap → Prop) : Prop :=
    ∃ (a : Addr),
      (pFuncsA = some a ∧ (0 : Int) ≤ i ∧ i < (↑pFuncsn : Int)) ∧
        ∃ (x : Int),
          ∃ (x1 : Int),
            ∃ (A : Option Addr),
              ∃ (n : Nat),
                ∃ (c : Nat),
                  At H (a.add (i.toNat * nat_lit 3)) [Value.int IntKind.i64 x, Value.int IntKind.i64 x1, Value.slice A n c] ∧
                    ((decide (x < (0 : Int)) || decide (x > (4 : Int)) || !(x == (0 : Int)) == (i == (0 : Int))) = true → K (Value.bool false) H) ∧
                      ((decide (x < (0 : Int)) || decide (x > (4 : Int)) || !(x == (0 : Int)) == (i == (0 : Int))) = false →
                        (decide (x ≤ (1 : Int)) = true → K (Value.bool (x1 == (0 : Int))) H) ∧
                          (decide (x ≤ (1 : Int)) = false →
                            ∃ (x2 : Int),
                              ((!(decide (x1 < (0 : Int)) || decide (x1 ≥ (8 : Int)))) = true →
                                  Tr Try.prog (36 : Nat)
                                    #[Value.agg #[Value.slice pFuncsA pFuncsn pFuncsc, Value.slice pOptsA pOptsn pOptsc], Value.int IntKind.i64 x, Value.int IntKind.i64 x1] H
                                    fun (v : Value) (H' : Heap) => v = Value.int IntKind.i64 x2 ∧ Ax.Sub H H') ∧
                                ((decide (x1 < (0 : Int)) || decide (x1 ≥ (8 : Int)) || x2 != i) = true → K (Value.bool false) H) ∧
                                  ((decide (x1 < (0 : Int)) || decide (x1 ≥ (8 : Int)) || x2 != i) = false →
                                    ∃ (x3 : Int),
                                      ((!x != (4 : Int)) = true →
                                          Tr Try.prog (36 : Nat)
                                            #[Value.agg #[Value.slice pFuncsA pFuncsn pFuncsc, Value.slice pOptsA pOptsn pOptsc], Value.int IntKind.i64 (3 : Int),
                                              Value.int IntKind.i64 x1]
                                            H fun (v1 : Value) (H'1 : Heap) => v1 = Value.int IntKind.i64 x3 ∧ Ax.Sub H H'1) ∧
                                        K (Value.bool (x != (4 : Int) || decide (x3 ≥ (0 : Int)))) H)))
theorem v45 {pFuncsA : Option Addr} {pFuncsn pFuncsc : Nat} {pOptsA : Option Addr} {pOptsn pOptsc : Nat} {i : Int} {H : Heap} {K : Value → Heap → Prop} (h : F45 pFuncsA pFuncsn pFuncsc pOptsA pOptsn pOptsc i H K) : Tr Try.prog 45 #[.agg #[.slice pFuncsA pFuncsn pFuncsc, .slice pOptsA pOptsn pOptsc], .int .i64 i] H K :=
  tr_of_vc (C := c45) Try.func45 (Eq.mpr (show vcFn c45 Try.f45 [.agg #[.slice pFuncsA pFuncsn pFuncsc, .slice pOptsA pOptsn pOptsc], .int .i64 i] H K = F45 pFuncsA pFuncsn pFuncsc pOptsA pOptsn pOptsc i H K by kernel_rfl) h)

/- tapestry/code.instruction -/
noncomputable def c46 : Cx := { P := Try.prog, res := [], pub := [], loops := [], quiet := [30, 64, 65] }
def F46 (pFuncsA : Option Addr) (pFuncsn pFuncsc : Nat) (pOptsA : Option Addr) (pOptsn pOptsc : Nat) (i : Int) (k : Int) (H : Heap) (K : Value → Heap → Prop) : Prop :=
    ∃ (a : Addr),
      (pFuncsA = some a ∧ (0 : Int) ≤ i ∧ i < (↑pFuncsn : Int)) ∧
        ∃ (x : Int),
          ∃ (x1 : Int),
            ∃ (A : Option Addr),
              ∃ (n : Nat),
                ∃ (c : Nat),
                  At H (a.add (i.toNat * nat_lit 3)) [Value.int IntKind.i64 x, Value.int IntKind.i64 x1, Value.slice A n c] ∧
                    ∃ (a1 : Addr),
                      (A = some a1 ∧ (0 : Int) ≤ k ∧ k < (↑n : Int)) ∧
                        ∃ (x2 : Int),
                          ∃ (x3 : Int),
                            At H (a1.add (k.toNat * nat_lit 2)) [Value.int IntKind.i64 x2, Value.int IntKind.i64 x3] ∧
                              ∃ (b : Bool),
                                ((!(decide (x2 < (0 : Int)) || decide (x2 > (37 : Int)))) = true →
                                    Tr Try.prog (64 : Nat)
                                      #[Value.agg #[Value.slice pFuncsA pFuncsn pFuncsc, Value.slice pOptsA pOptsn pOptsc],
                                        Value.agg #[Value.int IntKind.i64 x, Value.int IntKind.i64 x1, Value.slice A n c],
                                        Value.agg #[Value.int IntKind.i64 x2, Value.int IntKind.i64 x3]]
                                      H fun (v : Value) (H' : Heap) => v = Value.bool b ∧ Ax.Sub H H') ∧
                                  ((decide (x2 < (0 : Int)) || decide (x2 > (37 : Int)) || !b) = true → K (Value.bool false) H) ∧
                                    ((decide (x2 < (0 : Int)) || decide (x2 > (37 : Int)) || !b) = false →
                                      ∃ (b1 : Bool),
                                        ((x == (2 : Int) || x == (4 : Int)) = true →
                                            Tr Try.prog (30 : Nat) #[Value.int IntKind.i64 x2] H fun (v1 : Value) (H'1 : Heap) => v1 = Value.bool b1 ∧ Ax.Sub H H'1) ∧
                                          (((x == (2 : Int) || x == (4 : Int)) && !b1) = true → K (Value.bool false) H) ∧
                                            (((x == (2 : Int) || x == (4 : Int)) && !b1) = false →
                                              ((x2 == (35 : Int) && i != (0 : Int)) = true → K (Value.bool false) H) ∧
                                                ((x2 == (35 : Int) && i != (0 : Int)) = false →
                                                  ∃ (b2 : Bool),
                                                    ((!decide (k < IntKind.i64.wrap ((↑n : Int) - (1 : Int)))) = true →
                                                        Tr Try.prog (65 : Nat) #[Value.int IntKind.i64 x2] H fun (v2 : Value) (H'2 : Heap) => v2 = Value.bool b2 ∧ Ax.Sub H H'2) ∧
                                                      K (Value.bool (decide (k < IntKind.i64.wrap ((↑n : Int) - (1 : Int))) || b2)) H)))
theorem v46 {pFuncsA : Option Addr} {pFuncsn pFuncsc : Nat} {pOptsA : Option Addr} {pOptsn pOptsc : Nat} {i : Int} {k : Int} {H : Heap} {K : Value → Heap → Prop} (h : F46 pFuncsA pFuncsn pFuncsc pOptsA pOptsn pOptsc i k H K) : Tr Try.prog 46 #[.agg #[.slice pFuncsA pFuncsn pFuncsc, .slice pOptsA pOptsn pOptsc], .int .i64 i, .int .i64 k] H K :=
  tr_of_vc (C := c46) Try.func46 (Eq.mpr (show vcFn c46 Try.f46 [.agg #[.slice pFuncsA pFuncsn pFuncsc, .slice pOptsA pOptsn pOptsc], .int .i64 i, .int .i64 k] H K = F46 pFuncsA pFuncsn pFuncsc pOptsA pOptsn pOptsc i k H K by kernel_rfl) h)

/- tapestry/tapestryref13.options -/
noncomputable def c47 : Cx := { P := Try.prog, res := [], pub := [17], loops := [⟨3, [(4, .int .i64)], [2, 18, 19, 20, 21, 22, 23, 24, 25, 26, 27, 28, 29, 30, 31, 32, 33, 34, 35], []⟩], quiet := [] }
def F47 (oQueue : Int) (oStart : Int) (oClose : Int) (oTotal : Int) (oBeat : Int) (oFirst : Int) (oNum : Int) (oDen : Int) (oMost : Int) (oTries : Int) (oNever : Int) (H : Heap) (K : Value → Heap → Prop) : Prop :=
    ∀ (b : Nat),
      H b = none →
        ∃ (Rel : Int → Heap → Prop),
          ∃ (mu : Int → Heap → Nat),
            Rel (0 : Int)
                (H.upd b
                  (Obj.cells
                    #[Value.int IntKind.i64 oStart, Value.int IntKind.i64 oClose, Value.int IntKind.i64 oTotal, Value.int IntKind.i64 oBeat, Value.int IntKind.i64 oFirst,
                      Value.int IntKind.i64 oMost]
                    (2 : Nat))) ∧
              ∀ (x : Int) (H1 : Heap),
                Rel x H1 →
                  (decide (x < (↑(6 : Nat) : Int)) = true →
                      ∃ (a : Addr),
                        (some { block := b, off := (0 : Nat) } = some a ∧ (0 : Int) ≤ x ∧ x < (↑(6 : Nat) : Int)) ∧
                          ∃ (x1 : Int),
                            At H1 (a.add (x.toNat * nat_lit 1)) [Value.int IntKind.i64 x1] ∧
                              ∃ (a1 : Addr),
                                ((!decide (x1 < (0 : Int))) = true → some { block := b, off := (0 : Nat) } = some a1 ∧ (0 : Int) ≤ x ∧ x < (↑(6 : Nat) : Int)) ∧
                                  ∃ (x2 : Int),
                                    ((!decide (x1 < (0 : Int))) = true → At H1 (a1.add (x.toNat * nat_lit 1)) [Value.int IntKind.i64 x2]) ∧
                                      ((decide (x1 < (0 : Int)) || decide (x2 > (1048576 : Int))) = true → K (Value.bool false) H1) ∧
                                        ((decide (x1 < (0 : Int)) || decide (x2 > (1048576 : Int))) = false →
                                          Rel (IntKind.i64.wrap (x + (1 : Int))) H1 ∧ mu (IntKind.i64.wrap (x + (1 : Int))) H1 < mu x H1)) ∧
                    (decide (x < (↑(6 : Nat) : Int)) = false →
                      K
                        (Value.bool
                          (decide (oQueue ≥ (0 : Int)) && decide (oQueue < (8 : Int)) && decide (oDen ≥ (1 : Int)) && decide (oDen ≤ (1000 : Int)) && decide (oNum ≥ oDen) &&
                                decide (oNum ≤ (1000 : Int)) &&
                              decide (oTries ≥ (0 : Int)) &&
                            decide (oTries ≤ (1000 : Int))))
                        H1)
theorem v47 {oQueue : Int} {oStart : Int} {oClose : Int} {oTotal : Int} {oBeat : Int} {oFirst : Int} {oNum : Int} {oDen : Int} {oMost : Int} {oTries : Int} {oNever : Int} {H : Heap} {K : Value → Heap → Prop} (h : F47 oQueue oStart oClose oTotal oBeat oFirst oNum oDen oMost oTries oNever H K) : Tr Try.prog 47 #[.agg #[.int .i64 oQueue, .int .i64 oStart, .int .i64 oClose, .int .i64 oTotal, .int .i64 oBeat, .int .i64 oFirst, .int .i64 oNum, .int .i64 oDen, .int .i64 oMost, .int .i64 oTries, .int .i64 oNever]] H K :=
  tr_of_vc (C := c47) Try.func47 (Eq.mpr (show vcFn c47 Try.f47 [.agg #[.int .i64 oQueue, .int .i64 oStart, .int .i64 oClose, .int .i64 oTotal, .int .i64 oBeat, .int .i64 oFirst, .int .i64 oNum, .int .i64 oDen, .int .i64 oMost, .int .i64 oTries, .int .i64 oNever]] H K = F47 oQueue oStart oClose oTotal oBeat oFirst oNum oDen oMost oTries oNever H K by kernel_rfl) h)

/- tapestry/tapestryref13.named -/
noncomputable def c48 : Cx := { P := Try.prog, res := [], pub := [], loops := [⟨7, [(6, .int .i64)], [4, 57, 58, 59, 60, 61, 62, 63, 64, 65, 66, 67, 68, 69, 70, 71, 72, 73, 74, 75, 76, 77, 78, 79, 80, 81, 82, 83, 84, 85, 86], []⟩], quiet := [37] }
def F48 (pFuncsA : Option Addr) (pFuncsn pFuncsc : Nat) (pOptsA : Option Addr) (pOptsn pOptsc : Nat) (i : Int) (H : Heap) (K : Value → Heap → Prop) : Prop :=
    ∃ (a : Addr),
      (pFuncsA = some a ∧ (0 : Int) ≤ i ∧ i < (↑pFuncsn : Int)) ∧
        ∃ (x : Int),
          ∃ (x1 : Int),
            ∃ (A : Option Addr),
              ∃ (n : Nat),
                ∃ (c : Nat),
                  At H (a.add (i.toNat * nat_lit 3)) [Value.int IntKind.i64 x, Value.int IntKind.i64 x1, Value.slice A n c] ∧
                    ((decide (x < (0 : Int)) || decide (x > (4 : Int)) || x == (0 : Int) && i != (0 : Int) || x != (0 : Int) && i == (0 : Int)) = true → K (Value.bool false) H) ∧
                      ((decide (x < (0 : Int)) || decide (x > (4 : Int)) || x == (0 : Int) && i != (0 : Int) || x != (0 : Int) && i == (0 : Int)) = false →
                        ((decide (x < (2 : Int)) && x1 != (0 : Int) || decide (x1 < (0 : Int)) || decide (x1 > (7 : Int))) = true → K (Value.bool false) H) ∧
                          ((decide (x < (2 : Int)) && x1 != (0 : Int) || decide (x1 < (0 : Int)) || decide (x1 > (7 : Int))) = false →
                            ∃ (Rel : Int → Heap → Prop),
                              ∃ (mu : Int → Heap → Nat),
                                Rel (0 : Int) H ∧
                                  ∀ (x2 : Int) (H1 : Heap),
                                    Rel x2 H1 →
                                      (decide (x2 < i) = true →
                                          ∃ (a1 : Addr),
                                            (decide (x ≥ (2 : Int)) = true → pFuncsA = some a1 ∧ (0 : Int) ≤ x2 ∧ x2 < (↑pFuncsn : Int)) ∧
                                              ∃ (x3 : Int),
                                                (decide (x ≥ (2 : Int)) = true → At H1 ((a1.add (x2.toNat * nat_lit 3)).add (nat_lit 0)) [Value.int IntKind.i64 x3]) ∧
                                                  ∃ (a2 : Addr),
                                                    ((decide (x ≥ (2 : Int)) && x3 == x) = true → pFuncsA = some a2 ∧ (0 : Int) ≤ x2 ∧ x2 < (↑pFuncsn : Int)) ∧
                                                      ∃ (x4 : Int),
                                                        ((decide (x ≥ (2 : Int)) && x3 == x) = true →
                                                            At H1 ((a2.add (x2.toNat * nat_lit 3)).add (nat_lit 1)) [Value.int IntKind.i64 x4]) ∧
                                                          ((decide (x ≥ (2 : Int)) && x3 == x && x4 == x1) = true → K (Value.bool false) H1) ∧
                                                            ((decide (x ≥ (2 : Int)) && x3 == x && x4 == x1) = false →
                                                              Rel (IntKind.i64.wrap (x2 + (1 : Int))) H1 ∧ mu (IntKind.i64.wrap (x2 + (1 : Int))) H1 < mu x2 H1)) ∧
                                        (decide (x2 < i) = false →
                                          ∃ (x5 : Int),
                                            (Tr Try.prog (37 : Nat)
                                                #[Value.agg #[Value.slice pFuncsA pFuncsn pFuncsc, Value.slice pOptsA pOptsn pOptsc], Value.int IntKind.i64 (3 : Int),
                                                  Value.int IntKind.i64 x1]
                                                H1 fun (v : Value) (H' : Heap) => v = Value.int IntKind.i64 x5 ∧ Ax.Sub H1 H') ∧
                                              ((x == (4 : Int) && decide (x5 < (0 : Int))) = true → K (Value.bool false) H1) ∧
                                                ((x == (4 : Int) && decide (x5 < (0 : Int))) = false →
                                                  K (Value.bool (decide ((↑n : Int) ≥ (1 : Int)) && decide ((↑n : Int) ≤ (128 : Int)))) H1))))
theorem v48 {pFuncsA : Option Addr} {pFuncsn pFuncsc : Nat} {pOptsA : Option Addr} {pOptsn pOptsc : Nat} {i : Int} {H : Heap} {K : Value → Heap → Prop} (h : F48 pFuncsA pFuncsn pFuncsc pOptsA pOptsn pOptsc i H K) : Tr Try.prog 48 #[.agg #[.slice pFuncsA pFuncsn pFuncsc, .slice pOptsA pOptsn pOptsc], .int .i64 i] H K :=
  tr_of_vc (C := c48) Try.func48 (Eq.mpr (show vcFn c48 Try.f48 [.agg #[.slice pFuncsA pFuncsn pFuncsc, .slice pOptsA pOptsn pOptsc], .int .i64 i] H K = F48 pFuncsA pFuncsn pFuncsc pOptsA pOptsn pOptsc i H K by kernel_rfl) h)

/- tapestry/tapestryref13.right -/
noncomputable def c49 : Cx := { P := Try.prog, res := [], pub := [], loops := [], quiet := [29, 31, 66] }
def F49 (pFuncsA : Option Addr) (pFuncsn pFuncsc : Nat) (pOptsA : Option Addr) (pOptsn pOptsc : Nat) (i : Int) (k : Int) (H : Heap) (K : Value → Heap → Prop) : Prop :=
    ∃ (a : Addr),
      (pFuncsA = some a ∧ (0 : Int) ≤ i ∧ i < (↑pFuncsn : Int)) ∧
        ∃ (x : Int),
          ∃ (x1 : Int),
            ∃ (A : Option Addr),
              ∃ (n : Nat),
                ∃ (c : Nat),
                  At H (a.add (i.toNat * nat_lit 3)) [Value.int IntKind.i64 x, Value.int IntKind.i64 x1, Value.slice A n c] ∧
                    ∃ (a1 : Addr),
                      (A = some a1 ∧ (0 : Int) ≤ k ∧ k < (↑n : Int)) ∧
                        ∃ (x2 : Int),
                          ∃ (x3 : Int),
                            At H (a1.add (k.toNat * nat_lit 2)) [Value.int IntKind.i64 x2, Value.int IntKind.i64 x3] ∧
                              ((decide (x2 < (0 : Int)) || decide (x2 > (37 : Int))) = true → K (Value.bool false) H) ∧
                                ((decide (x2 < (0 : Int)) || decide (x2 > (37 : Int))) = false →
                                  ∃ (x4 : Int),
                                    (Tr Try.prog (66 : Nat)
                                        #[Value.agg #[Value.slice pFuncsA pFuncsn pFuncsc, Value.slice pOptsA pOptsn pOptsc],
                                          Value.agg #[Value.int IntKind.i64 x, Value.int IntKind.i64 x1, Value.slice A n c], Value.int IntKind.i64 x2]
                                        H fun (v : Value) (H' : Heap) => v = Value.int IntKind.i64 x4 ∧ Ax.Sub H H') ∧
                                      ∃ (b : Bool),
                                        (Tr Try.prog (29 : Nat) #[Value.int IntKind.i64 x2] H fun (v1 : Value) (H'1 : Heap) => v1 = Value.bool b ∧ Ax.Sub H H'1) ∧
                                          ((!b && x3 != (0 : Int) || b && decide (x4 ≥ (0 : Int)) && (decide (x3 < (0 : Int)) || decide (x3 ≥ x4))) = true → K (Value.bool false) H) ∧
                                            ((!b && x3 != (0 : Int) || b && decide (x4 ≥ (0 : Int)) && (decide (x3 < (0 : Int)) || decide (x3 ≥ x4))) = false →
                                              ∃ (a2 : Addr),
                                                ((x2 == (27 : Int)) = true → pFuncsA = some a2 ∧ (0 : Int) ≤ x3 ∧ x3 < (↑pFuncsn : Int)) ∧
                                                  ∃ (x5 : Int),
                                                    ((x2 == (27 : Int)) = true → At H ((a2.add (x3.toNat * nat_lit 3)).add (nat_lit 0)) [Value.int IntKind.i64 x5]) ∧
                                                      ((x2 == (27 : Int) && x5 != (1 : Int)) = true → K (Value.bool false) H) ∧
                                                        ((x2 == (27 : Int) && x5 != (1 : Int)) = false →
                                                          ∃ (b1 : Bool),
                                                            (Tr Try.prog (31 : Nat) #[Value.int IntKind.i64 x2] H fun (v2 : Value) (H'2 : Heap) => v2 = Value.bool b1 ∧ Ax.Sub H H'2) ∧
                                                              (((x == (2 : Int) || x == (4 : Int)) && !b1 || x2 == (35 : Int) && i != (0 : Int)) = true → K (Value.bool false) H) ∧
                                                                (((x == (2 : Int) || x == (4 : Int)) && !b1 || x2 == (35 : Int) && i != (0 : Int)) = false →
                                                                  K
                                                                    (Value.bool
                                                                      (decide (k < IntKind.i64.wrap ((↑n : Int) - (1 : Int))) ||
                                                                        (x2 == (13 : Int) || x2 == (35 : Int) || x2 == (36 : Int) || x2 == (37 : Int))))
                                                                    H))))
theorem v49 {pFuncsA : Option Addr} {pFuncsn pFuncsc : Nat} {pOptsA : Option Addr} {pOptsn pOptsc : Nat} {i : Int} {k : Int} {H : Heap} {K : Value → Heap → Prop} (h : F49 pFuncsA pFuncsn pFuncsc pOptsA pOptsn pOptsc i k H K) : Tr Try.prog 49 #[.agg #[.slice pFuncsA pFuncsn pFuncsc, .slice pOptsA pOptsn pOptsc], .int .i64 i, .int .i64 k] H K :=
  tr_of_vc (C := c49) Try.func49 (Eq.mpr (show vcFn c49 Try.f49 [.agg #[.slice pFuncsA pFuncsn pFuncsc, .slice pOptsA pOptsn pOptsc], .int .i64 i, .int .i64 k] H K = F49 pFuncsA pFuncsn pFuncsc pOptsA pOptsn pOptsc i k H K by kernel_rfl) h)

/- tapestry/code.operand -/
noncomputable def c64 : Cx := { P := Try.prog, res := [], pub := [], loops := [], quiet := [72] }
def F64 (pFuncsA : Option Addr) (pFuncsn pFuncsc : Nat) (pOptsA : Option Addr) (pOptsn pOptsc : Nat) (fKind : Int) (fName : Int) (fOpsA : Option Addr) (fOpsn fOpsc : Nat) (oCode : Int) (oA : Int) (H : Heap) (K : Value → Heap → Prop) : Prop :=
    ((oCode == (0 : Int)) = true → K (Value.bool true) H) ∧
      ((oCode == (0 : Int)) = false →
        ((oCode == (13 : Int)) = true →
            ((oCode == (13 : Int)) = true →
                ∃ (b : Bool),
                  (Tr Try.prog (72 : Nat) #[Value.int IntKind.i64 oA, Value.int IntKind.i64 (↑fOpsn : Int)] H fun (v : Value) (H' : Heap) => v = Value.bool b ∧ Ax.Sub H H') ∧
                    K (Value.bool b) H) ∧
              ((oCode == (13 : Int)) = false →
                ((oCode == (15 : Int)) = true →
                    ((oCode == (15 : Int)) = true →
                        ∃ (b1 : Bool),
                          (Tr Try.prog (72 : Nat) #[Value.int IntKind.i64 oA, Value.int IntKind.i64 (16 : Int)] H fun (v1 : Value) (H'1 : Heap) => v1 = Value.bool b1 ∧ Ax.Sub H H'1) ∧
                            K (Value.bool b1) H) ∧
                      ((oCode == (15 : Int)) = false →
                        ((oCode == (20 : Int)) = true →
                            ∃ (b2 : Bool),
                              (Tr Try.prog (72 : Nat) #[Value.int IntKind.i64 oA, Value.int IntKind.i64 (↑pOptsn : Int)] H fun (v2 : Value) (H'2 : Heap) =>
                                  v2 = Value.bool b2 ∧ Ax.Sub H H'2) ∧
                                K (Value.bool b2) H) ∧
                          ((oCode == (20 : Int)) = false →
                            ((oCode == (22 : Int)) = true →
                                ∃ (b3 : Bool),
                                  (Tr Try.prog (72 : Nat) #[Value.int IntKind.i64 oA, Value.int IntKind.i64 (8 : Int)] H fun (v3 : Value) (H'3 : Heap) =>
                                      v3 = Value.bool b3 ∧ Ax.Sub H H'3) ∧
                                    K (Value.bool b3) H) ∧
                              ((oCode == (22 : Int)) = false →
                                ((oCode == (25 : Int)) = true →
                                    ((oCode == (25 : Int)) = true →
                                        ∃ (b4 : Bool),
                                          (Tr Try.prog (72 : Nat) #[Value.int IntKind.i64 oA, Value.int IntKind.i64 (8 : Int)] H fun (v4 : Value) (H'4 : Heap) =>
                                              v4 = Value.bool b4 ∧ Ax.Sub H H'4) ∧
                                            K (Value.bool b4) H) ∧
                                      ((oCode == (25 : Int)) = false →
                                        ((oCode == (27 : Int)) = true →
                                            ∃ (b5 : Bool),
                                              (Tr Try.prog (72 : Nat) #[Value.int IntKind.i64 oA, Value.int IntKind.i64 (↑pFuncsn : Int)] H fun (v5 : Value) (H'5 : Heap) =>
                                                  v5 = Value.bool b5 ∧ Ax.Sub H H'5) ∧
                                                ∃ (a : Addr),
                                                  (b5 = true → pFuncsA = some a ∧ (0 : Int) ≤ oA ∧ oA < (↑pFuncsn : Int)) ∧
                                                    ∃ (x : Int),
                                                      (b5 = true → At H ((a.add (oA.toNat * nat_lit 3)).add (nat_lit 0)) [Value.int IntKind.i64 x]) ∧
                                                        K (Value.bool (b5 && x == (1 : Int))) H) ∧
                                          ((oCode == (27 : Int)) = false →
                                            ((oCode == (33 : Int)) = true →
                                                ∃ (b6 : Bool),
                                                  (Tr Try.prog (72 : Nat) #[Value.int IntKind.i64 oA, Value.int IntKind.i64 (4 : Int)] H fun (v6 : Value) (H'6 : Heap) =>
                                                      v6 = Value.bool b6 ∧ Ax.Sub H H'6) ∧
                                                    K (Value.bool b6) H) ∧
                                              ((oCode == (33 : Int)) = false → K (Value.bool (oA == (0 : Int))) H)))) ∧
                                  ((oCode == (25 : Int)) = false →
                                    ((oCode == (26 : Int)) = true →
                                        ((oCode == (26 : Int)) = true →
                                            ∃ (b7 : Bool),
                                              (Tr Try.prog (72 : Nat) #[Value.int IntKind.i64 oA, Value.int IntKind.i64 (8 : Int)] H fun (v7 : Value) (H'7 : Heap) =>
                                                  v7 = Value.bool b7 ∧ Ax.Sub H H'7) ∧
                                                K (Value.bool b7) H) ∧
                                          ((oCode == (26 : Int)) = false →
                                            ((oCode == (27 : Int)) = true →
                                                ∃ (b8 : Bool),
                                                  (Tr Try.prog (72 : Nat) #[Value.int IntKind.i64 oA, Value.int IntKind.i64 (↑pFuncsn : Int)] H fun (v8 : Value) (H'8 : Heap) =>
                                                      v8 = Value.bool b8 ∧ Ax.Sub H H'8) ∧
                                                    ∃ (a1 : Addr),
                                                      (b8 = true → pFuncsA = some a1 ∧ (0 : Int) ≤ oA ∧ oA < (↑pFuncsn : Int)) ∧
                                                        ∃ (x1 : Int),
                                                          (b8 = true → At H ((a1.add (oA.toNat * nat_lit 3)).add (nat_lit 0)) [Value.int IntKind.i64 x1]) ∧
                                                            K (Value.bool (b8 && x1 == (1 : Int))) H) ∧
                                              ((oCode == (27 : Int)) = false →
                                                ((oCode == (33 : Int)) = true →
                                                    ∃ (b9 : Bool),
                                                      (Tr Try.prog (72 : Nat) #[Value.int IntKind.i64 oA, Value.int IntKind.i64 (4 : Int)] H fun (v9 : Value) (H'9 : Heap) =>
                                                          v9 = Value.bool b9 ∧ Ax.Sub H H'9) ∧
                                                        K (Value.bool b9) H) ∧
                                                  ((oCode == (33 : Int)) = false → K (Value.bool (oA == (0 : Int))) H)))) ∧
                                      ((oCode == (26 : Int)) = false →
                                        ((oCode == (34 : Int)) = true →
                                            ∃ (b10 : Bool),
                                              (Tr Try.prog (72 : Nat) #[Value.int IntKind.i64 oA, Value.int IntKind.i64 (8 : Int)] H fun (v10 : Value) (H'10 : Heap) =>
                                                  v10 = Value.bool b10 ∧ Ax.Sub H H'10) ∧
                                                K (Value.bool b10) H) ∧
                                          ((oCode == (34 : Int)) = false →
                                            ((oCode == (27 : Int)) = true →
                                                ∃ (b11 : Bool),
                                                  (Tr Try.prog (72 : Nat) #[Value.int IntKind.i64 oA, Value.int IntKind.i64 (↑pFuncsn : Int)] H fun (v11 : Value) (H'11 : Heap) =>
                                                      v11 = Value.bool b11 ∧ Ax.Sub H H'11) ∧
                                                    ∃ (a2 : Addr),
                                                      (b11 = true → pFuncsA = some a2 ∧ (0 : Int) ≤ oA ∧ oA < (↑pFuncsn : Int)) ∧
                                                        ∃ (x2 : Int),
                                                          (b11 = true → At H ((a2.add (oA.toNat * nat_lit 3)).add (nat_lit 0)) [Value.int IntKind.i64 x2]) ∧
                                                            K (Value.bool (b11 && x2 == (1 : Int))) H) ∧
                                              ((oCode == (27 : Int)) = false →
                                                ((oCode == (33 : Int)) = true →
                                                    ∃ (b12 : Bool),
                                                      (Tr Try.prog (72 : Nat) #[Value.int IntKind.i64 oA, Value.int IntKind.i64 (4 : Int)] H fun (v12 : Value) (H'12 : Heap) =>
                                                          v12 = Value.bool b12 ∧ Ax.Sub H H'12) ∧
                                                        K (Value.bool b12) H) ∧
                                                  ((oCode == (33 : Int)) = false → K (Value.bool (oA == (0 : Int))) H))))))))) ∧
                  ((oCode == (15 : Int)) = false →
                    ((oCode == (16 : Int)) = true →
                        ∃ (b13 : Bool),
                          (Tr Try.prog (72 : Nat) #[Value.int IntKind.i64 oA, Value.int IntKind.i64 (16 : Int)] H fun (v13 : Value) (H'13 : Heap) =>
                              v13 = Value.bool b13 ∧ Ax.Sub H H'13) ∧
                            K (Value.bool b13) H) ∧
                      ((oCode == (16 : Int)) = false →
                        ((oCode == (20 : Int)) = true →
                            ∃ (b14 : Bool),
                              (Tr Try.prog (72 : Nat) #[Value.int IntKind.i64 oA, Value.int IntKind.i64 (↑pOptsn : Int)] H fun (v14 : Value) (H'14 : Heap) =>
                                  v14 = Value.bool b14 ∧ Ax.Sub H H'14) ∧
                                K (Value.bool b14) H) ∧
                          ((oCode == (20 : Int)) = false →
                            ((oCode == (22 : Int)) = true →
                                ∃ (b15 : Bool),
                                  (Tr Try.prog (72 : Nat) #[Value.int IntKind.i64 oA, Value.int IntKind.i64 (8 : Int)] H fun (v15 : Value) (H'15 : Heap) =>
                                      v15 = Value.bool b15 ∧ Ax.Sub H H'15) ∧
                                    K (Value.bool b15) H) ∧
                              ((oCode == (22 : Int)) = false →
                                ((oCode == (25 : Int)) = true →
                                    ((oCode == (25 : Int)) = true →
                                        ∃ (b16 : Bool),
                                          (Tr Try.prog (72 : Nat) #[Value.int IntKind.i64 oA, Value.int IntKind.i64 (8 : Int)] H fun (v16 : Value) (H'16 : Heap) =>
                                              v16 = Value.bool b16 ∧ Ax.Sub H H'16) ∧
                                            K (Value.bool b16) H) ∧
                                      ((oCode == (25 : Int)) = false →
                                        ((oCode == (27 : Int)) = true →
                                            ∃ (b17 : Bool),
                                              (Tr Try.prog (72 : Nat) #[Value.int IntKind.i64 oA, Value.int IntKind.i64 (↑pFuncsn : Int)] H fun (v17 : Value) (H'17 : Heap) =>
                                                  v17 = Value.bool b17 ∧ Ax.Sub H H'17) ∧
                                                ∃ (a3 : Addr),
                                                  (b17 = true → pFuncsA = some a3 ∧ (0 : Int) ≤ oA ∧ oA < (↑pFuncsn : Int)) ∧
                                                    ∃ (x3 : Int),
                                                      (b17 = true → At H ((a3.add (oA.toNat * nat_lit 3)).add (nat_lit 0)) [Value.int IntKind.i64 x3]) ∧
                                                        K (Value.bool (b17 && x3 == (1 : Int))) H) ∧
                                          ((oCode == (27 : Int)) = false →
                                            ((oCode == (33 : Int)) = true →
                                                ∃ (b18 : Bool),
                                                  (Tr Try.prog (72 : Nat) #[Value.int IntKind.i64 oA, Value.int IntKind.i64 (4 : Int)] H fun (v18 : Value) (H'18 : Heap) =>
                                                      v18 = Value.bool b18 ∧ Ax.Sub H H'18) ∧
                                                    K (Value.bool b18) H) ∧
                                              ((oCode == (33 : Int)) = false → K (Value.bool (oA == (0 : Int))) H)))) ∧
                                  ((oCode == (25 : Int)) = false →
                                    ((oCode == (26 : Int)) = true →
                                        ((oCode == (26 : Int)) = true →
                                            ∃ (b19 : Bool),
                                              (Tr Try.prog (72 : Nat) #[Value.int IntKind.i64 oA, Value.int IntKind.i64 (8 : Int)] H fun (v19 : Value) (H'19 : Heap) =>
                                                  v19 = Value.bool b19 ∧ Ax.Sub H H'19) ∧
                                                K (Value.bool b19) H) ∧
                                          ((oCode == (26 : Int)) = false →
                                            ((oCode == (27 : Int)) = true →
                                                ∃ (b20 : Bool),
                                                  (Tr Try.prog (72 : Nat) #[Value.int IntKind.i64 oA, Value.int IntKind.i64 (↑pFuncsn : Int)] H fun (v20 : Value) (H'20 : Heap) =>
                                                      v20 = Value.bool b20 ∧ Ax.Sub H H'20) ∧
                                                    ∃ (a4 : Addr),
                                                      (b20 = true → pFuncsA = some a4 ∧ (0 : Int) ≤ oA ∧ oA < (↑pFuncsn : Int)) ∧
                                                        ∃ (x4 : Int),
                                                          (b20 = true → At H ((a4.add (oA.toNat * nat_lit 3)).add (nat_lit 0)) [Value.int IntKind.i64 x4]) ∧
                                                            K (Value.bool (b20 && x4 == (1 : Int))) H) ∧
                                              ((oCode == (27 : Int)) = false →
                                                ((oCode == (33 : Int)) = true →
                                                    ∃ (b21 : Bool),
                                                      (Tr Try.prog (72 : Nat) #[Value.int IntKind.i64 oA, Value.int IntKind.i64 (4 : Int)] H fun (v21 : Value) (H'21 : Heap) =>
                                                          v21 = Value.bool b21 ∧ Ax.Sub H H'21) ∧
                                                        K (Value.bool b21) H) ∧
                                                  ((oCode == (33 : Int)) = false → K (Value.bool (oA == (0 : Int))) H)))) ∧
                                      ((oCode == (26 : Int)) = false →
                                        ((oCode == (34 : Int)) = true →
                                            ∃ (b22 : Bool),
                                              (Tr Try.prog (72 : Nat) #[Value.int IntKind.i64 oA, Value.int IntKind.i64 (8 : Int)] H fun (v22 : Value) (H'22 : Heap) =>
                                                  v22 = Value.bool b22 ∧ Ax.Sub H H'22) ∧
                                                K (Value.bool b22) H) ∧
                                          ((oCode == (34 : Int)) = false →
                                            ((oCode == (27 : Int)) = true →
                                                ∃ (b23 : Bool),
                                                  (Tr Try.prog (72 : Nat) #[Value.int IntKind.i64 oA, Value.int IntKind.i64 (↑pFuncsn : Int)] H fun (v23 : Value) (H'23 : Heap) =>
                                                      v23 = Value.bool b23 ∧ Ax.Sub H H'23) ∧
                                                    ∃ (a5 : Addr),
                                                      (b23 = true → pFuncsA = some a5 ∧ (0 : Int) ≤ oA ∧ oA < (↑pFuncsn : Int)) ∧
                                                        ∃ (x5 : Int),
                                                          (b23 = true → At H ((a5.add (oA.toNat * nat_lit 3)).add (nat_lit 0)) [Value.int IntKind.i64 x5]) ∧
                                                            K (Value.bool (b23 && x5 == (1 : Int))) H) ∧
                                              ((oCode == (27 : Int)) = false →
                                                ((oCode == (33 : Int)) = true →
                                                    ∃ (b24 : Bool),
                                                      (Tr Try.prog (72 : Nat) #[Value.int IntKind.i64 oA, Value.int IntKind.i64 (4 : Int)] H fun (v24 : Value) (H'24 : Heap) =>
                                                          v24 = Value.bool b24 ∧ Ax.Sub H H'24) ∧
                                                        K (Value.bool b24) H) ∧
                                                  ((oCode == (33 : Int)) = false → K (Value.bool (oA == (0 : Int))) H))))))))))) ∧
          ((oCode == (13 : Int)) = false →
            ((oCode == (14 : Int)) = true →
                ∃ (b25 : Bool),
                  (Tr Try.prog (72 : Nat) #[Value.int IntKind.i64 oA, Value.int IntKind.i64 (↑fOpsn : Int)] H fun (v25 : Value) (H'25 : Heap) => v25 = Value.bool b25 ∧ Ax.Sub H H'25) ∧
                    K (Value.bool b25) H) ∧
              ((oCode == (14 : Int)) = false →
                ((oCode == (15 : Int)) = true →
                    ((oCode == (15 : Int)) = true →
                        ∃ (b26 : Bool),
                          (Tr Try.prog (72 : Nat) #[Value.int IntKind.i64 oA, Value.int IntKind.i64 (16 : Int)] H fun (v26 : Value) (H'26 : Heap) =>
                              v26 = Value.bool b26 ∧ Ax.Sub H H'26) ∧
                            K (Value.bool b26) H) ∧
                      ((oCode == (15 : Int)) = false →
                        ((oCode == (20 : Int)) = true →
                            ∃ (b27 : Bool),
                              (Tr Try.prog (72 : Nat) #[Value.int IntKind.i64 oA, Value.int IntKind.i64 (↑pOptsn : Int)] H fun (v27 : Value) (H'27 : Heap) =>
                                  v27 = Value.bool b27 ∧ Ax.Sub H H'27) ∧
                                K (Value.bool b27) H) ∧
                          ((oCode == (20 : Int)) = false →
                            ((oCode == (22 : Int)) = true →
                                ∃ (b28 : Bool),
                                  (Tr Try.prog (72 : Nat) #[Value.int IntKind.i64 oA, Value.int IntKind.i64 (8 : Int)] H fun (v28 : Value) (H'28 : Heap) =>
                                      v28 = Value.bool b28 ∧ Ax.Sub H H'28) ∧
                                    K (Value.bool b28) H) ∧
                              ((oCode == (22 : Int)) = false →
                                ((oCode == (25 : Int)) = true →
                                    ((oCode == (25 : Int)) = true →
                                        ∃ (b29 : Bool),
                                          (Tr Try.prog (72 : Nat) #[Value.int IntKind.i64 oA, Value.int IntKind.i64 (8 : Int)] H fun (v29 : Value) (H'29 : Heap) =>
                                              v29 = Value.bool b29 ∧ Ax.Sub H H'29) ∧
                                            K (Value.bool b29) H) ∧
                                      ((oCode == (25 : Int)) = false →
                                        ((oCode == (27 : Int)) = true →
                                            ∃ (b30 : Bool),
                                              (Tr Try.prog (72 : Nat) #[Value.int IntKind.i64 oA, Value.int IntKind.i64 (↑pFuncsn : Int)] H fun (v30 : Value) (H'30 : Heap) =>
                                                  v30 = Value.bool b30 ∧ Ax.Sub H H'30) ∧
                                                ∃ (a6 : Addr),
                                                  (b30 = true → pFuncsA = some a6 ∧ (0 : Int) ≤ oA ∧ oA < (↑pFuncsn : Int)) ∧
                                                    ∃ (x6 : Int),
                                                      (b30 = true → At H ((a6.add (oA.toNat * nat_lit 3)).add (nat_lit 0)) [Value.int IntKind.i64 x6]) ∧
                                                        K (Value.bool (b30 && x6 == (1 : Int))) H) ∧
                                          ((oCode == (27 : Int)) = false →
                                            ((oCode == (33 : Int)) = true →
                                                ∃ (b31 : Bool),
                                                  (Tr Try.prog (72 : Nat) #[Value.int IntKind.i64 oA, Value.int IntKind.i64 (4 : Int)] H fun (v31 : Value) (H'31 : Heap) =>
                                                      v31 = Value.bool b31 ∧ Ax.Sub H H'31) ∧
                                                    K (Value.bool b31) H) ∧
                                              ((oCode == (33 : Int)) = false → K (Value.bool (oA == (0 : Int))) H)))) ∧
                                  ((oCode == (25 : Int)) = false →
                                    ((oCode == (26 : Int)) = true →
                                        ((oCode == (26 : Int)) = true →
                                            ∃ (b32 : Bool),
                                              (Tr Try.prog (72 : Nat) #[Value.int IntKind.i64 oA, Value.int IntKind.i64 (8 : Int)] H fun (v32 : Value) (H'32 : Heap) =>
                                                  v32 = Value.bool b32 ∧ Ax.Sub H H'32) ∧
                                                K (Value.bool b32) H) ∧
                                          ((oCode == (26 : Int)) = false →
                                            ((oCode == (27 : Int)) = true →
                                                ∃ (b33 : Bool),
                                                  (Tr Try.prog (72 : Nat) #[Value.int IntKind.i64 oA, Value.int IntKind.i64 (↑pFuncsn : Int)] H fun (v33 : Value) (H'33 : Heap) =>
                                                      v33 = Value.bool b33 ∧ Ax.Sub H H'33) ∧
                                                    ∃ (a7 : Addr),
                                                      (b33 = true → pFuncsA = some a7 ∧ (0 : Int) ≤ oA ∧ oA < (↑pFuncsn : Int)) ∧
                                                        ∃ (x7 : Int),
                                                          (b33 = true → At H ((a7.add (oA.toNat * nat_lit 3)).add (nat_lit 0)) [Value.int IntKind.i64 x7]) ∧
                                                            K (Value.bool (b33 && x7 == (1 : Int))) H) ∧
                                              ((oCode == (27 : Int)) = false →
                                                ((oCode == (33 : Int)) = true →
                                                    ∃ (b34 : Bool),
                                                      (Tr Try.prog (72 : Nat) #[Value.int IntKind.i64 oA, Value.int IntKind.i64 (4 : Int)] H fun (v34 : Value) (H'34 : Heap) =>
                                                          v34 = Value.bool b34 ∧ Ax.Sub H H'34) ∧
                                                        K (Value.bool b34) H) ∧
                                                  ((oCode == (33 : Int)) = false → K (Value.bool (oA == (0 : Int))) H)))) ∧
                                      ((oCode == (26 : Int)) = false →
                                        ((oCode == (34 : Int)) = true →
                                            ∃ (b35 : Bool),
                                              (Tr Try.prog (72 : Nat) #[Value.int IntKind.i64 oA, Value.int IntKind.i64 (8 : Int)] H fun (v35 : Value) (H'35 : Heap) =>
                                                  v35 = Value.bool b35 ∧ Ax.Sub H H'35) ∧
                                                K (Value.bool b35) H) ∧
                                          ((oCode == (34 : Int)) = false →
                                            ((oCode == (27 : Int)) = true →
                                                ∃ (b36 : Bool),
                                                  (Tr Try.prog (72 : Nat) #[Value.int IntKind.i64 oA, Value.int IntKind.i64 (↑pFuncsn : Int)] H fun (v36 : Value) (H'36 : Heap) =>
                                                      v36 = Value.bool b36 ∧ Ax.Sub H H'36) ∧
                                                    ∃ (a8 : Addr),
                                                      (b36 = true → pFuncsA = some a8 ∧ (0 : Int) ≤ oA ∧ oA < (↑pFuncsn : Int)) ∧
                                                        ∃ (x8 : Int),
                                                          (b36 = true → At H ((a8.add (oA.toNat * nat_lit 3)).add (nat_lit 0)) [Value.int IntKind.i64 x8]) ∧
                                                            K (Value.bool (b36 && x8 == (1 : Int))) H) ∧
                                              ((oCode == (27 : Int)) = false →
                                                ((oCode == (33 : Int)) = true →
                                                    ∃ (b37 : Bool),
                                                      (Tr Try.prog (72 : Nat) #[Value.int IntKind.i64 oA, Value.int IntKind.i64 (4 : Int)] H fun (v37 : Value) (H'37 : Heap) =>
                                                          v37 = Value.bool b37 ∧ Ax.Sub H H'37) ∧
                                                        K (Value.bool b37) H) ∧
                                                  ((oCode == (33 : Int)) = false → K (Value.bool (oA == (0 : Int))) H))))))))) ∧
                  ((oCode == (15 : Int)) = false →
                    ((oCode == (16 : Int)) = true →
                        ∃ (b38 : Bool),
                          (Tr Try.prog (72 : Nat) #[Value.int IntKind.i64 oA, Value.int IntKind.i64 (16 : Int)] H fun (v38 : Value) (H'38 : Heap) =>
                              v38 = Value.bool b38 ∧ Ax.Sub H H'38) ∧
                            K (Value.bool b38) H) ∧
                      ((oCode == (16 : Int)) = false →
                        ((oCode == (20 : Int)) = true →
                            ∃ (b39 : Bool),
                              (Tr Try.prog (72 : Nat) #[Value.int IntKind.i64 oA, Value.int IntKind.i64 (↑pOptsn : Int)] H fun (v39 : Value) (H'39 : Heap) =>
                                  v39 = Value.bool b39 ∧ Ax.Sub H H'39) ∧
                                K (Value.bool b39) H) ∧
                          ((oCode == (20 : Int)) = false →
                            ((oCode == (22 : Int)) = true →
                                ∃ (b40 : Bool),
                                  (Tr Try.prog (72 : Nat) #[Value.int IntKind.i64 oA, Value.int IntKind.i64 (8 : Int)] H fun (v40 : Value) (H'40 : Heap) =>
                                      v40 = Value.bool b40 ∧ Ax.Sub H H'40) ∧
                                    K (Value.bool b40) H) ∧
                              ((oCode == (22 : Int)) = false →
                                ((oCode == (25 : Int)) = true →
                                    ((oCode == (25 : Int)) = true →
                                        ∃ (b41 : Bool),
                                          (Tr Try.prog (72 : Nat) #[Value.int IntKind.i64 oA, Value.int IntKind.i64 (8 : Int)] H fun (v41 : Value) (H'41 : Heap) =>
                                              v41 = Value.bool b41 ∧ Ax.Sub H H'41) ∧
                                            K (Value.bool b41) H) ∧
                                      ((oCode == (25 : Int)) = false →
                                        ((oCode == (27 : Int)) = true →
                                            ∃ (b42 : Bool),
                                              (Tr Try.prog (72 : Nat) #[Value.int IntKind.i64 oA, Value.int IntKind.i64 (↑pFuncsn : Int)] H fun (v42 : Value) (H'42 : Heap) =>
                                                  v42 = Value.bool b42 ∧ Ax.Sub H H'42) ∧
                                                ∃ (a9 : Addr),
                                                  (b42 = true → pFuncsA = some a9 ∧ (0 : Int) ≤ oA ∧ oA < (↑pFuncsn : Int)) ∧
                                                    ∃ (x9 : Int),
                                                      (b42 = true → At H ((a9.add (oA.toNat * nat_lit 3)).add (nat_lit 0)) [Value.int IntKind.i64 x9]) ∧
                                                        K (Value.bool (b42 && x9 == (1 : Int))) H) ∧
                                          ((oCode == (27 : Int)) = false →
                                            ((oCode == (33 : Int)) = true →
                                                ∃ (b43 : Bool),
                                                  (Tr Try.prog (72 : Nat) #[Value.int IntKind.i64 oA, Value.int IntKind.i64 (4 : Int)] H fun (v43 : Value) (H'43 : Heap) =>
                                                      v43 = Value.bool b43 ∧ Ax.Sub H H'43) ∧
                                                    K (Value.bool b43) H) ∧
                                              ((oCode == (33 : Int)) = false → K (Value.bool (oA == (0 : Int))) H)))) ∧
                                  ((oCode == (25 : Int)) = false →
                                    ((oCode == (26 : Int)) = true →
                                        ((oCode == (26 : Int)) = true →
                                            ∃ (b44 : Bool),
                                              (Tr Try.prog (72 : Nat) #[Value.int IntKind.i64 oA, Value.int IntKind.i64 (8 : Int)] H fun (v44 : Value) (H'44 : Heap) =>
                                                  v44 = Value.bool b44 ∧ Ax.Sub H H'44) ∧
                                                K (Value.bool b44) H) ∧
                                          ((oCode == (26 : Int)) = false →
                                            ((oCode == (27 : Int)) = true →
                                                ∃ (b45 : Bool),
                                                  (Tr Try.prog (72 : Nat) #[Value.int IntKind.i64 oA, Value.int IntKind.i64 (↑pFuncsn : Int)] H fun (v45 : Value) (H'45 : Heap) =>
                                                      v45 = Value.bool b45 ∧ Ax.Sub H H'45) ∧
                                                    ∃ (a10 : Addr),
                                                      (b45 = true → pFuncsA = some a10 ∧ (0 : Int) ≤ oA ∧ oA < (↑pFuncsn : Int)) ∧
                                                        ∃ (x10 : Int),
                                                          (b45 = true → At H ((a10.add (oA.toNat * nat_lit 3)).add (nat_lit 0)) [Value.int IntKind.i64 x10]) ∧
                                                            K (Value.bool (b45 && x10 == (1 : Int))) H) ∧
                                              ((oCode == (27 : Int)) = false →
                                                ((oCode == (33 : Int)) = true →
                                                    ∃ (b46 : Bool),
                                                      (Tr Try.prog (72 : Nat) #[Value.int IntKind.i64 oA, Value.int IntKind.i64 (4 : Int)] H fun (v46 : Value) (H'46 : Heap) =>
                                                          v46 = Value.bool b46 ∧ Ax.Sub H H'46) ∧
                                                        K (Value.bool b46) H) ∧
                                                  ((oCode == (33 : Int)) = false → K (Value.bool (oA == (0 : Int))) H)))) ∧
                                      ((oCode == (26 : Int)) = false →
                                        ((oCode == (34 : Int)) = true →
                                            ∃ (b47 : Bool),
                                              (Tr Try.prog (72 : Nat) #[Value.int IntKind.i64 oA, Value.int IntKind.i64 (8 : Int)] H fun (v47 : Value) (H'47 : Heap) =>
                                                  v47 = Value.bool b47 ∧ Ax.Sub H H'47) ∧
                                                K (Value.bool b47) H) ∧
                                          ((oCode == (34 : Int)) = false →
                                            ((oCode == (27 : Int)) = true →
                                                ∃ (b48 : Bool),
                                                  (Tr Try.prog (72 : Nat) #[Value.int IntKind.i64 oA, Value.int IntKind.i64 (↑pFuncsn : Int)] H fun (v48 : Value) (H'48 : Heap) =>
                                                      v48 = Value.bool b48 ∧ Ax.Sub H H'48) ∧
                                                    ∃ (a11 : Addr),
                                                      (b48 = true → pFuncsA = some a11 ∧ (0 : Int) ≤ oA ∧ oA < (↑pFuncsn : Int)) ∧
                                                        ∃ (x11 : Int),
                                                          (b48 = true → At H ((a11.add (oA.toNat * nat_lit 3)).add (nat_lit 0)) [Value.int IntKind.i64 x11]) ∧
                                                            K (Value.bool (b48 && x11 == (1 : Int))) H) ∧
                                              ((oCode == (27 : Int)) = false →
                                                ((oCode == (33 : Int)) = true →
                                                    ∃ (b49 : Bool),
                                                      (Tr Try.prog (72 : Nat) #[Value.int IntKind.i64 oA, Value.int IntKind.i64 (4 : Int)] H fun (v49 : Value) (H'49 : Heap) =>
                                                          v49 = Value.bool b49 ∧ Ax.Sub H H'49) ∧
                                                        K (Value.bool b49) H) ∧
                                                  ((oCode == (33 : Int)) = false → K (Value.bool (oA == (0 : Int))) H))))))))))))
theorem v64 {pFuncsA : Option Addr} {pFuncsn pFuncsc : Nat} {pOptsA : Option Addr} {pOptsn pOptsc : Nat} {fKind : Int} {fName : Int} {fOpsA : Option Addr} {fOpsn fOpsc : Nat} {oCode : Int} {oA : Int} {H : Heap} {K : Value → Heap → Prop} (h : F64 pFuncsA pFuncsn pFuncsc pOptsA pOptsn pOptsc fKind fName fOpsA fOpsn fOpsc oCode oA H K) : Tr Try.prog 64 #[.agg #[.slice pFuncsA pFuncsn pFuncsc, .slice pOptsA pOptsn pOptsc], .agg #[.int .i64 fKind, .int .i64 fName, .slice fOpsA fOpsn fOpsc], .agg #[.int .i64 oCode, .int .i64 oA]] H K :=
  tr_of_vc (C := c64) Try.func64 (Eq.mpr (show vcFn c64 Try.f64 [.agg #[.slice pFuncsA pFuncsn pFuncsc, .slice pOptsA pOptsn pOptsc], .agg #[.int .i64 fKind, .int .i64 fName, .slice fOpsA fOpsn fOpsc], .agg #[.int .i64 oCode, .int .i64 oA]] H K = F64 pFuncsA pFuncsn pFuncsc pOptsA pOptsn pOptsc fKind fName fOpsA fOpsn fOpsc oCode oA H K by kernel_rfl) h)

/- tapestry/code.ends -/
noncomputable def c65 : Cx := { P := Try.prog, res := [], pub := [], loops := [], quiet := [] }
def F65 (op : Int) (H : Heap) (K : Value → Heap → Prop) : Prop :=
    K (Value.bool (op == (13 : Int) || op == (35 : Int) || op == (36 : Int) || op == (37 : Int))) H
theorem v65 {op : Int} {H : Heap} {K : Value → Heap → Prop} (h : F65 op H K) : Tr Try.prog 65 #[.int .i64 op] H K :=
  tr_of_vc (C := c65) Try.func65 (Eq.mpr (show vcFn c65 Try.f65 [.int .i64 op] H K = F65 op H K by kernel_rfl) h)

/- tapestry/tapestryref13.most -/
noncomputable def c66 : Cx := { P := Try.prog, res := [], pub := [], loops := [], quiet := [] }
def F66 (pFuncsA : Option Addr) (pFuncsn pFuncsc : Nat) (pOptsA : Option Addr) (pOptsn pOptsc : Nat) (fKind : Int) (fName : Int) (fOpsA : Option Addr) (fOpsn fOpsc : Nat) (op : Int) (H : Heap) (K : Value → Heap → Prop) : Prop :=
    ((op == (0 : Int)) = true → K (Value.int IntKind.i64 (-1 : Int)) H) ∧
      ((op == (0 : Int)) = false →
        ((op == (13 : Int)) = true →
            ((op == (13 : Int)) = true → K (Value.int IntKind.i64 (↑fOpsn : Int)) H) ∧
              ((op == (13 : Int)) = false →
                ((op == (15 : Int)) = true →
                    ((op == (15 : Int)) = true → K (Value.int IntKind.i64 (16 : Int)) H) ∧
                      ((op == (15 : Int)) = false →
                        ((op == (20 : Int)) = true → K (Value.int IntKind.i64 (↑pOptsn : Int)) H) ∧
                          ((op == (20 : Int)) = false →
                            ((op == (22 : Int)) = true →
                                ((op == (22 : Int)) = true → K (Value.int IntKind.i64 (8 : Int)) H) ∧
                                  ((op == (22 : Int)) = false →
                                    ((op == (27 : Int)) = true → K (Value.int IntKind.i64 (↑pFuncsn : Int)) H) ∧
                                      ((op == (27 : Int)) = false →
                                        ((op == (33 : Int)) = true → K (Value.int IntKind.i64 (4 : Int)) H) ∧ ((op == (33 : Int)) = false → K (Value.int IntKind.i64 (0 : Int)) H)))) ∧
                              ((op == (22 : Int)) = false →
                                ((op == (25 : Int)) = true →
                                    ((op == (25 : Int)) = true → K (Value.int IntKind.i64 (8 : Int)) H) ∧
                                      ((op == (25 : Int)) = false →
                                        ((op == (27 : Int)) = true → K (Value.int IntKind.i64 (↑pFuncsn : Int)) H) ∧
                                          ((op == (27 : Int)) = false →
                                            ((op == (33 : Int)) = true → K (Value.int IntKind.i64 (4 : Int)) H) ∧
                                              ((op == (33 : Int)) = false → K (Value.int IntKind.i64 (0 : Int)) H)))) ∧
                                  ((op == (25 : Int)) = false →
                                    ((op == (26 : Int)) = true →
                                        ((op == (26 : Int)) = true → K (Value.int IntKind.i64 (8 : Int)) H) ∧
                                          ((op == (26 : Int)) = false →
                                            ((op == (27 : Int)) = true → K (Value.int IntKind.i64 (↑pFuncsn : Int)) H) ∧
                                              ((op == (27 : Int)) = false →
                                                ((op == (33 : Int)) = true → K (Value.int IntKind.i64 (4 : Int)) H) ∧
                                                  ((op == (33 : Int)) = false → K (Value.int IntKind.i64 (0 : Int)) H)))) ∧
                                      ((op == (26 : Int)) = false →
                                        ((op == (34 : Int)) = true → K (Value.int IntKind.i64 (8 : Int)) H) ∧
                                          ((op == (34 : Int)) = false →
                                            ((op == (27 : Int)) = true → K (Value.int IntKind.i64 (↑pFuncsn : Int)) H) ∧
                                              ((op == (27 : Int)) = false →
                                                ((op == (33 : Int)) = true → K (Value.int IntKind.i64 (4 : Int)) H) ∧
                                                  ((op == (33 : Int)) = false → K (Value.int IntKind.i64 (0 : Int)) H))))))))) ∧
                  ((op == (15 : Int)) = false →
                    ((op == (16 : Int)) = true → K (Value.int IntKind.i64 (16 : Int)) H) ∧
                      ((op == (16 : Int)) = false →
                        ((op == (20 : Int)) = true → K (Value.int IntKind.i64 (↑pOptsn : Int)) H) ∧
                          ((op == (20 : Int)) = false →
                            ((op == (22 : Int)) = true →
                                ((op == (22 : Int)) = true → K (Value.int IntKind.i64 (8 : Int)) H) ∧
                                  ((op == (22 : Int)) = false →
                                    ((op == (27 : Int)) = true → K (Value.int IntKind.i64 (↑pFuncsn : Int)) H) ∧
                                      ((op == (27 : Int)) = false →
                                        ((op == (33 : Int)) = true → K (Value.int IntKind.i64 (4 : Int)) H) ∧ ((op == (33 : Int)) = false → K (Value.int IntKind.i64 (0 : Int)) H)))) ∧
                              ((op == (22 : Int)) = false →
                                ((op == (25 : Int)) = true →
                                    ((op == (25 : Int)) = true → K (Value.int IntKind.i64 (8 : Int)) H) ∧
                                      ((op == (25 : Int)) = false →
                                        ((op == (27 : Int)) = true → K (Value.int IntKind.i64 (↑pFuncsn : Int)) H) ∧
                                          ((op == (27 : Int)) = false →
                                            ((op == (33 : Int)) = true → K (Value.int IntKind.i64 (4 : Int)) H) ∧
                                              ((op == (33 : Int)) = false → K (Value.int IntKind.i64 (0 : Int)) H)))) ∧
                                  ((op == (25 : Int)) = false →
                                    ((op == (26 : Int)) = true →
                                        ((op == (26 : Int)) = true → K (Value.int IntKind.i64 (8 : Int)) H) ∧
                                          ((op == (26 : Int)) = false →
                                            ((op == (27 : Int)) = true → K (Value.int IntKind.i64 (↑pFuncsn : Int)) H) ∧
                                              ((op == (27 : Int)) = false →
                                                ((op == (33 : Int)) = true → K (Value.int IntKind.i64 (4 : Int)) H) ∧
                                                  ((op == (33 : Int)) = false → K (Value.int IntKind.i64 (0 : Int)) H)))) ∧
                                      ((op == (26 : Int)) = false →
                                        ((op == (34 : Int)) = true → K (Value.int IntKind.i64 (8 : Int)) H) ∧
                                          ((op == (34 : Int)) = false →
                                            ((op == (27 : Int)) = true → K (Value.int IntKind.i64 (↑pFuncsn : Int)) H) ∧
                                              ((op == (27 : Int)) = false →
                                                ((op == (33 : Int)) = true → K (Value.int IntKind.i64 (4 : Int)) H) ∧
                                                  ((op == (33 : Int)) = false → K (Value.int IntKind.i64 (0 : Int)) H))))))))))) ∧
          ((op == (13 : Int)) = false →
            ((op == (14 : Int)) = true → K (Value.int IntKind.i64 (↑fOpsn : Int)) H) ∧
              ((op == (14 : Int)) = false →
                ((op == (15 : Int)) = true →
                    ((op == (15 : Int)) = true → K (Value.int IntKind.i64 (16 : Int)) H) ∧
                      ((op == (15 : Int)) = false →
                        ((op == (20 : Int)) = true → K (Value.int IntKind.i64 (↑pOptsn : Int)) H) ∧
                          ((op == (20 : Int)) = false →
                            ((op == (22 : Int)) = true →
                                ((op == (22 : Int)) = true → K (Value.int IntKind.i64 (8 : Int)) H) ∧
                                  ((op == (22 : Int)) = false →
                                    ((op == (27 : Int)) = true → K (Value.int IntKind.i64 (↑pFuncsn : Int)) H) ∧
                                      ((op == (27 : Int)) = false →
                                        ((op == (33 : Int)) = true → K (Value.int IntKind.i64 (4 : Int)) H) ∧ ((op == (33 : Int)) = false → K (Value.int IntKind.i64 (0 : Int)) H)))) ∧
                              ((op == (22 : Int)) = false →
                                ((op == (25 : Int)) = true →
                                    ((op == (25 : Int)) = true → K (Value.int IntKind.i64 (8 : Int)) H) ∧
                                      ((op == (25 : Int)) = false →
                                        ((op == (27 : Int)) = true → K (Value.int IntKind.i64 (↑pFuncsn : Int)) H) ∧
                                          ((op == (27 : Int)) = false →
                                            ((op == (33 : Int)) = true → K (Value.int IntKind.i64 (4 : Int)) H) ∧
                                              ((op == (33 : Int)) = false → K (Value.int IntKind.i64 (0 : Int)) H)))) ∧
                                  ((op == (25 : Int)) = false →
                                    ((op == (26 : Int)) = true →
                                        ((op == (26 : Int)) = true → K (Value.int IntKind.i64 (8 : Int)) H) ∧
                                          ((op == (26 : Int)) = false →
                                            ((op == (27 : Int)) = true → K (Value.int IntKind.i64 (↑pFuncsn : Int)) H) ∧
                                              ((op == (27 : Int)) = false →
                                                ((op == (33 : Int)) = true → K (Value.int IntKind.i64 (4 : Int)) H) ∧
                                                  ((op == (33 : Int)) = false → K (Value.int IntKind.i64 (0 : Int)) H)))) ∧
                                      ((op == (26 : Int)) = false →
                                        ((op == (34 : Int)) = true → K (Value.int IntKind.i64 (8 : Int)) H) ∧
                                          ((op == (34 : Int)) = false →
                                            ((op == (27 : Int)) = true → K (Value.int IntKind.i64 (↑pFuncsn : Int)) H) ∧
                                              ((op == (27 : Int)) = false →
                                                ((op == (33 : Int)) = true → K (Value.int IntKind.i64 (4 : Int)) H) ∧
                                                  ((op == (33 : Int)) = false → K (Value.int IntKind.i64 (0 : Int)) H))))))))) ∧
                  ((op == (15 : Int)) = false →
                    ((op == (16 : Int)) = true → K (Value.int IntKind.i64 (16 : Int)) H) ∧
                      ((op == (16 : Int)) = false →
                        ((op == (20 : Int)) = true → K (Value.int IntKind.i64 (↑pOptsn : Int)) H) ∧
                          ((op == (20 : Int)) = false →
                            ((op == (22 : Int)) = true →
                                ((op == (22 : Int)) = true → K (Value.int IntKind.i64 (8 : Int)) H) ∧
                                  ((op == (22 : Int)) = false →
                                    ((op == (27 : Int)) = true → K (Value.int IntKind.i64 (↑pFuncsn : Int)) H) ∧
                                      ((op == (27 : Int)) = false →
                                        ((op == (33 : Int)) = true → K (Value.int IntKind.i64 (4 : Int)) H) ∧ ((op == (33 : Int)) = false → K (Value.int IntKind.i64 (0 : Int)) H)))) ∧
                              ((op == (22 : Int)) = false →
                                ((op == (25 : Int)) = true →
                                    ((op == (25 : Int)) = true → K (Value.int IntKind.i64 (8 : Int)) H) ∧
                                      ((op == (25 : Int)) = false →
                                        ((op == (27 : Int)) = true → K (Value.int IntKind.i64 (↑pFuncsn : Int)) H) ∧
                                          ((op == (27 : Int)) = false →
                                            ((op == (33 : Int)) = true → K (Value.int IntKind.i64 (4 : Int)) H) ∧
                                              ((op == (33 : Int)) = false → K (Value.int IntKind.i64 (0 : Int)) H)))) ∧
                                  ((op == (25 : Int)) = false →
                                    ((op == (26 : Int)) = true →
                                        ((op == (26 : Int)) = true → K (Value.int IntKind.i64 (8 : Int)) H) ∧
                                          ((op == (26 : Int)) = false →
                                            ((op == (27 : Int)) = true → K (Value.int IntKind.i64 (↑pFuncsn : Int)) H) ∧
                                              ((op == (27 : Int)) = false →
                                                ((op == (33 : Int)) = true → K (Value.int IntKind.i64 (4 : Int)) H) ∧
                                                  ((op == (33 : Int)) = false → K (Value.int IntKind.i64 (0 : Int)) H)))) ∧
                                      ((op == (26 : Int)) = false →
                                        ((op == (34 : Int)) = true → K (Value.int IntKind.i64 (8 : Int)) H) ∧
                                          ((op == (34 : Int)) = false →
                                            ((op == (27 : Int)) = true → K (Value.int IntKind.i64 (↑pFuncsn : Int)) H) ∧
                                              ((op == (27 : Int)) = false →
                                                ((op == (33 : Int)) = true → K (Value.int IntKind.i64 (4 : Int)) H) ∧
                                                  ((op == (33 : Int)) = false → K (Value.int IntKind.i64 (0 : Int)) H))))))))))))
theorem v66 {pFuncsA : Option Addr} {pFuncsn pFuncsc : Nat} {pOptsA : Option Addr} {pOptsn pOptsc : Nat} {fKind : Int} {fName : Int} {fOpsA : Option Addr} {fOpsn fOpsc : Nat} {op : Int} {H : Heap} {K : Value → Heap → Prop} (h : F66 pFuncsA pFuncsn pFuncsc pOptsA pOptsn pOptsc fKind fName fOpsA fOpsn fOpsc op H K) : Tr Try.prog 66 #[.agg #[.slice pFuncsA pFuncsn pFuncsc, .slice pOptsA pOptsn pOptsc], .agg #[.int .i64 fKind, .int .i64 fName, .slice fOpsA fOpsn fOpsc], .int .i64 op] H K :=
  tr_of_vc (C := c66) Try.func66 (Eq.mpr (show vcFn c66 Try.f66 [.agg #[.slice pFuncsA pFuncsn pFuncsc, .slice pOptsA pOptsn pOptsc], .agg #[.int .i64 fKind, .int .i64 fName, .slice fOpsA fOpsn fOpsc], .int .i64 op] H K = F66 pFuncsA pFuncsn pFuncsc pOptsA pOptsn pOptsc fKind fName fOpsA fOpsn fOpsc op H K by kernel_rfl) h)

/- tapestry/code.within -/
noncomputable def c72 : Cx := { P := Try.prog, res := [], pub := [], loops := [], quiet := [] }
def F72 (a : Int) (n : Int) (H : Heap) (K : Value → Heap → Prop) : Prop :=
    K (Value.bool (decide (a ≥ (0 : Int)) && decide (a < n))) H
theorem v72 {a : Int} {n : Int} {H : Heap} {K : Value → Heap → Prop} (h : F72 a n H K) : Tr Try.prog 72 #[.int .i64 a, .int .i64 n] H K :=
  tr_of_vc (C := c72) Try.func72 (Eq.mpr (show vcFn c72 Try.f72 [.int .i64 a, .int .i64 n] H K = F72 a n H K by kernel_rfl) h)

end Go.Proofs.Ytanahoejlnmfiaa
