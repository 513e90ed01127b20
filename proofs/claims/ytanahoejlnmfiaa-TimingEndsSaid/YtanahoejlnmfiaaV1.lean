/- By program (axgen.py): the formulas of functions of the translation, and that each gives its function's contract. Conditions: none. -/
import Derived.Test.YtanahoejlnmfiaaProg
import Derived.Test.YtanahoejlnmfiaaAxF
set_option maxRecDepth 100000
set_option linter.unusedVariables false
namespace Go.Proofs.Ytanahoejlnmfiaa
open Go.Ax

/- tapestry/tapestrylaw17.TimingWaits -/
noncomputable def c3 : Cx := { P := Try.prog, res := [], pub := [], loops := [], quiet := [14, 15, 16, 17] }
def F3 (oQueue : Int) (oStart : Int) (oClose : Int) (oTotal : Int) (oBeat : Int) (oFirst : Int) (oNum : Int) (oDen : Int) (oMost : Int) (oTries : Int) (oNever : Int) (attempt : Int) (H : Heap) (K : Value → Heap → Prop) : Prop :=
    ∃ (b : Bool),
      (Tr Try.prog (14 : Nat) #[] H fun (v : Value) (H' : Heap) => v = Value.bool b ∧ Ax.Sub H H') ∧
        ∃ (b1 : Bool),
          (Tr Try.prog (15 : Nat)
              #[Value.agg
                  #[Value.int IntKind.i64 oQueue, Value.int IntKind.i64 oStart, Value.int IntKind.i64 oClose, Value.int IntKind.i64 oTotal, Value.int IntKind.i64 oBeat,
                    Value.int IntKind.i64 oFirst, Value.int IntKind.i64 oNum, Value.int IntKind.i64 oDen, Value.int IntKind.i64 oMost, Value.int IntKind.i64 oTries,
                    Value.int IntKind.i64 oNever]]
              H fun (v1 : Value) (H'1 : Heap) => v1 = Value.bool b1 ∧ Ax.Sub H H'1) ∧
            ((!b1) = true → K (Value.bool b) H) ∧
              ((!b1) = false →
                ∃ (x : Int),
                  (Tr Try.prog (16 : Nat)
                      #[Value.agg
                          #[Value.int IntKind.i64 oQueue, Value.int IntKind.i64 oStart, Value.int IntKind.i64 oClose, Value.int IntKind.i64 oTotal, Value.int IntKind.i64 oBeat,
                            Value.int IntKind.i64 oFirst, Value.int IntKind.i64 oNum, Value.int IntKind.i64 oDen, Value.int IntKind.i64 oMost, Value.int IntKind.i64 oTries,
                            Value.int IntKind.i64 oNever],
                        Value.int IntKind.i64 attempt]
                      H fun (v2 : Value) (H'2 : Heap) => v2 = Value.int IntKind.i64 x ∧ Ax.Sub H H'2) ∧
                    ∃ (x1 : Int),
                      (Tr Try.prog (17 : Nat)
                          #[Value.agg
                              #[Value.int IntKind.i64 oQueue, Value.int IntKind.i64 oStart, Value.int IntKind.i64 oClose, Value.int IntKind.i64 oTotal, Value.int IntKind.i64 oBeat,
                                Value.int IntKind.i64 oFirst, Value.int IntKind.i64 oNum, Value.int IntKind.i64 oDen, Value.int IntKind.i64 oMost, Value.int IntKind.i64 oTries,
                                Value.int IntKind.i64 oNever],
                            Value.int IntKind.i64 attempt]
                          H fun (v3 : Value) (H'3 : Heap) => v3 = Value.int IntKind.i64 x1 ∧ Ax.Sub H H'3) ∧
                        K (Value.bool (b && x == x1)) H)
theorem v3 {oQueue : Int} {oStart : Int} {oClose : Int} {oTotal : Int} {oBeat : Int} {oFirst : Int} {oNum : Int} {oDen : Int} {oMost : Int} {oTries : Int} {oNever : Int} {attempt : Int} {H : Heap} {K : Value → Heap → Prop} (h : F3 oQueue oStart oClose oTotal oBeat oFirst oNum oDen oMost oTries oNever attempt H K) : Tr Try.prog 3 #[.agg #[.int .i64 oQueue, .int .i64 oStart, .int .i64 oClose, .int .i64 oTotal, .int .i64 oBeat, .int .i64 oFirst, .int .i64 oNum, .int .i64 oDen, .int .i64 oMost, .int .i64 oTries, .int .i64 oNever], .int .i64 attempt] H K :=
  tr_of_vc (C := c3) Try.func3 (Eq.mpr (show vcFn c3 Try.f3 [.agg #[.int .i64 oQueue, .int .i64 oStart, .int .i64 oClose, .int .i64 oTotal, .int .i64 oBeat, .int .i64 oFirst, .int .i64 oNum, .int .i64 oDen, .int .i64 oMost, .int .i64 oTries, .int .i64 oNever], .int .i64 attempt] H K = F3 oQueue oStart oClose oTotal oBeat oFirst oNum oDen oMost oTries oNever attempt H K by kernel_rfl) h)

/- tapestry/tapestrylaw17.TimingAgain -/
noncomputable def c4 : Cx := { P := Try.prog, res := [], pub := [], loops := [], quiet := [14, 15, 18, 19, 20] }
def F4 (oQueue : Int) (oStart : Int) (oClose : Int) (oTotal : Int) (oBeat : Int) (oFirst : Int) (oNum : Int) (oDen : Int) (oMost : Int) (oTries : Int) (oNever : Int) (attempt : Int) (lA : Option Addr) (ln lc : Nat) (H : Heap) (K : Value → Heap → Prop) : Prop :=
    ∃ (b : Bool),
      (Tr Try.prog (14 : Nat) #[] H fun (v : Value) (H' : Heap) => v = Value.bool b ∧ Ax.Sub H H') ∧
        ∃ (b1 : Bool),
          (Tr Try.prog (15 : Nat)
              #[Value.agg
                  #[Value.int IntKind.i64 oQueue, Value.int IntKind.i64 oStart, Value.int IntKind.i64 oClose, Value.int IntKind.i64 oTotal, Value.int IntKind.i64 oBeat,
                    Value.int IntKind.i64 oFirst, Value.int IntKind.i64 oNum, Value.int IntKind.i64 oDen, Value.int IntKind.i64 oMost, Value.int IntKind.i64 oTries,
                    Value.int IntKind.i64 oNever]]
              H fun (v1 : Value) (H'1 : Heap) => v1 = Value.bool b1 ∧ Ax.Sub H H'1) ∧
            ((!b1 || decide ((↑ln : Int) < (3 : Int))) = true → K (Value.bool b) H) ∧
              ((!b1 || decide ((↑ln : Int) < (3 : Int))) = false →
                ∃ (a : Addr),
                  (lA = some a ∧ (0 : Int) ≤ (0 : Int) ∧ (0 : Int) < (↑ln : Int)) ∧
                    ∃ (x : Int),
                      At H (a.add (Int.toNat (0 : Int) * nat_lit 1)) [Value.int IntKind.i64 x] ∧
                        ∃ (a1 : Addr),
                          (lA = some a1 ∧ (0 : Int) ≤ (1 : Int) ∧ (1 : Int) < (↑ln : Int)) ∧
                            ∃ (x1 : Int),
                              At H (a1.add (Int.toNat (1 : Int) * nat_lit 1)) [Value.int IntKind.i64 x1] ∧
                                ∃ (x2 : Int),
                                  (Tr Try.prog (19 : Nat) #[Value.int IntKind.i64 x1] H fun (v2 : Value) (H'2 : Heap) => v2 = Value.int IntKind.i64 x2 ∧ Ax.Sub H H'2) ∧
                                    ∃ (a2 : Addr),
                                      (lA = some a2 ∧ (0 : Int) ≤ (2 : Int) ∧ (2 : Int) < (↑ln : Int)) ∧
                                        ∃ (x3 : Int),
                                          At H (a2.add (Int.toNat (2 : Int) * nat_lit 1)) [Value.int IntKind.i64 x3] ∧
                                            ∃ (x4 : Int),
                                              (Tr Try.prog (19 : Nat) #[Value.int IntKind.i64 x3] H fun (v3 : Value) (H'3 : Heap) => v3 = Value.int IntKind.i64 x4 ∧ Ax.Sub H H'3) ∧
                                                ∃ (x5 : Int),
                                                  ∃ (b2 : Bool),
                                                    (Tr Try.prog (18 : Nat)
                                                        #[Value.agg
                                                            #[Value.int IntKind.i64 oQueue, Value.int IntKind.i64 oStart, Value.int IntKind.i64 oClose, Value.int IntKind.i64 oTotal,
                                                              Value.int IntKind.i64 oBeat, Value.int IntKind.i64 oFirst, Value.int IntKind.i64 oNum, Value.int IntKind.i64 oDen,
                                                              Value.int IntKind.i64 oMost, Value.int IntKind.i64 oTries, Value.int IntKind.i64 oNever],
                                                          Value.int IntKind.i64 attempt, Value.int IntKind.i64 x, Value.int IntKind.i64 x2, Value.int IntKind.i64 x4]
                                                        H fun (v4 : Value) (H'4 : Heap) => v4 = Value.tuple #[Value.int IntKind.i64 x5, Value.bool b2] ∧ Ax.Sub H H'4) ∧
                                                      ∃ (a3 : Addr),
                                                        (lA = some a3 ∧ (0 : Int) ≤ (0 : Int) ∧ (0 : Int) < (↑ln : Int)) ∧
                                                          ∃ (x6 : Int),
                                                            At H (a3.add (Int.toNat (0 : Int) * nat_lit 1)) [Value.int IntKind.i64 x6] ∧
                                                              ∃ (a4 : Addr),
                                                                (lA = some a4 ∧ (0 : Int) ≤ (1 : Int) ∧ (1 : Int) < (↑ln : Int)) ∧
                                                                  ∃ (x7 : Int),
                                                                    At H (a4.add (Int.toNat (1 : Int) * nat_lit 1)) [Value.int IntKind.i64 x7] ∧
                                                                      ∃ (x8 : Int),
                                                                        (Tr Try.prog (19 : Nat) #[Value.int IntKind.i64 x7] H fun (v5 : Value) (H'5 : Heap) =>
                                                                            v5 = Value.int IntKind.i64 x8 ∧ Ax.Sub H H'5) ∧
                                                                          ∃ (a5 : Addr),
                                                                            (lA = some a5 ∧ (0 : Int) ≤ (2 : Int) ∧ (2 : Int) < (↑ln : Int)) ∧
                                                                              ∃ (x9 : Int),
                                                                                At H (a5.add (Int.toNat (2 : Int) * nat_lit 1)) [Value.int IntKind.i64 x9] ∧
                                                                                  ∃ (x10 : Int),
                                                                                    (Tr Try.prog (19 : Nat) #[Value.int IntKind.i64 x9] H fun (v6 : Value) (H'6 : Heap) =>
                                                                                        v6 = Value.int IntKind.i64 x10 ∧ Ax.Sub H H'6) ∧
                                                                                      ∃ (x11 : Int),
                                                                                        ∃ (b3 : Bool),
                                                                                          (Tr Try.prog (20 : Nat)
                                                                                              #[Value.agg
                                                                                                  #[Value.int IntKind.i64 oQueue, Value.int IntKind.i64 oStart,
                                                                                                    Value.int IntKind.i64 oClose, Value.int IntKind.i64 oTotal,
                                                                                                    Value.int IntKind.i64 oBeat, Value.int IntKind.i64 oFirst,
                                                                                                    Value.int IntKind.i64 oNum, Value.int IntKind.i64 oDen, Value.int IntKind.i64 oMost,
                                                                                                    Value.int IntKind.i64 oTries, Value.int IntKind.i64 oNever],
                                                                                                Value.int IntKind.i64 attempt, Value.int IntKind.i64 x6, Value.int IntKind.i64 x8,
                                                                                                Value.int IntKind.i64 x10]
                                                                                              H fun (v7 : Value) (H'7 : Heap) =>
                                                                                              v7 = Value.tuple #[Value.int IntKind.i64 x11, Value.bool b3] ∧ Ax.Sub H H'7) ∧
                                                                                            K (Value.bool (b && x5 == x11 && b2 == b3)) H)
theorem v4 {oQueue : Int} {oStart : Int} {oClose : Int} {oTotal : Int} {oBeat : Int} {oFirst : Int} {oNum : Int} {oDen : Int} {oMost : Int} {oTries : Int} {oNever : Int} {attempt : Int} {lA : Option Addr} {ln lc : Nat} {H : Heap} {K : Value → Heap → Prop} (h : F4 oQueue oStart oClose oTotal oBeat oFirst oNum oDen oMost oTries oNever attempt lA ln lc H K) : Tr Try.prog 4 #[.agg #[.int .i64 oQueue, .int .i64 oStart, .int .i64 oClose, .int .i64 oTotal, .int .i64 oBeat, .int .i64 oFirst, .int .i64 oNum, .int .i64 oDen, .int .i64 oMost, .int .i64 oTries, .int .i64 oNever], .int .i64 attempt, .slice lA ln lc] H K :=
  tr_of_vc (C := c4) Try.func4 (Eq.mpr (show vcFn c4 Try.f4 [.agg #[.int .i64 oQueue, .int .i64 oStart, .int .i64 oClose, .int .i64 oTotal, .int .i64 oBeat, .int .i64 oFirst, .int .i64 oNum, .int .i64 oDen, .int .i64 oMost, .int .i64 oTries, .int .i64 oNever], .int .i64 attempt, .slice lA ln lc] H K = F4 oQueue oStart oClose oTotal oBeat oFirst oNum oDen oMost oTries oNever attempt lA ln lc H K by kernel_rfl) h)

/- tapestry/tapestrylaw17.TimingRises -/
noncomputable def c5 : Cx := { P := Try.prog, res := [], pub := [], loops := [], quiet := [14, 15, 16, 18, 19] }
def F5 (oQueue : Int) (oStart : Int) (oClose : Int) (oTotal : Int) (oBeat : Int) (oFirst : Int) (oNum : Int) (oDen : Int) (oMost : Int) (oTries : Int) (oNever : Int) (attempt : Int) (from0 : Int) (H : Heap) (K : Value → Heap → Prop) : Prop :=
    ∃ (b : Bool),
      (Tr Try.prog (14 : Nat) #[] H fun (v : Value) (H' : Heap) => v = Value.bool b ∧ Ax.Sub H H') ∧
        ∃ (b1 : Bool),
          (Tr Try.prog (15 : Nat)
              #[Value.agg
                  #[Value.int IntKind.i64 oQueue, Value.int IntKind.i64 oStart, Value.int IntKind.i64 oClose, Value.int IntKind.i64 oTotal, Value.int IntKind.i64 oBeat,
                    Value.int IntKind.i64 oFirst, Value.int IntKind.i64 oNum, Value.int IntKind.i64 oDen, Value.int IntKind.i64 oMost, Value.int IntKind.i64 oTries,
                    Value.int IntKind.i64 oNever]]
              H fun (v1 : Value) (H'1 : Heap) => v1 = Value.bool b1 ∧ Ax.Sub H H'1) ∧
            (2000 : Int) ≠ (0 : Int) ∧
              ((!b1) = true → K (Value.bool b) H) ∧
                ((!b1) = false →
                  ((oMost == (0 : Int)) = true →
                      ∃ (x : Int),
                        (Tr Try.prog (16 : Nat)
                            #[Value.agg
                                #[Value.int IntKind.i64 oQueue, Value.int IntKind.i64 oStart, Value.int IntKind.i64 oClose, Value.int IntKind.i64 oTotal, Value.int IntKind.i64 oBeat,
                                  Value.int IntKind.i64 oFirst, Value.int IntKind.i64 oNum, Value.int IntKind.i64 oDen, Value.int IntKind.i64 oMost, Value.int IntKind.i64 oTries,
                                  Value.int IntKind.i64 oNever],
                              Value.int IntKind.i64 (IntKind.i64.wrap ((1 : Int) + IntKind.i64.wrap ((IntKind.u64.wrap attempt).tmod (2000 : Int))))]
                            H fun (v2 : Value) (H'2 : Heap) => v2 = Value.int IntKind.i64 x ∧ Ax.Sub H H'2) ∧
                          ∃ (x1 : Int),
                            (Tr Try.prog (16 : Nat)
                                #[Value.agg
                                    #[Value.int IntKind.i64 oQueue, Value.int IntKind.i64 oStart, Value.int IntKind.i64 oClose, Value.int IntKind.i64 oTotal,
                                      Value.int IntKind.i64 oBeat, Value.int IntKind.i64 oFirst, Value.int IntKind.i64 oNum, Value.int IntKind.i64 oDen, Value.int IntKind.i64 oMost,
                                      Value.int IntKind.i64 oTries, Value.int IntKind.i64 oNever],
                                  Value.int IntKind.i64 (IntKind.i64.wrap (IntKind.i64.wrap ((1 : Int) + IntKind.i64.wrap ((IntKind.u64.wrap attempt).tmod (2000 : Int))) + (1 : Int)))]
                                H fun (v3 : Value) (H'3 : Heap) => v3 = Value.int IntKind.i64 x1 ∧ Ax.Sub H H'3) ∧
                              ∃ (x2 : Int),
                                (Tr Try.prog (16 : Nat)
                                    #[Value.agg
                                        #[Value.int IntKind.i64 oQueue, Value.int IntKind.i64 oStart, Value.int IntKind.i64 oClose, Value.int IntKind.i64 oTotal,
                                          Value.int IntKind.i64 oBeat, Value.int IntKind.i64 oFirst, Value.int IntKind.i64 oNum, Value.int IntKind.i64 oDen,
                                          Value.int IntKind.i64 oMost, Value.int IntKind.i64 oTries, Value.int IntKind.i64 oNever],
                                      Value.int IntKind.i64 (1 : Int)]
                                    H fun (v4 : Value) (H'4 : Heap) => v4 = Value.int IntKind.i64 x2 ∧ Ax.Sub H H'4) ∧
                                  ∃ (x3 : Int),
                                    (Tr Try.prog (19 : Nat) #[Value.int IntKind.i64 from0] H fun (v5 : Value) (H'5 : Heap) => v5 = Value.int IntKind.i64 x3 ∧ Ax.Sub H H'5) ∧
                                      ∃ (x4 : Int),
                                        ∃ (b2 : Bool),
                                          (Tr Try.prog (18 : Nat)
                                              #[Value.agg
                                                  #[Value.int IntKind.i64 oQueue, Value.int IntKind.i64 oStart, Value.int IntKind.i64 oClose, Value.int IntKind.i64 oTotal,
                                                    Value.int IntKind.i64 oBeat, Value.int IntKind.i64 oFirst, Value.int IntKind.i64 oNum, Value.int IntKind.i64 oDen,
                                                    Value.int IntKind.i64 oMost, Value.int IntKind.i64 oTries, Value.int IntKind.i64 oNever],
                                                Value.int IntKind.i64 (IntKind.i64.wrap ((1 : Int) + IntKind.i64.wrap ((IntKind.u64.wrap attempt).tmod (2000 : Int)))),
                                                Value.int IntKind.i64 (0 : Int), Value.int IntKind.i64 x3, Value.int IntKind.i64 x3]
                                              H fun (v6 : Value) (H'6 : Heap) => v6 = Value.tuple #[Value.int IntKind.i64 x4, Value.bool b2] ∧ Ax.Sub H H'6) ∧
                                            ((b2 &&
                                                    (x4 != IntKind.i64.wrap (x3 + x) || oTotal != (0 : Int) && decide (x4 ≥ IntKind.i64.wrap (x3 + oTotal)) ||
                                                      oTries != (0 : Int) &&
                                                        decide (IntKind.i64.wrap ((1 : Int) + IntKind.i64.wrap ((IntKind.u64.wrap attempt).tmod (2000 : Int))) ≥ oTries))) =
                                                  true →
                                                K (Value.bool false) H) ∧
                                              ((b2 &&
                                                    (x4 != IntKind.i64.wrap (x3 + x) || oTotal != (0 : Int) && decide (x4 ≥ IntKind.i64.wrap (x3 + oTotal)) ||
                                                      oTries != (0 : Int) &&
                                                        decide (IntKind.i64.wrap ((1 : Int) + IntKind.i64.wrap ((IntKind.u64.wrap attempt).tmod (2000 : Int))) ≥ oTries))) =
                                                  false →
                                                K
                                                  (Value.bool
                                                    (b && decide (x ≥ (0 : Int)) && decide (x ≤ x1) && decide (x1 ≤ (1048576 : Int)) &&
                                                      x2 == if (1048576 : Int) < oFirst then (1048576 : Int) else oFirst))
                                                  H)) ∧
                    ((oMost == (0 : Int)) = false →
                      ∃ (x5 : Int),
                        (Tr Try.prog (16 : Nat)
                            #[Value.agg
                                #[Value.int IntKind.i64 oQueue, Value.int IntKind.i64 oStart, Value.int IntKind.i64 oClose, Value.int IntKind.i64 oTotal, Value.int IntKind.i64 oBeat,
                                  Value.int IntKind.i64 oFirst, Value.int IntKind.i64 oNum, Value.int IntKind.i64 oDen, Value.int IntKind.i64 oMost, Value.int IntKind.i64 oTries,
                                  Value.int IntKind.i64 oNever],
                              Value.int IntKind.i64 (IntKind.i64.wrap ((1 : Int) + IntKind.i64.wrap ((IntKind.u64.wrap attempt).tmod (2000 : Int))))]
                            H fun (v7 : Value) (H'7 : Heap) => v7 = Value.int IntKind.i64 x5 ∧ Ax.Sub H H'7) ∧
                          ∃ (x6 : Int),
                            (Tr Try.prog (16 : Nat)
                                #[Value.agg
                                    #[Value.int IntKind.i64 oQueue, Value.int IntKind.i64 oStart, Value.int IntKind.i64 oClose, Value.int IntKind.i64 oTotal,
                                      Value.int IntKind.i64 oBeat, Value.int IntKind.i64 oFirst, Value.int IntKind.i64 oNum, Value.int IntKind.i64 oDen, Value.int IntKind.i64 oMost,
                                      Value.int IntKind.i64 oTries, Value.int IntKind.i64 oNever],
                                  Value.int IntKind.i64 (IntKind.i64.wrap (IntKind.i64.wrap ((1 : Int) + IntKind.i64.wrap ((IntKind.u64.wrap attempt).tmod (2000 : Int))) + (1 : Int)))]
                                H fun (v8 : Value) (H'8 : Heap) => v8 = Value.int IntKind.i64 x6 ∧ Ax.Sub H H'8) ∧
                              ∃ (x7 : Int),
                                (Tr Try.prog (16 : Nat)
                                    #[Value.agg
                                        #[Value.int IntKind.i64 oQueue, Value.int IntKind.i64 oStart, Value.int IntKind.i64 oClose, Value.int IntKind.i64 oTotal,
                                          Value.int IntKind.i64 oBeat, Value.int IntKind.i64 oFirst, Value.int IntKind.i64 oNum, Value.int IntKind.i64 oDen,
                                          Value.int IntKind.i64 oMost, Value.int IntKind.i64 oTries, Value.int IntKind.i64 oNever],
                                      Value.int IntKind.i64 (1 : Int)]
                                    H fun (v9 : Value) (H'9 : Heap) => v9 = Value.int IntKind.i64 x7 ∧ Ax.Sub H H'9) ∧
                                  ∃ (x8 : Int),
                                    (Tr Try.prog (19 : Nat) #[Value.int IntKind.i64 from0] H fun (v10 : Value) (H'10 : Heap) => v10 = Value.int IntKind.i64 x8 ∧ Ax.Sub H H'10) ∧
                                      ∃ (x9 : Int),
                                        ∃ (b3 : Bool),
                                          (Tr Try.prog (18 : Nat)
                                              #[Value.agg
                                                  #[Value.int IntKind.i64 oQueue, Value.int IntKind.i64 oStart, Value.int IntKind.i64 oClose, Value.int IntKind.i64 oTotal,
                                                    Value.int IntKind.i64 oBeat, Value.int IntKind.i64 oFirst, Value.int IntKind.i64 oNum, Value.int IntKind.i64 oDen,
                                                    Value.int IntKind.i64 oMost, Value.int IntKind.i64 oTries, Value.int IntKind.i64 oNever],
                                                Value.int IntKind.i64 (IntKind.i64.wrap ((1 : Int) + IntKind.i64.wrap ((IntKind.u64.wrap attempt).tmod (2000 : Int)))),
                                                Value.int IntKind.i64 (0 : Int), Value.int IntKind.i64 x8, Value.int IntKind.i64 x8]
                                              H fun (v11 : Value) (H'11 : Heap) => v11 = Value.tuple #[Value.int IntKind.i64 x9, Value.bool b3] ∧ Ax.Sub H H'11) ∧
                                            ((b3 &&
                                                    (x9 != IntKind.i64.wrap (x8 + x5) || oTotal != (0 : Int) && decide (x9 ≥ IntKind.i64.wrap (x8 + oTotal)) ||
                                                      oTries != (0 : Int) &&
                                                        decide (IntKind.i64.wrap ((1 : Int) + IntKind.i64.wrap ((IntKind.u64.wrap attempt).tmod (2000 : Int))) ≥ oTries))) =
                                                  true →
                                                K (Value.bool false) H) ∧
                                              ((b3 &&
                                                    (x9 != IntKind.i64.wrap (x8 + x5) || oTotal != (0 : Int) && decide (x9 ≥ IntKind.i64.wrap (x8 + oTotal)) ||
                                                      oTries != (0 : Int) &&
                                                        decide (IntKind.i64.wrap ((1 : Int) + IntKind.i64.wrap ((IntKind.u64.wrap attempt).tmod (2000 : Int))) ≥ oTries))) =
                                                  false →
                                                K
                                                  (Value.bool
                                                    (b && decide (x5 ≥ (0 : Int)) && decide (x5 ≤ x6) && decide (x6 ≤ oMost) && x7 == if oMost < oFirst then oMost else oFirst))
                                                  H)))
theorem v5 {oQueue : Int} {oStart : Int} {oClose : Int} {oTotal : Int} {oBeat : Int} {oFirst : Int} {oNum : Int} {oDen : Int} {oMost : Int} {oTries : Int} {oNever : Int} {attempt : Int} {from0 : Int} {H : Heap} {K : Value → Heap → Prop} (h : F5 oQueue oStart oClose oTotal oBeat oFirst oNum oDen oMost oTries oNever attempt from0 H K) : Tr Try.prog 5 #[.agg #[.int .i64 oQueue, .int .i64 oStart, .int .i64 oClose, .int .i64 oTotal, .int .i64 oBeat, .int .i64 oFirst, .int .i64 oNum, .int .i64 oDen, .int .i64 oMost, .int .i64 oTries, .int .i64 oNever], .int .i64 attempt, .int .i64 from0] H K :=
  tr_of_vc (C := c5) Try.func5 (Eq.mpr (show vcFn c5 Try.f5 [.agg #[.int .i64 oQueue, .int .i64 oStart, .int .i64 oClose, .int .i64 oTotal, .int .i64 oBeat, .int .i64 oFirst, .int .i64 oNum, .int .i64 oDen, .int .i64 oMost, .int .i64 oTries, .int .i64 oNever], .int .i64 attempt, .int .i64 from0] H K = F5 oQueue oStart oClose oTotal oBeat oFirst oNum oDen oMost oTries oNever attempt from0 H K by kernel_rfl) h)

/- tapestry/tapestrylaw17.TimingEnds -/
noncomputable def c6 : Cx := { P := Try.prog, res := [], pub := [], loops := [], quiet := [14, 15, 19, 21, 22, 23, 24, 25, 26] }
def F6 (oQueue : Int) (oStart : Int) (oClose : Int) (oTotal : Int) (oBeat : Int) (oFirst : Int) (oNum : Int) (oDen : Int) (oMost : Int) (oTries : Int) (oNever : Int) (from0 : Int) (lA : Option Addr) (ln lc : Nat) (H : Heap) (K : Value → Heap → Prop) : Prop :=
    ∃ (b : Bool),
      (Tr Try.prog (14 : Nat) #[] H fun (v : Value) (H' : Heap) => v = Value.bool b ∧ Ax.Sub H H') ∧
        ∃ (x : Int),
          (Tr Try.prog (21 : Nat) #[Value.slice lA ln lc] H fun (v1 : Value) (H'1 : Heap) => v1 = Value.int IntKind.i64 x ∧ Ax.Sub H H'1) ∧
            ∃ (x1 : Int),
              (Tr Try.prog (22 : Nat) #[Value.slice lA ln lc] H fun (v2 : Value) (H'2 : Heap) => v2 = Value.int IntKind.i64 x1 ∧ Ax.Sub H H'2) ∧
                (decide ((↑ln : Int) > (0 : Int)) = true →
                    ∃ (a : Addr),
                      (lA = some a ∧ (0 : Int) ≤ (0 : Int) ∧ (0 : Int) < (↑ln : Int)) ∧
                        ∃ (x2 : Int),
                          At H (a.add (Int.toNat (0 : Int) * nat_lit 1)) [Value.int IntKind.i64 x2] ∧
                            (1048577 : Int) ≠ (0 : Int) ∧
                              ∃ (x3 : Int),
                                (Tr Try.prog (19 : Nat) #[Value.int IntKind.i64 from0] H fun (v3 : Value) (H'3 : Heap) => v3 = Value.int IntKind.i64 x3 ∧ Ax.Sub H H'3) ∧
                                  ∃ (x4 : Int),
                                    ∃ (b1 : Bool),
                                      (Tr Try.prog (23 : Nat) #[Value.int IntKind.i64 x3, Value.int IntKind.i64 (x2.tmod (1048577 : Int))] H fun (v4 : Value) (H'4 : Heap) =>
                                          v4 = Value.tuple #[Value.int IntKind.i64 x4, Value.bool b1] ∧ Ax.Sub H H'4) ∧
                                        ∃ (x5 : Int),
                                          (Tr Try.prog (19 : Nat) #[Value.int IntKind.i64 from0] H fun (v5 : Value) (H'5 : Heap) => v5 = Value.int IntKind.i64 x5 ∧ Ax.Sub H H'5) ∧
                                            ∃ (x6 : Int),
                                              ∃ (b2 : Bool),
                                                (Tr Try.prog (24 : Nat) #[Value.int IntKind.i64 x5, Value.int IntKind.i64 (x2.tmod (1048577 : Int))] H fun (v6 : Value) (H'6 : Heap) =>
                                                    v6 = Value.tuple #[Value.int IntKind.i64 x6, Value.bool b2] ∧ Ax.Sub H H'6) ∧
                                                  ∃ (b3 : Bool),
                                                    (Tr Try.prog (15 : Nat)
                                                        #[Value.agg
                                                            #[Value.int IntKind.i64 oQueue, Value.int IntKind.i64 oStart, Value.int IntKind.i64 oClose, Value.int IntKind.i64 oTotal,
                                                              Value.int IntKind.i64 oBeat, Value.int IntKind.i64 oFirst, Value.int IntKind.i64 oNum, Value.int IntKind.i64 oDen,
                                                              Value.int IntKind.i64 oMost, Value.int IntKind.i64 oTries, Value.int IntKind.i64 oNever]]
                                                        H fun (v7 : Value) (H'7 : Heap) => v7 = Value.bool b3 ∧ Ax.Sub H H'7) ∧
                                                      (b3 = true →
                                                          ∃ (x7 : Int),
                                                            ∃ (b4 : Bool),
                                                              (Tr Try.prog (25 : Nat)
                                                                  #[Value.agg
                                                                      #[Value.int IntKind.i64 oQueue, Value.int IntKind.i64 oStart, Value.int IntKind.i64 oClose,
                                                                        Value.int IntKind.i64 oTotal, Value.int IntKind.i64 oBeat, Value.int IntKind.i64 oFirst,
                                                                        Value.int IntKind.i64 oNum, Value.int IntKind.i64 oDen, Value.int IntKind.i64 oMost,
                                                                        Value.int IntKind.i64 oTries, Value.int IntKind.i64 oNever]]
                                                                  H fun (v8 : Value) (H'8 : Heap) => v8 = Value.tuple #[Value.int IntKind.i64 x7, Value.bool b4] ∧ Ax.Sub H H'8) ∧
                                                                ∃ (x8 : Int),
                                                                  ∃ (b5 : Bool),
                                                                    (Tr Try.prog (26 : Nat)
                                                                        #[Value.agg
                                                                            #[Value.int IntKind.i64 oQueue, Value.int IntKind.i64 oStart, Value.int IntKind.i64 oClose,
                                                                              Value.int IntKind.i64 oTotal, Value.int IntKind.i64 oBeat, Value.int IntKind.i64 oFirst,
                                                                              Value.int IntKind.i64 oNum, Value.int IntKind.i64 oDen, Value.int IntKind.i64 oMost,
                                                                              Value.int IntKind.i64 oTries, Value.int IntKind.i64 oNever]]
                                                                        H fun (v9 : Value) (H'9 : Heap) => v9 = Value.tuple #[Value.int IntKind.i64 x8, Value.bool b5] ∧ Ax.Sub H H'9) ∧
                                                                      ((x7 != x8 || !b4 == b5) = true → K (Value.bool false) H) ∧
                                                                        ((x7 != x8 || !b4 == b5) = false → K (Value.bool (b && x == x1 && x4 == x6 && b1 == b2)) H)) ∧
                                                        (b3 = false → K (Value.bool (b && x == x1 && x4 == x6 && b1 == b2)) H)) ∧
                  (decide ((↑ln : Int) > (0 : Int)) = false →
                    ∃ (x9 : Int),
                      (Tr Try.prog (19 : Nat) #[Value.int IntKind.i64 from0] H fun (v10 : Value) (H'10 : Heap) => v10 = Value.int IntKind.i64 x9 ∧ Ax.Sub H H'10) ∧
                        ∃ (x10 : Int),
                          ∃ (b6 : Bool),
                            (Tr Try.prog (23 : Nat) #[Value.int IntKind.i64 x9, Value.int IntKind.i64 (0 : Int)] H fun (v11 : Value) (H'11 : Heap) =>
                                v11 = Value.tuple #[Value.int IntKind.i64 x10, Value.bool b6] ∧ Ax.Sub H H'11) ∧
                              ∃ (x11 : Int),
                                (Tr Try.prog (19 : Nat) #[Value.int IntKind.i64 from0] H fun (v12 : Value) (H'12 : Heap) => v12 = Value.int IntKind.i64 x11 ∧ Ax.Sub H H'12) ∧
                                  ∃ (x12 : Int),
                                    ∃ (b7 : Bool),
                                      (Tr Try.prog (24 : Nat) #[Value.int IntKind.i64 x11, Value.int IntKind.i64 (0 : Int)] H fun (v13 : Value) (H'13 : Heap) =>
                                          v13 = Value.tuple #[Value.int IntKind.i64 x12, Value.bool b7] ∧ Ax.Sub H H'13) ∧
                                        ∃ (b8 : Bool),
                                          (Tr Try.prog (15 : Nat)
                                              #[Value.agg
                                                  #[Value.int IntKind.i64 oQueue, Value.int IntKind.i64 oStart, Value.int IntKind.i64 oClose, Value.int IntKind.i64 oTotal,
                                                    Value.int IntKind.i64 oBeat, Value.int IntKind.i64 oFirst, Value.int IntKind.i64 oNum, Value.int IntKind.i64 oDen,
                                                    Value.int IntKind.i64 oMost, Value.int IntKind.i64 oTries, Value.int IntKind.i64 oNever]]
                                              H fun (v14 : Value) (H'14 : Heap) => v14 = Value.bool b8 ∧ Ax.Sub H H'14) ∧
                                            (b8 = true →
                                                ∃ (x13 : Int),
                                                  ∃ (b9 : Bool),
                                                    (Tr Try.prog (25 : Nat)
                                                        #[Value.agg
                                                            #[Value.int IntKind.i64 oQueue, Value.int IntKind.i64 oStart, Value.int IntKind.i64 oClose, Value.int IntKind.i64 oTotal,
                                                              Value.int IntKind.i64 oBeat, Value.int IntKind.i64 oFirst, Value.int IntKind.i64 oNum, Value.int IntKind.i64 oDen,
                                                              Value.int IntKind.i64 oMost, Value.int IntKind.i64 oTries, Value.int IntKind.i64 oNever]]
                                                        H fun (v15 : Value) (H'15 : Heap) => v15 = Value.tuple #[Value.int IntKind.i64 x13, Value.bool b9] ∧ Ax.Sub H H'15) ∧
                                                      ∃ (x14 : Int),
                                                        ∃ (b10 : Bool),
                                                          (Tr Try.prog (26 : Nat)
                                                              #[Value.agg
                                                                  #[Value.int IntKind.i64 oQueue, Value.int IntKind.i64 oStart, Value.int IntKind.i64 oClose,
                                                                    Value.int IntKind.i64 oTotal, Value.int IntKind.i64 oBeat, Value.int IntKind.i64 oFirst, Value.int IntKind.i64 oNum,
                                                                    Value.int IntKind.i64 oDen, Value.int IntKind.i64 oMost, Value.int IntKind.i64 oTries,
                                                                    Value.int IntKind.i64 oNever]]
                                                              H fun (v16 : Value) (H'16 : Heap) => v16 = Value.tuple #[Value.int IntKind.i64 x14, Value.bool b10] ∧ Ax.Sub H H'16) ∧
                                                            ((x13 != x14 || !b9 == b10) = true → K (Value.bool false) H) ∧
                                                              ((x13 != x14 || !b9 == b10) = false → K (Value.bool (b && x == x1 && x10 == x12 && b6 == b7)) H)) ∧
                                              (b8 = false → K (Value.bool (b && x == x1 && x10 == x12 && b6 == b7)) H))
theorem v6 {oQueue : Int} {oStart : Int} {oClose : Int} {oTotal : Int} {oBeat : Int} {oFirst : Int} {oNum : Int} {oDen : Int} {oMost : Int} {oTries : Int} {oNever : Int} {from0 : Int} {lA : Option Addr} {ln lc : Nat} {H : Heap} {K : Value → Heap → Prop} (h : F6 oQueue oStart oClose oTotal oBeat oFirst oNum oDen oMost oTries oNever from0 lA ln lc H K) : Tr Try.prog 6 #[.agg #[.int .i64 oQueue, .int .i64 oStart, .int .i64 oClose, .int .i64 oTotal, .int .i64 oBeat, .int .i64 oFirst, .int .i64 oNum, .int .i64 oDen, .int .i64 oMost, .int .i64 oTries, .int .i64 oNever], .int .i64 from0, .slice lA ln lc] H K :=
  tr_of_vc (C := c6) Try.func6 (Eq.mpr (show vcFn c6 Try.f6 [.agg #[.int .i64 oQueue, .int .i64 oStart, .int .i64 oClose, .int .i64 oTotal, .int .i64 oBeat, .int .i64 oFirst, .int .i64 oNum, .int .i64 oDen, .int .i64 oMost, .int .i64 oTries, .int .i64 oNever], .int .i64 from0, .slice lA ln lc] H K = F6 oQueue oStart oClose oTotal oBeat oFirst oNum oDen oMost oTries oNever from0 lA ln lc H K by kernel_rfl) h)

/- tapestry/tapestrylaw17.shown -/
noncomputable def c14 : Cx := { P := Try.prog, res := [], pub := [24], loops := [], quiet := [16, 18, 21] }
def F14  (H : Heap) (K : Value → Heap → Prop) : Prop :=
    ∃ (x : Int),
      (Tr Try.prog (16 : Nat)
          #[Value.agg
              #[Value.int IntKind.i64 (0 : Int), Value.int IntKind.i64 (0 : Int), Value.int IntKind.i64 (0 : Int), Value.int IntKind.i64 (0 : Int), Value.int IntKind.i64 (0 : Int),
                Value.int IntKind.i64 (10 : Int), Value.int IntKind.i64 (3 : Int), Value.int IntKind.i64 (2 : Int), Value.int IntKind.i64 (40 : Int), Value.int IntKind.i64 (3 : Int),
                Value.int IntKind.i64 (0 : Int)],
            Value.int IntKind.i64 (2 : Int)]
          H fun (v : Value) (H' : Heap) => v = Value.int IntKind.i64 x ∧ Ax.Sub H H') ∧
        ∃ (x1 : Int),
          (Tr Try.prog (16 : Nat)
              #[Value.agg
                  #[Value.int IntKind.i64 (0 : Int), Value.int IntKind.i64 (0 : Int), Value.int IntKind.i64 (0 : Int), Value.int IntKind.i64 (0 : Int), Value.int IntKind.i64 (0 : Int),
                    Value.int IntKind.i64 (10 : Int), Value.int IntKind.i64 (3 : Int), Value.int IntKind.i64 (2 : Int), Value.int IntKind.i64 (40 : Int),
                    Value.int IntKind.i64 (3 : Int), Value.int IntKind.i64 (0 : Int)],
                Value.int IntKind.i64 (5 : Int)]
              H fun (v1 : Value) (H'1 : Heap) => v1 = Value.int IntKind.i64 x1 ∧ Ax.Sub H H'1) ∧
            ∃ (x2 : Int),
              ∃ (b : Bool),
                (Tr Try.prog (18 : Nat)
                    #[Value.agg
                        #[Value.int IntKind.i64 (0 : Int), Value.int IntKind.i64 (0 : Int), Value.int IntKind.i64 (0 : Int), Value.int IntKind.i64 (0 : Int),
                          Value.int IntKind.i64 (0 : Int), Value.int IntKind.i64 (10 : Int), Value.int IntKind.i64 (3 : Int), Value.int IntKind.i64 (2 : Int),
                          Value.int IntKind.i64 (40 : Int), Value.int IntKind.i64 (3 : Int), Value.int IntKind.i64 (0 : Int)],
                      Value.int IntKind.i64 (2 : Int), Value.int IntKind.i64 (0 : Int), Value.int IntKind.i64 (0 : Int), Value.int IntKind.i64 (100 : Int)]
                    H fun (v2 : Value) (H'2 : Heap) => v2 = Value.tuple #[Value.int IntKind.i64 x2, Value.bool b] ∧ Ax.Sub H H'2) ∧
                  ∃ (x3 : Int),
                    ∃ (b1 : Bool),
                      (Tr Try.prog (18 : Nat)
                          #[Value.agg
                              #[Value.int IntKind.i64 (0 : Int), Value.int IntKind.i64 (0 : Int), Value.int IntKind.i64 (0 : Int), Value.int IntKind.i64 (0 : Int),
                                Value.int IntKind.i64 (0 : Int), Value.int IntKind.i64 (10 : Int), Value.int IntKind.i64 (3 : Int), Value.int IntKind.i64 (2 : Int),
                                Value.int IntKind.i64 (40 : Int), Value.int IntKind.i64 (3 : Int), Value.int IntKind.i64 (0 : Int)],
                            Value.int IntKind.i64 (3 : Int), Value.int IntKind.i64 (0 : Int), Value.int IntKind.i64 (0 : Int), Value.int IntKind.i64 (100 : Int)]
                          H fun (v3 : Value) (H'3 : Heap) => v3 = Value.tuple #[Value.int IntKind.i64 x3, Value.bool b1] ∧ Ax.Sub H H'3) ∧
                        ∀ (b2 : Nat),
                          H b2 = none →
                            ∃ (x4 : Int),
                              (Tr Try.prog (21 : Nat) #[Value.slice (some { block := b2, off := (0 : Nat) }) (3 : Nat) (3 : Nat)]
                                  (H.upd b2 (Obj.cells #[Value.int IntKind.i64 (0 : Int), Value.int IntKind.i64 (7 : Int), Value.int IntKind.i64 (5 : Int)] (2 : Nat)))
                                  fun (v4 : Value) (H'4 : Heap) =>
                                  v4 = Value.int IntKind.i64 x4 ∧
                                    Ax.Sub (H.upd b2 (Obj.cells #[Value.int IntKind.i64 (0 : Int), Value.int IntKind.i64 (7 : Int), Value.int IntKind.i64 (5 : Int)] (2 : Nat))) H'4) ∧
                                K (Value.bool (x == (15 : Int) && x1 == (40 : Int) && x2 == (115 : Int) && b && !b1 && x4 == (5 : Int)))
                                  (H.upd b2 (Obj.cells #[Value.int IntKind.i64 (0 : Int), Value.int IntKind.i64 (7 : Int), Value.int IntKind.i64 (5 : Int)] (2 : Nat)))
theorem v14 {H : Heap} {K : Value → Heap → Prop} (h : F14  H K) : Tr Try.prog 14 #[] H K :=
  tr_of_vc (C := c14) Try.func14 (Eq.mpr (show vcFn c14 Try.f14 [] H K = F14  H K by kernel_rfl) h)

/- tapestry/tapestrylaw17.may -/
noncomputable def c15 : Cx := { P := Try.prog, res := [], pub := [9, 11, 13], loops := [], quiet := [34] }
def F15 (oQueue : Int) (oStart : Int) (oClose : Int) (oTotal : Int) (oBeat : Int) (oFirst : Int) (oNum : Int) (oDen : Int) (oMost : Int) (oTries : Int) (oNever : Int) (H : Heap) (K : Value → Heap → Prop) : Prop :=
    ∀ (b : Nat),
      H b = none →
        ∀ (b1 : Nat),
          H.upd b (Obj.cells #[Value.int IntKind.i64 (17 : Int), Value.int IntKind.i64 (0 : Int), Value.int IntKind.i64 (36 : Int), Value.int IntKind.i64 (0 : Int)] (67 : Nat)) b1 =
              none →
            ∀ (b2 : Nat),
              (H.upd b
                        (Obj.cells #[Value.int IntKind.i64 (17 : Int), Value.int IntKind.i64 (0 : Int), Value.int IntKind.i64 (36 : Int), Value.int IntKind.i64 (0 : Int)]
                          (67 : Nat))).upd
                    b1
                    (Obj.cells #[Value.int IntKind.i64 (0 : Int), Value.int IntKind.i64 (0 : Int), Value.slice (some { block := b, off := (0 : Nat) }) (2 : Nat) (2 : Nat)] (70 : Nat))
                    b2 =
                  none →
                ∃ (x : Int),
                  ∃ (x1 : Int),
                    ∃ (x2 : Int),
                      (Tr Try.prog (34 : Nat)
                          #[Value.agg
                              #[Value.slice (some { block := b1, off := (0 : Nat) }) (1 : Nat) (1 : Nat), Value.slice (some { block := b2, off := (0 : Nat) }) (1 : Nat) (1 : Nat)]]
                          (((H.upd b
                                    (Obj.cells #[Value.int IntKind.i64 (17 : Int), Value.int IntKind.i64 (0 : Int), Value.int IntKind.i64 (36 : Int), Value.int IntKind.i64 (0 : Int)]
                                      (67 : Nat))).upd
                                b1
                                (Obj.cells #[Value.int IntKind.i64 (0 : Int), Value.int IntKind.i64 (0 : Int), Value.slice (some { block := b, off := (0 : Nat) }) (2 : Nat) (2 : Nat)]
                                  (70 : Nat))).upd
                            b2
                            (Obj.cells
                              #[Value.int IntKind.i64 oQueue, Value.int IntKind.i64 oStart, Value.int IntKind.i64 oClose, Value.int IntKind.i64 oTotal, Value.int IntKind.i64 oBeat,
                                Value.int IntKind.i64 oFirst, Value.int IntKind.i64 oNum, Value.int IntKind.i64 oDen, Value.int IntKind.i64 oMost, Value.int IntKind.i64 oTries,
                                Value.int IntKind.i64 oNever]
                              (23 : Nat)))
                          fun (v : Value) (H' : Heap) =>
                          v = Value.tuple #[Value.int IntKind.i64 x, Value.int IntKind.i64 x1, Value.int IntKind.i64 x2] ∧
                            Ax.Sub
                              (((H.upd b
                                        (Obj.cells
                                          #[Value.int IntKind.i64 (17 : Int), Value.int IntKind.i64 (0 : Int), Value.int IntKind.i64 (36 : Int), Value.int IntKind.i64 (0 : Int)]
                                          (67 : Nat))).upd
                                    b1
                                    (Obj.cells
                                      #[Value.int IntKind.i64 (0 : Int), Value.int IntKind.i64 (0 : Int), Value.slice (some { block := b, off := (0 : Nat) }) (2 : Nat) (2 : Nat)]
                                      (70 : Nat))).upd
                                b2
                                (Obj.cells
                                  #[Value.int IntKind.i64 oQueue, Value.int IntKind.i64 oStart, Value.int IntKind.i64 oClose, Value.int IntKind.i64 oTotal, Value.int IntKind.i64 oBeat,
                                    Value.int IntKind.i64 oFirst, Value.int IntKind.i64 oNum, Value.int IntKind.i64 oDen, Value.int IntKind.i64 oMost, Value.int IntKind.i64 oTries,
                                    Value.int IntKind.i64 oNever]
                                  (23 : Nat)))
                              H') ∧
                        K (Value.bool (x == (0 : Int)))
                          (((H.upd b
                                    (Obj.cells #[Value.int IntKind.i64 (17 : Int), Value.int IntKind.i64 (0 : Int), Value.int IntKind.i64 (36 : Int), Value.int IntKind.i64 (0 : Int)]
                                      (67 : Nat))).upd
                                b1
                                (Obj.cells #[Value.int IntKind.i64 (0 : Int), Value.int IntKind.i64 (0 : Int), Value.slice (some { block := b, off := (0 : Nat) }) (2 : Nat) (2 : Nat)]
                                  (70 : Nat))).upd
                            b2
                            (Obj.cells
                              #[Value.int IntKind.i64 oQueue, Value.int IntKind.i64 oStart, Value.int IntKind.i64 oClose, Value.int IntKind.i64 oTotal, Value.int IntKind.i64 oBeat,
                                Value.int IntKind.i64 oFirst, Value.int IntKind.i64 oNum, Value.int IntKind.i64 oDen, Value.int IntKind.i64 oMost, Value.int IntKind.i64 oTries,
                                Value.int IntKind.i64 oNever]
                              (23 : Nat)))
theorem v15 {oQueue : Int} {oStart : Int} {oClose : Int} {oTotal : Int} {oBeat : Int} {oFirst : Int} {oNum : Int} {oDen : Int} {oMost : Int} {oTries : Int} {oNever : Int} {H : Heap} {K : Value → Heap → Prop} (h : F15 oQueue oStart oClose oTotal oBeat oFirst oNum oDen oMost oTries oNever H K) : Tr Try.prog 15 #[.agg #[.int .i64 oQueue, .int .i64 oStart, .int .i64 oClose, .int .i64 oTotal, .int .i64 oBeat, .int .i64 oFirst, .int .i64 oNum, .int .i64 oDen, .int .i64 oMost, .int .i64 oTries, .int .i64 oNever]] H K :=
  tr_of_vc (C := c15) Try.func15 (Eq.mpr (show vcFn c15 Try.f15 [.agg #[.int .i64 oQueue, .int .i64 oStart, .int .i64 oClose, .int .i64 oTotal, .int .i64 oBeat, .int .i64 oFirst, .int .i64 oNum, .int .i64 oDen, .int .i64 oMost, .int .i64 oTries, .int .i64 oNever]] H K = F15 oQueue oStart oClose oTotal oBeat oFirst oNum oDen oMost oTries oNever H K by kernel_rfl) h)

/- tapestry/timing.Wait -/
noncomputable def c16 : Cx := { P := Try.prog, res := [], pub := [], loops := [⟨6, [(6, .int .i64), (7, .int .i64)], [8, 17, 18, 19, 20, 21, 22, 23, 24, 25, 26, 27, 28, 29, 30, 31, 32, 33, 34, 35, 36, 37], []⟩], quiet := [] }
def F16 (oQueue : Int) (oStart : Int) (oClose : Int) (oTotal : Int) (oBeat : Int) (oFirst : Int) (oNum : Int) (oDen : Int) (oMost : Int) (oTries : Int) (oNever : Int) (attempt : Int) (H : Heap) (K : Value → Heap → Prop) : Prop :=
    ((oMost == (0 : Int)) = true →
        ∃ (Rel : Int → Int → Heap → Prop),
          ∃ (mu : Int → Int → Heap → Nat),
            Rel (if (1048576 : Int) < oFirst then (1048576 : Int) else oFirst) (1 : Int) H ∧
              ∀ (x x1 : Int) (H1 : Heap),
                Rel x x1 H1 →
                  (decide (x1 < attempt) = true →
                      (decide (oDen < (1 : Int)) = true → K (Value.int IntKind.i64 x) H1) ∧
                        (decide (oDen < (1 : Int)) = false →
                          oDen ≠ (0 : Int) ∧
                            (((if (1048576 : Int) < IntKind.i64.wrap ((IntKind.i64.wrap (x * oNum)).tdiv oDen) then (1048576 : Int)
                                    else IntKind.i64.wrap ((IntKind.i64.wrap (x * oNum)).tdiv oDen)) ==
                                    x) =
                                  true →
                                K (Value.int IntKind.i64 x) H1) ∧
                              (((if (1048576 : Int) < IntKind.i64.wrap ((IntKind.i64.wrap (x * oNum)).tdiv oDen) then (1048576 : Int)
                                    else IntKind.i64.wrap ((IntKind.i64.wrap (x * oNum)).tdiv oDen)) ==
                                    x) =
                                  false →
                                Rel
                                    (if (1048576 : Int) < IntKind.i64.wrap ((IntKind.i64.wrap (x * oNum)).tdiv oDen) then (1048576 : Int)
                                    else IntKind.i64.wrap ((IntKind.i64.wrap (x * oNum)).tdiv oDen))
                                    (IntKind.i64.wrap (x1 + (1 : Int))) H1 ∧
                                  mu
                                      (if (1048576 : Int) < IntKind.i64.wrap ((IntKind.i64.wrap (x * oNum)).tdiv oDen) then (1048576 : Int)
                                      else IntKind.i64.wrap ((IntKind.i64.wrap (x * oNum)).tdiv oDen))
                                      (IntKind.i64.wrap (x1 + (1 : Int))) H1 <
                                    mu x x1 H1))) ∧
                    (decide (x1 < attempt) = false → K (Value.int IntKind.i64 x) H1)) ∧
      ((oMost == (0 : Int)) = false →
        ∃ (Rel1 : Int → Int → Heap → Prop),
          ∃ (mu1 : Int → Int → Heap → Nat),
            Rel1 (if oMost < oFirst then oMost else oFirst) (1 : Int) H ∧
              ∀ (x2 x3 : Int) (H2 : Heap),
                Rel1 x2 x3 H2 →
                  (decide (x3 < attempt) = true →
                      (decide (oDen < (1 : Int)) = true → K (Value.int IntKind.i64 x2) H2) ∧
                        (decide (oDen < (1 : Int)) = false →
                          oDen ≠ (0 : Int) ∧
                            (((if oMost < IntKind.i64.wrap ((IntKind.i64.wrap (x2 * oNum)).tdiv oDen) then oMost else IntKind.i64.wrap ((IntKind.i64.wrap (x2 * oNum)).tdiv oDen)) ==
                                    x2) =
                                  true →
                                K (Value.int IntKind.i64 x2) H2) ∧
                              (((if oMost < IntKind.i64.wrap ((IntKind.i64.wrap (x2 * oNum)).tdiv oDen) then oMost else IntKind.i64.wrap ((IntKind.i64.wrap (x2 * oNum)).tdiv oDen)) ==
                                    x2) =
                                  false →
                                Rel1
                                    (if oMost < IntKind.i64.wrap ((IntKind.i64.wrap (x2 * oNum)).tdiv oDen) then oMost else IntKind.i64.wrap ((IntKind.i64.wrap (x2 * oNum)).tdiv oDen))
                                    (IntKind.i64.wrap (x3 + (1 : Int))) H2 ∧
                                  mu1
                                      (if oMost < IntKind.i64.wrap ((IntKind.i64.wrap (x2 * oNum)).tdiv oDen) then oMost
                                      else IntKind.i64.wrap ((IntKind.i64.wrap (x2 * oNum)).tdiv oDen))
                                      (IntKind.i64.wrap (x3 + (1 : Int))) H2 <
                                    mu1 x2 x3 H2))) ∧
                    (decide (x3 < attempt) = false → K (Value.int IntKind.i64 x2) H2))
theorem v16 {oQueue : Int} {oStart : Int} {oClose : Int} {oTotal : Int} {oBeat : Int} {oFirst : Int} {oNum : Int} {oDen : Int} {oMost : Int} {oTries : Int} {oNever : Int} {attempt : Int} {H : Heap} {K : Value → Heap → Prop} (h : F16 oQueue oStart oClose oTotal oBeat oFirst oNum oDen oMost oTries oNever attempt H K) : Tr Try.prog 16 #[.agg #[.int .i64 oQueue, .int .i64 oStart, .int .i64 oClose, .int .i64 oTotal, .int .i64 oBeat, .int .i64 oFirst, .int .i64 oNum, .int .i64 oDen, .int .i64 oMost, .int .i64 oTries, .int .i64 oNever], .int .i64 attempt] H K :=
  tr_of_vc (C := c16) Try.func16 (Eq.mpr (show vcFn c16 Try.f16 [.agg #[.int .i64 oQueue, .int .i64 oStart, .int .i64 oClose, .int .i64 oTotal, .int .i64 oBeat, .int .i64 oFirst, .int .i64 oNum, .int .i64 oDen, .int .i64 oMost, .int .i64 oTries, .int .i64 oNever], .int .i64 attempt] H K = F16 oQueue oStart oClose oTotal oBeat oFirst oNum oDen oMost oTries oNever attempt H K by kernel_rfl) h)

/- tapestry/tapestryref17.Wait -/
noncomputable def c17 : Cx := { P := Try.prog, res := [], pub := [], loops := [⟨3, [(5, .int .i64), (6, .int .i64)], [4, 7, 13, 14, 15, 16, 17, 18, 19, 20, 21, 22, 23, 24, 25, 26, 27, 28, 29, 30, 31, 32], []⟩], quiet := [42] }
def F17 (oQueue : Int) (oStart : Int) (oClose : Int) (oTotal : Int) (oBeat : Int) (oFirst : Int) (oNum : Int) (oDen : Int) (oMost : Int) (oTries : Int) (oNever : Int) (attempt : Int) (H : Heap) (K : Value → Heap → Prop) : Prop :=
    ∃ (x : Int),
      (Tr Try.prog (42 : Nat)
          #[Value.agg
              #[Value.int IntKind.i64 oQueue, Value.int IntKind.i64 oStart, Value.int IntKind.i64 oClose, Value.int IntKind.i64 oTotal, Value.int IntKind.i64 oBeat,
                Value.int IntKind.i64 oFirst, Value.int IntKind.i64 oNum, Value.int IntKind.i64 oDen, Value.int IntKind.i64 oMost, Value.int IntKind.i64 oTries,
                Value.int IntKind.i64 oNever]]
          H fun (v : Value) (H' : Heap) => v = Value.int IntKind.i64 x ∧ Ax.Sub H H') ∧
        ∃ (Rel : Int → Int → Heap → Prop),
          ∃ (mu : Int → Int → Heap → Nat),
            Rel (if x < oFirst then x else oFirst) (2 : Int) H ∧
              ∀ (x1 x2 : Int) (H1 : Heap),
                Rel x1 x2 H1 →
                  (decide (x2 ≤ attempt) = true →
                      oDen ≠ (0 : Int) ∧
                        ∃ (x3 : Int),
                          (Tr Try.prog (42 : Nat)
                              #[Value.agg
                                  #[Value.int IntKind.i64 oQueue, Value.int IntKind.i64 oStart, Value.int IntKind.i64 oClose, Value.int IntKind.i64 oTotal, Value.int IntKind.i64 oBeat,
                                    Value.int IntKind.i64 oFirst, Value.int IntKind.i64 oNum, Value.int IntKind.i64 oDen, Value.int IntKind.i64 oMost, Value.int IntKind.i64 oTries,
                                    Value.int IntKind.i64 oNever]]
                              H1 fun (v1 : Value) (H'1 : Heap) => v1 = Value.int IntKind.i64 x3 ∧ Ax.Sub H1 H'1) ∧
                            (((if x3 < IntKind.i64.wrap ((IntKind.i64.wrap (x1 * oNum)).tdiv oDen) then x3 else IntKind.i64.wrap ((IntKind.i64.wrap (x1 * oNum)).tdiv oDen)) == x1) =
                                  true →
                                K (Value.int IntKind.i64 x1) H1) ∧
                              (((if x3 < IntKind.i64.wrap ((IntKind.i64.wrap (x1 * oNum)).tdiv oDen) then x3 else IntKind.i64.wrap ((IntKind.i64.wrap (x1 * oNum)).tdiv oDen)) == x1) =
                                  false →
                                Rel (if x3 < IntKind.i64.wrap ((IntKind.i64.wrap (x1 * oNum)).tdiv oDen) then x3 else IntKind.i64.wrap ((IntKind.i64.wrap (x1 * oNum)).tdiv oDen))
                                    (IntKind.i64.wrap (x2 + (1 : Int))) H1 ∧
                                  mu (if x3 < IntKind.i64.wrap ((IntKind.i64.wrap (x1 * oNum)).tdiv oDen) then x3 else IntKind.i64.wrap ((IntKind.i64.wrap (x1 * oNum)).tdiv oDen))
                                      (IntKind.i64.wrap (x2 + (1 : Int))) H1 <
                                    mu x1 x2 H1)) ∧
                    (decide (x2 ≤ attempt) = false → K (Value.int IntKind.i64 x1) H1)
theorem v17 {oQueue : Int} {oStart : Int} {oClose : Int} {oTotal : Int} {oBeat : Int} {oFirst : Int} {oNum : Int} {oDen : Int} {oMost : Int} {oTries : Int} {oNever : Int} {attempt : Int} {H : Heap} {K : Value → Heap → Prop} (h : F17 oQueue oStart oClose oTotal oBeat oFirst oNum oDen oMost oTries oNever attempt H K) : Tr Try.prog 17 #[.agg #[.int .i64 oQueue, .int .i64 oStart, .int .i64 oClose, .int .i64 oTotal, .int .i64 oBeat, .int .i64 oFirst, .int .i64 oNum, .int .i64 oDen, .int .i64 oMost, .int .i64 oTries, .int .i64 oNever], .int .i64 attempt] H K :=
  tr_of_vc (C := c17) Try.func17 (Eq.mpr (show vcFn c17 Try.f17 [.agg #[.int .i64 oQueue, .int .i64 oStart, .int .i64 oClose, .int .i64 oTotal, .int .i64 oBeat, .int .i64 oFirst, .int .i64 oNum, .int .i64 oDen, .int .i64 oMost, .int .i64 oTries, .int .i64 oNever], .int .i64 attempt] H K = F17 oQueue oStart oClose oTotal oBeat oFirst oNum oDen oMost oTries oNever attempt H K by kernel_rfl) h)

/- tapestry/timing.Again -/
noncomputable def c18 : Cx := { P := Try.prog, res := [], pub := [], loops := [], quiet := [16] }
def F18 (oQueue : Int) (oStart : Int) (oClose : Int) (oTotal : Int) (oBeat : Int) (oFirst : Int) (oNum : Int) (oDen : Int) (oMost : Int) (oTries : Int) (oNever : Int) (attempt : Int) (code : Int) (from0 : Int) (now : Int) (H : Heap) (K : Value → Heap → Prop) : Prop :=
    ∃ (x : Int),
      (Tr Try.prog (16 : Nat)
          #[Value.agg
              #[Value.int IntKind.i64 oQueue, Value.int IntKind.i64 oStart, Value.int IntKind.i64 oClose, Value.int IntKind.i64 oTotal, Value.int IntKind.i64 oBeat,
                Value.int IntKind.i64 oFirst, Value.int IntKind.i64 oNum, Value.int IntKind.i64 oDen, Value.int IntKind.i64 oMost, Value.int IntKind.i64 oTries,
                Value.int IntKind.i64 oNever],
            Value.int IntKind.i64 attempt]
          H fun (v : Value) (H' : Heap) => v = Value.int IntKind.i64 x ∧ Ax.Sub H H') ∧
        ((oNever != (0 : Int) && code == oNever) = true → K (Value.tuple #[Value.int IntKind.i64 (0 : Int), Value.bool false]) H) ∧
          ((oNever != (0 : Int) && code == oNever) = false →
            ((oTries != (0 : Int) && decide (attempt ≥ oTries)) = true → K (Value.tuple #[Value.int IntKind.i64 (0 : Int), Value.bool false]) H) ∧
              ((oTries != (0 : Int) && decide (attempt ≥ oTries)) = false →
                ((oTotal != (0 : Int) && decide (IntKind.i64.wrap (now + x) ≥ IntKind.i64.wrap (from0 + oTotal))) = true →
                    K (Value.tuple #[Value.int IntKind.i64 (0 : Int), Value.bool false]) H) ∧
                  ((oTotal != (0 : Int) && decide (IntKind.i64.wrap (now + x) ≥ IntKind.i64.wrap (from0 + oTotal))) = false →
                    K (Value.tuple #[Value.int IntKind.i64 (IntKind.i64.wrap (now + x)), Value.bool true]) H)))
theorem v18 {oQueue : Int} {oStart : Int} {oClose : Int} {oTotal : Int} {oBeat : Int} {oFirst : Int} {oNum : Int} {oDen : Int} {oMost : Int} {oTries : Int} {oNever : Int} {attempt : Int} {code : Int} {from0 : Int} {now : Int} {H : Heap} {K : Value → Heap → Prop} (h : F18 oQueue oStart oClose oTotal oBeat oFirst oNum oDen oMost oTries oNever attempt code from0 now H K) : Tr Try.prog 18 #[.agg #[.int .i64 oQueue, .int .i64 oStart, .int .i64 oClose, .int .i64 oTotal, .int .i64 oBeat, .int .i64 oFirst, .int .i64 oNum, .int .i64 oDen, .int .i64 oMost, .int .i64 oTries, .int .i64 oNever], .int .i64 attempt, .int .i64 code, .int .i64 from0, .int .i64 now] H K :=
  tr_of_vc (C := c18) Try.func18 (Eq.mpr (show vcFn c18 Try.f18 [.agg #[.int .i64 oQueue, .int .i64 oStart, .int .i64 oClose, .int .i64 oTotal, .int .i64 oBeat, .int .i64 oFirst, .int .i64 oNum, .int .i64 oDen, .int .i64 oMost, .int .i64 oTries, .int .i64 oNever], .int .i64 attempt, .int .i64 code, .int .i64 from0, .int .i64 now] H K = F18 oQueue oStart oClose oTotal oBeat oFirst oNum oDen oMost oTries oNever attempt code from0 now H K by kernel_rfl) h)

/- tapestry/tapestrylaw17.fit -/
noncomputable def c19 : Cx := { P := Try.prog, res := [], pub := [], loops := [], quiet := [] }
def F19 (t : Int) (H : Heap) (K : Value → Heap → Prop) : Prop :=
    (1099511627776 : Int) ≠ (0 : Int) ∧
      (decide (t.tmod (1099511627776 : Int) < (0 : Int)) = true → K (Value.int IntKind.i64 (IntKind.i64.wrap ((0 : Int) - t.tmod (1099511627776 : Int)))) H) ∧
        (decide (t.tmod (1099511627776 : Int) < (0 : Int)) = false → K (Value.int IntKind.i64 (t.tmod (1099511627776 : Int))) H)
theorem v19 {t : Int} {H : Heap} {K : Value → Heap → Prop} (h : F19 t H K) : Tr Try.prog 19 #[.int .i64 t] H K :=
  tr_of_vc (C := c19) Try.func19 (Eq.mpr (show vcFn c19 Try.f19 [.int .i64 t] H K = F19 t H K by kernel_rfl) h)

/- tapestry/tapestryref17.Again -/
noncomputable def c20 : Cx := { P := Try.prog, res := [], pub := [], loops := [], quiet := [17] }
def F20 (oQueue : Int) (oStart : Int) (oClose : Int) (oTotal : Int) (oBeat : Int) (oFirst : Int) (oNum : Int) (oDen : Int) (oMost : Int) (oTries : Int) (oNever : Int) (attempt : Int) (code : Int) (from0 : Int) (now : Int) (H : Heap) (K : Value → Heap → Prop) : Prop :=
    ((oNever != (0 : Int) && code == oNever || oTries != (0 : Int) && decide (attempt ≥ oTries)) = true → K (Value.tuple #[Value.int IntKind.i64 (0 : Int), Value.bool false]) H) ∧
      ((oNever != (0 : Int) && code == oNever || oTries != (0 : Int) && decide (attempt ≥ oTries)) = false →
        ∃ (x : Int),
          (Tr Try.prog (17 : Nat)
              #[Value.agg
                  #[Value.int IntKind.i64 oQueue, Value.int IntKind.i64 oStart, Value.int IntKind.i64 oClose, Value.int IntKind.i64 oTotal, Value.int IntKind.i64 oBeat,
                    Value.int IntKind.i64 oFirst, Value.int IntKind.i64 oNum, Value.int IntKind.i64 oDen, Value.int IntKind.i64 oMost, Value.int IntKind.i64 oTries,
                    Value.int IntKind.i64 oNever],
                Value.int IntKind.i64 attempt]
              H fun (v : Value) (H' : Heap) => v = Value.int IntKind.i64 x ∧ Ax.Sub H H') ∧
            ((oTotal != (0 : Int) && decide (IntKind.i64.wrap (now + x) ≥ IntKind.i64.wrap (from0 + oTotal))) = true →
                K (Value.tuple #[Value.int IntKind.i64 (0 : Int), Value.bool false]) H) ∧
              ((oTotal != (0 : Int) && decide (IntKind.i64.wrap (now + x) ≥ IntKind.i64.wrap (from0 + oTotal))) = false →
                K (Value.tuple #[Value.int IntKind.i64 (IntKind.i64.wrap (now + x)), Value.bool true]) H))
theorem v20 {oQueue : Int} {oStart : Int} {oClose : Int} {oTotal : Int} {oBeat : Int} {oFirst : Int} {oNum : Int} {oDen : Int} {oMost : Int} {oTries : Int} {oNever : Int} {attempt : Int} {code : Int} {from0 : Int} {now : Int} {H : Heap} {K : Value → Heap → Prop} (h : F20 oQueue oStart oClose oTotal oBeat oFirst oNum oDen oMost oTries oNever attempt code from0 now H K) : Tr Try.prog 20 #[.agg #[.int .i64 oQueue, .int .i64 oStart, .int .i64 oClose, .int .i64 oTotal, .int .i64 oBeat, .int .i64 oFirst, .int .i64 oNum, .int .i64 oDen, .int .i64 oMost, .int .i64 oTries, .int .i64 oNever], .int .i64 attempt, .int .i64 code, .int .i64 from0, .int .i64 now] H K :=
  tr_of_vc (C := c20) Try.func20 (Eq.mpr (show vcFn c20 Try.f20 [.agg #[.int .i64 oQueue, .int .i64 oStart, .int .i64 oClose, .int .i64 oTotal, .int .i64 oBeat, .int .i64 oFirst, .int .i64 oNum, .int .i64 oDen, .int .i64 oMost, .int .i64 oTries, .int .i64 oNever], .int .i64 attempt, .int .i64 code, .int .i64 from0, .int .i64 now] H K = F20 oQueue oStart oClose oTotal oBeat oFirst oNum oDen oMost oTries oNever attempt code from0 now H K by kernel_rfl) h)

/- tapestry/timing.Least -/
noncomputable def c21 : Cx := { P := Try.prog, res := [], pub := [], loops := [⟨3, [(3, .int .i64), (8, .int .i64)], [5, 9, 10, 11, 12, 13, 14, 15, 16, 17, 18, 19, 20, 21, 22, 23, 24], []⟩], quiet := [] }
def F21 (lA : Option Addr) (ln lc : Nat) (H : Heap) (K : Value → Heap → Prop) : Prop :=
    ∃ (Rel : Int → Int → Heap → Prop),
      ∃ (mu : Int → Int → Heap → Nat),
        Rel (0 : Int) (0 : Int) H ∧
          ∀ (x x1 : Int) (H1 : Heap),
            Rel x x1 H1 →
              (decide (x1 < (↑ln : Int)) = true →
                  ∃ (a : Addr),
                    (lA = some a ∧ (0 : Int) ≤ x1 ∧ x1 < (↑ln : Int)) ∧
                      ∃ (x2 : Int),
                        At H1 (a.add (x1.toNat * nat_lit 1)) [Value.int IntKind.i64 x2] ∧
                          ((decide (x2 > (0 : Int)) && (x == (0 : Int) || decide (x2 < x))) = true →
                              Rel x2 (IntKind.i64.wrap (x1 + (1 : Int))) H1 ∧ mu x2 (IntKind.i64.wrap (x1 + (1 : Int))) H1 < mu x x1 H1) ∧
                            ((decide (x2 > (0 : Int)) && (x == (0 : Int) || decide (x2 < x))) = false →
                              Rel x (IntKind.i64.wrap (x1 + (1 : Int))) H1 ∧ mu x (IntKind.i64.wrap (x1 + (1 : Int))) H1 < mu x x1 H1)) ∧
                (decide (x1 < (↑ln : Int)) = false → K (Value.int IntKind.i64 x) H1)
theorem v21 {lA : Option Addr} {ln lc : Nat} {H : Heap} {K : Value → Heap → Prop} (h : F21 lA ln lc H K) : Tr Try.prog 21 #[.slice lA ln lc] H K :=
  tr_of_vc (C := c21) Try.func21 (Eq.mpr (show vcFn c21 Try.f21 [.slice lA ln lc] H K = F21 lA ln lc H K by kernel_rfl) h)

/- tapestry/tapestryref17.Least -/
noncomputable def c22 : Cx := { P := Try.prog, res := [], pub := [], loops := [⟨3, [(3, .int .i64), (4, .int .i64)], [5, 6, 7, 8, 9, 10, 11, 12, 13, 14, 15, 16, 17, 18, 19, 20, 21, 22, 23, 24, 25, 26, 27, 28, 29, 30, 31], []⟩], quiet := [] }
def F22 (lA : Option Addr) (ln lc : Nat) (H : Heap) (K : Value → Heap → Prop) : Prop :=
    ∃ (Rel : Int → Int → Heap → Prop),
      ∃ (mu : Int → Int → Heap → Nat),
        Rel (0 : Int) (0 : Int) H ∧
          ∀ (x x1 : Int) (H1 : Heap),
            Rel x x1 H1 →
              (decide (x1 < (↑ln : Int)) = true →
                  ∃ (a : Addr),
                    (lA = some a ∧ (0 : Int) ≤ x1 ∧ x1 < (↑ln : Int)) ∧
                      ∃ (x2 : Int),
                        At H1 (a.add (x1.toNat * nat_lit 1)) [Value.int IntKind.i64 x2] ∧
                          ∃ (a1 : Addr),
                            ((decide (x2 > (0 : Int)) && !x == (0 : Int)) = true → lA = some a1 ∧ (0 : Int) ≤ x1 ∧ x1 < (↑ln : Int)) ∧
                              ∃ (x3 : Int),
                                ((decide (x2 > (0 : Int)) && !x == (0 : Int)) = true → At H1 (a1.add (x1.toNat * nat_lit 1)) [Value.int IntKind.i64 x3]) ∧
                                  ((decide (x2 > (0 : Int)) && (x == (0 : Int) || decide (x3 < x))) = true →
                                      ∃ (a2 : Addr),
                                        (lA = some a2 ∧ (0 : Int) ≤ x1 ∧ x1 < (↑ln : Int)) ∧
                                          ∃ (x4 : Int),
                                            At H1 (a2.add (x1.toNat * nat_lit 1)) [Value.int IntKind.i64 x4] ∧
                                              Rel x4 (IntKind.i64.wrap (x1 + (1 : Int))) H1 ∧ mu x4 (IntKind.i64.wrap (x1 + (1 : Int))) H1 < mu x x1 H1) ∧
                                    ((decide (x2 > (0 : Int)) && (x == (0 : Int) || decide (x3 < x))) = false →
                                      Rel x (IntKind.i64.wrap (x1 + (1 : Int))) H1 ∧ mu x (IntKind.i64.wrap (x1 + (1 : Int))) H1 < mu x x1 H1)) ∧
                (decide (x1 < (↑ln : Int)) = false → K (Value.int IntKind.i64 x) H1)
theorem v22 {lA : Option Addr} {ln lc : Nat} {H : Heap} {K : Value → Heap → Prop} (h : F22 lA ln lc H K) : Tr Try.prog 22 #[.slice lA ln lc] H K :=
  tr_of_vc (C := c22) Try.func22 (Eq.mpr (show vcFn c22 Try.f22 [.slice lA ln lc] H K = F22 lA ln lc H K by kernel_rfl) h)

/- tapestry/timing.Ends -/
noncomputable def c23 : Cx := { P := Try.prog, res := [], pub := [], loops := [], quiet := [] }
def F23 (from0 : Int) (wait : Int) (H : Heap) (K : Value → Heap → Prop) : Prop :=
    (decide (wait ≤ (0 : Int)) = true → K (Value.tuple #[Value.int IntKind.i64 (0 : Int), Value.bool false]) H) ∧
      (decide (wait ≤ (0 : Int)) = false → K (Value.tuple #[Value.int IntKind.i64 (IntKind.i64.wrap (from0 + wait)), Value.bool true]) H)
theorem v23 {from0 : Int} {wait : Int} {H : Heap} {K : Value → Heap → Prop} (h : F23 from0 wait H K) : Tr Try.prog 23 #[.int .i64 from0, .int .i64 wait] H K :=
  tr_of_vc (C := c23) Try.func23 (Eq.mpr (show vcFn c23 Try.f23 [.int .i64 from0, .int .i64 wait] H K = F23 from0 wait H K by kernel_rfl) h)

/- tapestry/tapestryref17.Ends -/
noncomputable def c24 : Cx := { P := Try.prog, res := [], pub := [], loops := [], quiet := [] }
def F24 (from0 : Int) (wait : Int) (H : Heap) (K : Value → Heap → Prop) : Prop :=
    (decide (wait ≤ (0 : Int)) = true → K (Value.tuple #[Value.int IntKind.i64 (0 : Int), Value.bool false]) H) ∧
      (decide (wait ≤ (0 : Int)) = false → K (Value.tuple #[Value.int IntKind.i64 (IntKind.i64.wrap (from0 + wait)), Value.bool true]) H)
theorem v24 {from0 : Int} {wait : Int} {H : Heap} {K : Value → Heap → Prop} (h : F24 from0 wait H K) : Tr Try.prog 24 #[.int .i64 from0, .int .i64 wait] H K :=
  tr_of_vc (C := c24) Try.func24 (Eq.mpr (show vcFn c24 Try.f24 [.int .i64 from0, .int .i64 wait] H K = F24 from0 wait H K by kernel_rfl) h)

/- tapestry/timing.Bound -/
noncomputable def c25 : Cx := { P := Try.prog, res := [], pub := [], loops := [⟨7, [(4, .int .i64), (5, .int .i64)], [34, 35, 36, 37, 38, 39, 40, 41, 42, 43, 44], []⟩], quiet := [16] }
def F25 (oQueue : Int) (oStart : Int) (oClose : Int) (oTotal : Int) (oBeat : Int) (oFirst : Int) (oNum : Int) (oDen : Int) (oMost : Int) (oTries : Int) (oNever : Int) (H : Heap) (K : Value → Heap → Prop) : Prop :=
    ((oTotal != (0 : Int)) = true → K (Value.tuple #[Value.int IntKind.i64 oTotal, Value.bool true]) H) ∧
      ((oTotal != (0 : Int)) = false →
        ((oStart == (0 : Int) || oClose == (0 : Int) || oTries == (0 : Int)) = true → K (Value.tuple #[Value.int IntKind.i64 (0 : Int), Value.bool false]) H) ∧
          ((oStart == (0 : Int) || oClose == (0 : Int) || oTries == (0 : Int)) = false →
            ∃ (Rel : Int → Int → Heap → Prop),
              ∃ (mu : Int → Int → Heap → Nat),
                Rel (IntKind.i64.wrap (oTries * IntKind.i64.wrap (oStart + oClose))) (1 : Int) H ∧
                  ∀ (x x1 : Int) (H1 : Heap),
                    Rel x x1 H1 →
                      (decide (x1 < oTries) = true →
                          ∃ (x2 : Int),
                            (Tr Try.prog (16 : Nat)
                                #[Value.agg
                                    #[Value.int IntKind.i64 oQueue, Value.int IntKind.i64 oStart, Value.int IntKind.i64 oClose, Value.int IntKind.i64 oTotal,
                                      Value.int IntKind.i64 oBeat, Value.int IntKind.i64 oFirst, Value.int IntKind.i64 oNum, Value.int IntKind.i64 oDen, Value.int IntKind.i64 oMost,
                                      Value.int IntKind.i64 oTries, Value.int IntKind.i64 oNever],
                                  Value.int IntKind.i64 x1]
                                H1 fun (v : Value) (H' : Heap) => v = Value.int IntKind.i64 x2 ∧ Ax.Sub H1 H') ∧
                              Rel (IntKind.i64.wrap (x + x2)) (IntKind.i64.wrap (x1 + (1 : Int))) H1 ∧
                                mu (IntKind.i64.wrap (x + x2)) (IntKind.i64.wrap (x1 + (1 : Int))) H1 < mu x x1 H1) ∧
                        (decide (x1 < oTries) = false → K (Value.tuple #[Value.int IntKind.i64 x, Value.bool true]) H1)))
theorem v25 {oQueue : Int} {oStart : Int} {oClose : Int} {oTotal : Int} {oBeat : Int} {oFirst : Int} {oNum : Int} {oDen : Int} {oMost : Int} {oTries : Int} {oNever : Int} {H : Heap} {K : Value → Heap → Prop} (h : F25 oQueue oStart oClose oTotal oBeat oFirst oNum oDen oMost oTries oNever H K) : Tr Try.prog 25 #[.agg #[.int .i64 oQueue, .int .i64 oStart, .int .i64 oClose, .int .i64 oTotal, .int .i64 oBeat, .int .i64 oFirst, .int .i64 oNum, .int .i64 oDen, .int .i64 oMost, .int .i64 oTries, .int .i64 oNever]] H K :=
  tr_of_vc (C := c25) Try.func25 (Eq.mpr (show vcFn c25 Try.f25 [.agg #[.int .i64 oQueue, .int .i64 oStart, .int .i64 oClose, .int .i64 oTotal, .int .i64 oBeat, .int .i64 oFirst, .int .i64 oNum, .int .i64 oDen, .int .i64 oMost, .int .i64 oTries, .int .i64 oNever]] H K = F25 oQueue oStart oClose oTotal oBeat oFirst oNum oDen oMost oTries oNever H K by kernel_rfl) h)

/- tapestry/tapestryref17.Bound -/
noncomputable def c26 : Cx := { P := Try.prog, res := [], pub := [], loops := [⟨7, [(4, .int .i64), (5, .int .i64)], [24, 25, 26, 27, 28, 29, 30, 31, 32, 33, 34, 35, 36, 37, 38, 39, 40, 41, 42, 43, 44, 45], []⟩], quiet := [17] }
def F26 (oQueue : Int) (oStart : Int) (oClose : Int) (oTotal : Int) (oBeat : Int) (oFirst : Int) (oNum : Int) (oDen : Int) (oMost : Int) (oTries : Int) (oNever : Int) (H : Heap) (K : Value → Heap → Prop) : Prop :=
    ((oTotal != (0 : Int)) = true → K (Value.tuple #[Value.int IntKind.i64 oTotal, Value.bool true]) H) ∧
      ((oTotal != (0 : Int)) = false →
        ((oStart == (0 : Int) || oClose == (0 : Int) || oTries == (0 : Int)) = true → K (Value.tuple #[Value.int IntKind.i64 (0 : Int), Value.bool false]) H) ∧
          ((oStart == (0 : Int) || oClose == (0 : Int) || oTries == (0 : Int)) = false →
            ∃ (Rel : Int → Int → Heap → Prop),
              ∃ (mu : Int → Int → Heap → Nat),
                Rel (0 : Int) (1 : Int) H ∧
                  ∀ (x x1 : Int) (H1 : Heap),
                    Rel x x1 H1 →
                      (decide (x1 ≤ oTries) = true →
                          (decide (x1 < oTries) = true →
                              ∃ (x2 : Int),
                                (Tr Try.prog (17 : Nat)
                                    #[Value.agg
                                        #[Value.int IntKind.i64 oQueue, Value.int IntKind.i64 oStart, Value.int IntKind.i64 oClose, Value.int IntKind.i64 oTotal,
                                          Value.int IntKind.i64 oBeat, Value.int IntKind.i64 oFirst, Value.int IntKind.i64 oNum, Value.int IntKind.i64 oDen,
                                          Value.int IntKind.i64 oMost, Value.int IntKind.i64 oTries, Value.int IntKind.i64 oNever],
                                      Value.int IntKind.i64 x1]
                                    H1 fun (v : Value) (H' : Heap) => v = Value.int IntKind.i64 x2 ∧ Ax.Sub H1 H') ∧
                                  Rel (IntKind.i64.wrap (IntKind.i64.wrap (IntKind.i64.wrap (x + oStart) + oClose) + x2)) (IntKind.i64.wrap (x1 + (1 : Int))) H1 ∧
                                    mu (IntKind.i64.wrap (IntKind.i64.wrap (IntKind.i64.wrap (x + oStart) + oClose) + x2)) (IntKind.i64.wrap (x1 + (1 : Int))) H1 < mu x x1 H1) ∧
                            (decide (x1 < oTries) = false →
                              Rel (IntKind.i64.wrap (IntKind.i64.wrap (x + oStart) + oClose)) (IntKind.i64.wrap (x1 + (1 : Int))) H1 ∧
                                mu (IntKind.i64.wrap (IntKind.i64.wrap (x + oStart) + oClose)) (IntKind.i64.wrap (x1 + (1 : Int))) H1 < mu x x1 H1)) ∧
                        (decide (x1 ≤ oTries) = false → K (Value.tuple #[Value.int IntKind.i64 x, Value.bool true]) H1)))
theorem v26 {oQueue : Int} {oStart : Int} {oClose : Int} {oTotal : Int} {oBeat : Int} {oFirst : Int} {oNum : Int} {oDen : Int} {oMost : Int} {oTries : Int} {oNever : Int} {H : Heap} {K : Value → Heap → Prop} (h : F26 oQueue oStart oClose oTotal oBeat oFirst oNum oDen oMost oTries oNever H K) : Tr Try.prog 26 #[.agg #[.int .i64 oQueue, .int .i64 oStart, .int .i64 oClose, .int .i64 oTotal, .int .i64 oBeat, .int .i64 oFirst, .int .i64 oNum, .int .i64 oDen, .int .i64 oMost, .int .i64 oTries, .int .i64 oNever]] H K :=
  tr_of_vc (C := c26) Try.func26 (Eq.mpr (show vcFn c26 Try.f26 [.agg #[.int .i64 oQueue, .int .i64 oStart, .int .i64 oClose, .int .i64 oTotal, .int .i64 oBeat, .int .i64 oFirst, .int .i64 oNum, .int .i64 oDen, .int .i64 oMost, .int .i64 oTries, .int .i64 oNever]] H K = F26 oQueue oStart oClose oTotal oBeat oFirst oNum oDen oMost oTries oNever H K by kernel_rfl) h)

/- tapestry/tapestryref17.limit -/
noncomputable def c42 : Cx := { P := Try.prog, res := [], pub := [], loops := [], quiet := [] }
def F42 (oQueue : Int) (oStart : Int) (oClose : Int) (oTotal : Int) (oBeat : Int) (oFirst : Int) (oNum : Int) (oDen : Int) (oMost : Int) (oTries : Int) (oNever : Int) (H : Heap) (K : Value → Heap → Prop) : Prop :=
    ((oMost == (0 : Int)) = true → K (Value.int IntKind.i64 (1048576 : Int)) H) ∧ ((oMost == (0 : Int)) = false → K (Value.int IntKind.i64 oMost) H)
theorem v42 {oQueue : Int} {oStart : Int} {oClose : Int} {oTotal : Int} {oBeat : Int} {oFirst : Int} {oNum : Int} {oDen : Int} {oMost : Int} {oTries : Int} {oNever : Int} {H : Heap} {K : Value → Heap → Prop} (h : F42 oQueue oStart oClose oTotal oBeat oFirst oNum oDen oMost oTries oNever H K) : Tr Try.prog 42 #[.agg #[.int .i64 oQueue, .int .i64 oStart, .int .i64 oClose, .int .i64 oTotal, .int .i64 oBeat, .int .i64 oFirst, .int .i64 oNum, .int .i64 oDen, .int .i64 oMost, .int .i64 oTries, .int .i64 oNever]] H K :=
  tr_of_vc (C := c42) Try.func42 (Eq.mpr (show vcFn c42 Try.f42 [.agg #[.int .i64 oQueue, .int .i64 oStart, .int .i64 oClose, .int .i64 oTotal, .int .i64 oBeat, .int .i64 oFirst, .int .i64 oNum, .int .i64 oDen, .int .i64 oMost, .int .i64 oTries, .int .i64 oNever]] H K = F42 oQueue oStart oClose oTotal oBeat oFirst oNum oDen oMost oTries oNever H K by kernel_rfl) h)

/- tapestry/code.Operand -/
noncomputable def c28 : Cx := { P := Try.prog, res := [], pub := [], loops := [], quiet := [] }
def F28 (op : Int) (H : Heap) (K : Value → Heap → Prop) : Prop :=
    ((op == (0 : Int)) = true → ((op == (0 : Int)) = true → K (Value.bool true) H) ∧ ((op == (0 : Int)) = false → K (Value.bool false) H)) ∧
      ((op == (0 : Int)) = false →
        ((op == (13 : Int)) = true → ((op == (13 : Int)) = true → K (Value.bool true) H) ∧ ((op == (13 : Int)) = false → K (Value.bool false) H)) ∧
          ((op == (13 : Int)) = false →
            ((op == (14 : Int)) = true → ((op == (14 : Int)) = true → K (Value.bool true) H) ∧ ((op == (14 : Int)) = false → K (Value.bool false) H)) ∧
              ((op == (14 : Int)) = false →
                ((op == (15 : Int)) = true → ((op == (15 : Int)) = true → K (Value.bool true) H) ∧ ((op == (15 : Int)) = false → K (Value.bool false) H)) ∧
                  ((op == (15 : Int)) = false →
                    ((op == (16 : Int)) = true → ((op == (16 : Int)) = true → K (Value.bool true) H) ∧ ((op == (16 : Int)) = false → K (Value.bool false) H)) ∧
                      ((op == (16 : Int)) = false →
                        ((op == (20 : Int)) = true → ((op == (20 : Int)) = true → K (Value.bool true) H) ∧ ((op == (20 : Int)) = false → K (Value.bool false) H)) ∧
                          ((op == (20 : Int)) = false →
                            ((op == (22 : Int)) = true → ((op == (22 : Int)) = true → K (Value.bool true) H) ∧ ((op == (22 : Int)) = false → K (Value.bool false) H)) ∧
                              ((op == (22 : Int)) = false →
                                ((op == (25 : Int)) = true → ((op == (25 : Int)) = true → K (Value.bool true) H) ∧ ((op == (25 : Int)) = false → K (Value.bool false) H)) ∧
                                  ((op == (25 : Int)) = false →
                                    ((op == (26 : Int)) = true → ((op == (26 : Int)) = true → K (Value.bool true) H) ∧ ((op == (26 : Int)) = false → K (Value.bool false) H)) ∧
                                      ((op == (26 : Int)) = false →
                                        ((op == (27 : Int)) = true → ((op == (27 : Int)) = true → K (Value.bool true) H) ∧ ((op == (27 : Int)) = false → K (Value.bool false) H)) ∧
                                          ((op == (27 : Int)) = false →
                                            ((op == (33 : Int)) = true → ((op == (33 : Int)) = true → K (Value.bool true) H) ∧ ((op == (33 : Int)) = false → K (Value.bool false) H)) ∧
                                              ((op == (33 : Int)) = false →
                                                ((op == (34 : Int)) = true → K (Value.bool true) H) ∧ ((op == (34 : Int)) = false → K (Value.bool false) H))))))))))))
theorem v28 {op : Int} {H : Heap} {K : Value → Heap → Prop} (h : F28 op H K) : Tr Try.prog 28 #[.int .i64 op] H K :=
  tr_of_vc (C := c28) Try.func28 (Eq.mpr (show vcFn c28 Try.f28 [.int .i64 op] H K = F28 op H K by kernel_rfl) h)

/- tapestry/tapestryref13.Operand -/
noncomputable def c29 : Cx := { P := Try.prog, res := [], pub := [], loops := [], quiet := [] }
def F29 (op : Int) (H : Heap) (K : Value → Heap → Prop) : Prop :=
    K
      (Value.bool
        (op == (0 : Int) || op == (13 : Int) || op == (14 : Int) || op == (15 : Int) || op == (16 : Int) || op == (20 : Int) || op == (22 : Int) || op == (25 : Int) ||
                op == (26 : Int) ||
              op == (27 : Int) ||
            op == (33 : Int) ||
          op == (34 : Int)))
      H
theorem v29 {op : Int} {H : Heap} {K : Value → Heap → Prop} (h : F29 op H K) : Tr Try.prog 29 #[.int .i64 op] H K :=
  tr_of_vc (C := c29) Try.func29 (Eq.mpr (show vcFn c29 Try.f29 [.int .i64 op] H K = F29 op H K by kernel_rfl) h)

/- tapestry/code.Pure -/
noncomputable def c30 : Cx := { P := Try.prog, res := [], pub := [], loops := [], quiet := [] }
def F30 (op : Int) (H : Heap) (K : Value → Heap → Prop) : Prop :=
    ((op == (17 : Int)) = true →
        ((op == (17 : Int)) = true → K (Value.bool true) H) ∧ ((op == (17 : Int)) = false → K (Value.bool (decide (op ≥ (0 : Int)) && decide (op ≤ (15 : Int)))) H)) ∧
      ((op == (17 : Int)) = false →
        ((op == (18 : Int)) = true →
            ((op == (18 : Int)) = true → K (Value.bool true) H) ∧ ((op == (18 : Int)) = false → K (Value.bool (decide (op ≥ (0 : Int)) && decide (op ≤ (15 : Int)))) H)) ∧
          ((op == (18 : Int)) = false →
            ((op == (26 : Int)) = true →
                ((op == (26 : Int)) = true → K (Value.bool true) H) ∧ ((op == (26 : Int)) = false → K (Value.bool (decide (op ≥ (0 : Int)) && decide (op ≤ (15 : Int)))) H)) ∧
              ((op == (26 : Int)) = false →
                ((op == (36 : Int)) = true →
                    ((op == (36 : Int)) = true → K (Value.bool true) H) ∧ ((op == (36 : Int)) = false → K (Value.bool (decide (op ≥ (0 : Int)) && decide (op ≤ (15 : Int)))) H)) ∧
                  ((op == (36 : Int)) = false →
                    ((op == (37 : Int)) = true → K (Value.bool true) H) ∧ ((op == (37 : Int)) = false → K (Value.bool (decide (op ≥ (0 : Int)) && decide (op ≤ (15 : Int)))) H)))))
theorem v30 {op : Int} {H : Heap} {K : Value → Heap → Prop} (h : F30 op H K) : Tr Try.prog 30 #[.int .i64 op] H K :=
  tr_of_vc (C := c30) Try.func30 (Eq.mpr (show vcFn c30 Try.f30 [.int .i64 op] H K = F30 op H K by kernel_rfl) h)

/- tapestry/tapestryref13.Pure -/
noncomputable def c31 : Cx := { P := Try.prog, res := [], pub := [], loops := [], quiet := [] }
def F31 (op : Int) (H : Heap) (K : Value → Heap → Prop) : Prop :=
    K (Value.bool (decide (op ≥ (0 : Int)) && decide (op ≤ (15 : Int)) || op == (17 : Int) || op == (18 : Int) || op == (26 : Int) || op == (36 : Int) || op == (37 : Int))) H
theorem v31 {op : Int} {H : Heap} {K : Value → Heap → Prop} (h : F31 op H K) : Tr Try.prog 31 #[.int .i64 op] H K :=
  tr_of_vc (C := c31) Try.func31 (Eq.mpr (show vcFn c31 Try.f31 [.int .i64 op] H K = F31 op H K by kernel_rfl) h)

end Go.Proofs.Ytanahoejlnmfiaa
