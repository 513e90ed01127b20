/- By program (axgen.py): the formulas of functions of the translation, and that each gives its function's contract. Conditions: none. -/
import Derived.Test.YtbojjcmhdklhbaaProg
import Derived.Test.YtbojjcmhdklhbaaAxF
set_option maxRecDepth 100000
set_option linter.unusedVariables false
namespace Go.Proofs.Ytbojjcmhdklhbaa
open Go.Ax

/- tapestry/tapestrylaw14.EventWalks -/
noncomputable def c7 : Cx := { P := Try.prog, res := [], pub := [], loops := [⟨6, [(9, .int .i64)], [10, 18, 19, 20, 21, 22, 23, 24, 25, 26, 27, 28, 29, 30, 31, 32, 33, 34, 35], [(2, 0, .sl)]⟩, ⟨16, [], [], [(3, 0, .int .i64), (4, 0, .bool)]⟩], quiet := [13, 31], asm := true, rfs := [⟨16, [([.int .i64], false), ([.int .i64, .int .i64, .int .i64, .int .i64, .int .i64, .int .i64, .int .i64, .int .i64, .int .i64], true)]⟩] }
def F7 (lA : Option Addr) (ln lc : Nat) (kindsA : Option Addr) (kindsn kindsc : Nat) (most0 : Int) (H : Heap) (K : Value → Heap → Prop) : Prop :=
 ∃ (b : Bool),
 (Tr Try.prog (13 : Nat) #[] H fun (v : Value) (H' : Heap) => v = Value.bool b ∧ Ax.Sub H H') ∧
 ((!b) = true → K (Value.bool false) H) ∧
 ((!b) = false →
 ∃ (Rel : Int → Option Addr → Nat → Nat → Heap → Prop),
 ∃ (mu : Int → Option Addr → Nat → Nat → Heap → Nat),
 Rel (0 : Int) none (0 : Nat) (0 : Nat) H ∧
 ∀ (x : Int) (A : Option Addr) (n c : Nat) (H1 : Heap),
 Rel x A n c H1 →
 (decide (x < (↑ln : Int)) = true →
 ∃ (a : Addr),
 (lA = some a ∧ (0 : Int) ≤ x ∧ x < (↑ln : Int)) ∧
 ∃ (x1 : Int),
 At H1 ((a.add (x.toNat * nat_lit 9)).add (nat_lit 2)) [Value.int IntKind.i64 x1] ∧
 ∃ (b1 : Bool),
 (Tr Try.prog (31 : Nat) #[Value.slice kindsA kindsn kindsc, Value.int IntKind.i64 x1] H1 fun (v1 : Value) (H'1 : Heap) =>
 v1 = Value.bool b1 ∧ Ax.Sub H1 H'1) ∧
 (b1 = true →
 appC (3 : Nat) (nat_lit 1) (nat_lit 8) H1 A n c [Value.int IntKind.i64 x] (1 : Nat) fun (A' : Option Addr) (n' c' : Nat) (H'2 : Heap) =>
 Rel (IntKind.i64.wrap (x + (1 : Int))) A' n' c' H'2 ∧ mu (IntKind.i64.wrap (x + (1 : Int))) A' n' c' H'2 < mu x A n c H1) ∧
 (b1 = false → Rel (IntKind.i64.wrap (x + (1 : Int))) A n c H1 ∧ mu (IntKind.i64.wrap (x + (1 : Int))) A n c H1 < mu x A n c H1)) ∧
 (decide (x < (↑ln : Int)) = false →
 Tr Try.prog (32 : Nat) #[Value.slice lA ln lc, Value.slice kindsA kindsn kindsc] H1 fun (v2 : Value) (H'3 : Heap) =>
 ∃ (v3 : Value),
 v2 = v3 ∧
 ∃ (g : Nat),
 ∃ (caps : List Value),
 (v3 = Value.func (Fn.func g) #[] { toList := caps } ∧ canCall Try.prog g = true) ∧
 ∃ (HI : Heap),
 ∃ (m : Nat),
 ∃ (E : Nat → Int × Int × Int × Int × Int × Int × Int × Int × Int × Int × PUnit),
 ∃ (ys : List Nat),
 Ax.Sub HI H'3 ∧
 It Try.prog g caps HI m
 (fun (i : Nat) =>
 [Value.int IntKind.i64 (E i).fst,
 Value.agg
 #[Value.int IntKind.i64 (E i).snd.fst, Value.int IntKind.i64 (E i).snd.snd.fst, Value.int IntKind.i64 (E i).snd.snd.snd.fst,
 Value.int IntKind.i64 (E i).snd.snd.snd.snd.fst, Value.int IntKind.i64 (E i).snd.snd.snd.snd.snd.fst,
 Value.int IntKind.i64 (E i).snd.snd.snd.snd.snd.snd.fst, Value.int IntKind.i64 (E i).snd.snd.snd.snd.snd.snd.snd.fst,
 Value.int IntKind.i64 (E i).snd.snd.snd.snd.snd.snd.snd.snd.fst,
 Value.int IntKind.i64 (E i).snd.snd.snd.snd.snd.snd.snd.snd.snd.fst]])
 ys ∧
 ∃ (Rel1 : List Nat → Int → Bool → Heap → Prop),
 Rel1 [] (0 : Int) true H'3 ∧
 (∀ (pre : List Nat) (i : Nat),
 i < m →
 pre.length < ys.length →
 ∀ (x2 : Int) (b2 : Bool) (H2 : Heap),
 Rel1 pre x2 b2 H2 →
 Ax.Sub HI H2 →
 NCs H'3 H2 →
 ∀ (x3 x4 x5 x6 x7 x8 x9 x10 x11 x12 : Int),
 E i = (x3, x4, x5, x6, x7, x8, x9, x10, x11, x12, ()) →
 (NCs H'3 H2 ∧ Ax.Sub HI H2) ∧
 ∃ (a1 : Addr),
 ((!decide (x2 ≥ (↑n : Int))) = true → A = some a1 ∧ (0 : Int) ≤ x2 ∧ x2 < (↑n : Int)) ∧
 ∃ (x13 : Int),
 ((!decide (x2 ≥ (↑n : Int))) = true →
 At H2 (a1.add (x2.toNat * nat_lit 1)) [Value.int IntKind.i64 x13]) ∧
 ∃ (a2 : Addr),
 ((!(decide (x2 ≥ (↑n : Int)) || x13 != x3)) = true →
 lA = some a2 ∧ (0 : Int) ≤ x3 ∧ x3 < (↑ln : Int)) ∧
 ∃ (x14 : Int),
 ∃ (x15 : Int),
 ∃ (x16 : Int),
 ∃ (x17 : Int),
 ∃ (x18 : Int),
 ∃ (x19 : Int),
 ∃ (x20 : Int),
 ∃ (x21 : Int),
 ∃ (x22 : Int),
 ((!(decide (x2 ≥ (↑n : Int)) || x13 != x3)) = true →
 At H2 (a2.add (x3.toNat * nat_lit 9))
 [Value.int IntKind.i64 x14, Value.int IntKind.i64 x15,
 Value.int IntKind.i64 x16, Value.int IntKind.i64 x17,
 Value.int IntKind.i64 x18, Value.int IntKind.i64 x19,
 Value.int IntKind.i64 x20, Value.int IntKind.i64 x21,
 Value.int IntKind.i64 x22]) ∧
 ((decide (x2 ≥ (↑n : Int)) || x13 != x3 ||
 !(x4 == x14 &&
 (x5 == x15 &&
 (x6 == x16 &&
 (x7 == x17 &&
 (x8 == x18 &&
 (x9 == x19 &&
 (x10 == x20 &&
 (x11 == x21 && (x12 == x22 && true)))))))))) =
 true →
 (∃ (t : List Nat), pre ++ [i] ++ t = ys) →
 K (Value.bool (b && false && (x2 == (↑n : Int) || x2 == most0)))
 (cutN H'3 H2)) ∧
 ((decide (x2 ≥ (↑n : Int)) || x13 != x3 ||
 !(x4 == x14 &&
 (x5 == x15 &&
 (x6 == x16 &&
 (x7 == x17 &&
 (x8 == x18 &&
 (x9 == x19 &&
 (x10 == x20 &&
 (x11 == x21 && (x12 == x22 && true)))))))))) =
 false →
 ((IntKind.i64.wrap (x2 + (1 : Int)) == most0) = true →
 (∃ (t1 : List Nat), pre ++ [i] ++ t1 = ys) →
 K
 (Value.bool
 (b && b2 &&
 (IntKind.i64.wrap (x2 + (1 : Int)) == (↑n : Int) ||
 IntKind.i64.wrap (x2 + (1 : Int)) == most0)))
 (cutN H'3 H2)) ∧
 ((IntKind.i64.wrap (x2 + (1 : Int)) == most0) = false →
 Rel1 (pre ++ [i]) (IntKind.i64.wrap (x2 + (1 : Int))) b2
 (cutN H'3 H2) ∧
 Ax.Sub HI H2))) ∧
 ∀ (x23 : Int) (b3 : Bool) (H3 : Heap),
 Rel1 ys x23 b3 H3 → NCs H'3 H3 → K (Value.bool (b && b3 && (x23 == (↑n : Int) || x23 == most0))) H3))
theorem v7 {lA : Option Addr} {ln lc : Nat} {kindsA : Option Addr} {kindsn kindsc : Nat} {most0 : Int} {H : Heap} {K : Value → Heap → Prop} (h : F7 lA ln lc kindsA kindsn kindsc most0 H K) : Tr Try.prog 7 #[.slice lA ln lc, .slice kindsA kindsn kindsc, .int .i64 most0] H K :=
  tr_of_eq (C := c7) Try.func7 (show vcFn c7 Try.f7 [.slice lA ln lc, .slice kindsA kindsn kindsc, .int .i64 most0] H K = F7 lA ln lc kindsA kindsn kindsc most0 H K by kernel_rfl) h

/- tapestry/event.Of -/
noncomputable def c32 : Cx := { P := Try.prog, res := [], pub := [2, 3], loops := [], quiet := [], asm := true }
def F32 (lA : Option Addr) (ln lc : Nat) (kindsA : Option Addr) (kindsn kindsc : Nat) (H : Heap) (K : Value → Heap → Prop) : Prop :=
 ∀ (b : Nat),
 H b = none →
 ∀ (H1 : Heap),
 H1 = H.upd b (Obj.cells #[Value.slice lA ln lc] (38 : Nat)) →
 ∀ (b1 : Nat),
 H1 b1 = none →
 ∀ (H11 : Heap),
 H11 = H1.upd b1 (Obj.cells #[Value.slice kindsA kindsn kindsc] (47 : Nat)) →
 K (Value.func (Fn.func (54 : Nat)) #[] #[Value.pointer (some ({ block := b, off := (0 : Nat) } : Addr)), Value.pointer (some ({ block := b1, off := (0 : Nat) } : Addr))]) H11
theorem v32 {lA : Option Addr} {ln lc : Nat} {kindsA : Option Addr} {kindsn kindsc : Nat} {H : Heap} {K : Value → Heap → Prop} (h : F32 lA ln lc kindsA kindsn kindsc H K) : Tr Try.prog 32 #[.slice lA ln lc, .slice kindsA kindsn kindsc] H K :=
  tr_of_eq (C := c32) Try.func32 (show vcFn c32 Try.f32 [.slice lA ln lc, .slice kindsA kindsn kindsc] H K = F32 lA ln lc kindsA kindsn kindsc H K by kernel_rfl) h

/- tapestry/grammar.Open -/
noncomputable def c36 : Cx := { P := Try.prog, res := [], pub := [21, 31, 37, 43, 49], loops := [⟨8, [], [], [(1, 0, .sl)]⟩], quiet := [59], asm := true, rfs := [⟨8, [([.int .i64], false), ([.int .i64, .int .i64, .int .i64, .int .i64, .int .i64, .int .i64, .int .i64, .int .i64, .int .i64], true)]⟩] }
def F36 (hA : Option Addr) (hn hc : Nat) (H : Heap) (K : Value → Heap → Prop) : Prop :=
 Tr Try.prog (57 : Nat) #[Value.slice hA hn hc] H fun (v : Value) (H' : Heap) =>
 ∃ (v1 : Option Addr),
 ∃ (x : Int),
 v = Value.tuple #[Value.pointer v1, Value.int IntKind.i64 x] ∧
 (decide (x < (↑hn : Int)) = true → K (Value.tuple #[Value.slice none (0 : Nat) (0 : Nat), Value.int IntKind.i64 (52 : Int)]) H') ∧
 (decide (x < (↑hn : Int)) = false →
 ∀ (b : Nat),
 H' b = none →
 ∀ (H1 : Heap),
 H1 =
 H'.upd b
 (Obj.cells #[Value.int IntKind.i64 (3 : Int), Value.int IntKind.i64 (4 : Int), Value.int IntKind.i64 (5 : Int), Value.int IntKind.i64 (21 : Int)]
 (3 : Nat)) →
 Tr Try.prog (32 : Nat) #[Value.slice hA hn hc, Value.slice (some ({ block := b, off := (0 : Nat) } : Addr)) (4 : Nat) (4 : Nat)] H1 fun (v2 : Value) (H'1 : Heap) =>
 ∃ (v3 : Value),
 v2 = v3 ∧
 ∃ (g : Nat),
 ∃ (caps : List Value),
 (v3 = Value.func (Fn.func g) #[] { toList := caps } ∧ canCall Try.prog g = true) ∧
 ∃ (HI : Heap),
 ∃ (m : Nat),
 ∃ (E : Nat → Int × Int × Int × Int × Int × Int × Int × Int × Int × Int × PUnit),
 ∃ (ys : List Nat),
 Ax.Sub HI H'1 ∧
 It Try.prog g caps HI m
 (fun (i : Nat) =>
 [Value.int IntKind.i64 (E i).fst,
 Value.agg
 #[Value.int IntKind.i64 (E i).snd.fst, Value.int IntKind.i64 (E i).snd.snd.fst, Value.int IntKind.i64 (E i).snd.snd.snd.fst,
 Value.int IntKind.i64 (E i).snd.snd.snd.snd.fst, Value.int IntKind.i64 (E i).snd.snd.snd.snd.snd.fst,
 Value.int IntKind.i64 (E i).snd.snd.snd.snd.snd.snd.fst, Value.int IntKind.i64 (E i).snd.snd.snd.snd.snd.snd.snd.fst,
 Value.int IntKind.i64 (E i).snd.snd.snd.snd.snd.snd.snd.snd.fst,
 Value.int IntKind.i64 (E i).snd.snd.snd.snd.snd.snd.snd.snd.snd.fst]])
 ys ∧
 ∃ (Rel : List Nat → Option Addr → Nat → Nat → Heap → Prop),
 Rel [] none (0 : Nat) (0 : Nat) H'1 ∧
 (∀ (pre : List Nat) (i : Nat),
 i < m →
 pre.length < ys.length →
 ∀ (A : Option Addr) (n c : Nat) (H1 : Heap),
 Rel pre A n c H1 →
 Ax.Sub HI H1 →
 NCs H'1 H1 →
 ∀ (x1 x2 x3 x4 x5 x6 x7 x8 x9 x10 : Int),
 E i = (x1, x2, x3, x4, x5, x6, x7, x8, x9, x10, ()) →
 (NCs H'1 H1 ∧ Ax.Sub HI H1) ∧
 ((x4 == (3 : Int)) = true →
 ∀ (b1 : Nat),
 H1 b1 = none →
 ∀ (H11 : Heap),
 H11 =
 H1.upd b1
 (Obj.cells
 #[Value.int IntKind.i64 (6 : Int), Value.int IntKind.i64 (22 : Int),
 Value.int IntKind.i64 (23 : Int), Value.int IntKind.i64 (24 : Int)]
 (3 : Nat)) →
 ∃ (b2 : Bool),
 (Tr Try.prog (59 : Nat)
 #[Value.pointer v1, Value.int IntKind.i64 x2,
 Value.slice (some ({ block := b1, off := (0 : Nat) } : Addr)) (4 : Nat) (4 : Nat)]
 H11 fun (v4 : Value) (H'2 : Heap) => v4 = Value.bool b2 ∧ Ax.Sub H11 H'2) ∧
 (b2 = true →
 appC (3 : Nat) (nat_lit 1) (nat_lit 8) H11 A n c [Value.int IntKind.i64 x1] (1 : Nat)
 fun (A' : Option Addr) (n' c' : Nat) (H'3 : Heap) =>
 Rel (pre ++ [i]) A' n' c' (cutN H'1 H'3) ∧ Ax.Sub HI H'3) ∧
 (b2 = false → Rel (pre ++ [i]) A n c (cutN H'1 H11) ∧ Ax.Sub HI H11)) ∧
 ((x4 == (3 : Int)) = false →
 ((x4 == (4 : Int)) = true →
 ∀ (b3 : Nat),
 H1 b3 = none →
 ∀ (H12 : Heap),
 H12 =
 H1.upd b3
 (Obj.cells #[Value.int IntKind.i64 (7 : Int), Value.int IntKind.i64 (25 : Int)]
 (3 : Nat)) →
 ∃ (b4 : Bool),
 (Tr Try.prog (59 : Nat)
 #[Value.pointer v1, Value.int IntKind.i64 x2,
 Value.slice (some ({ block := b3, off := (0 : Nat) } : Addr)) (2 : Nat) (2 : Nat)]
 H12 fun (v5 : Value) (H'4 : Heap) => v5 = Value.bool b4 ∧ Ax.Sub H12 H'4) ∧
 (b4 = true →
 appC (3 : Nat) (nat_lit 1) (nat_lit 8) H12 A n c [Value.int IntKind.i64 x1] (1 : Nat)
 fun (A'1 : Option Addr) (n'1 c'1 : Nat) (H'5 : Heap) =>
 Rel (pre ++ [i]) A'1 n'1 c'1 (cutN H'1 H'5) ∧ Ax.Sub HI H'5) ∧
 (b4 = false → Rel (pre ++ [i]) A n c (cutN H'1 H12) ∧ Ax.Sub HI H12)) ∧
 ((x4 == (4 : Int)) = false →
 ((x4 == (5 : Int)) = true →
 ∀ (b5 : Nat),
 H1 b5 = none →
 ∀ (H13 : Heap),
 H13 =
 H1.upd b5
 (Obj.cells #[Value.int IntKind.i64 (27 : Int), Value.int IntKind.i64 (28 : Int)]
 (3 : Nat)) →
 ∃ (b6 : Bool),
 (Tr Try.prog (59 : Nat)
 #[Value.pointer v1, Value.int IntKind.i64 x2,
 Value.slice (some ({ block := b5, off := (0 : Nat) } : Addr)) (2 : Nat) (2 : Nat)]
 H13 fun (v6 : Value) (H'6 : Heap) => v6 = Value.bool b6 ∧ Ax.Sub H13 H'6) ∧
 (b6 = true →
 appC (3 : Nat) (nat_lit 1) (nat_lit 8) H13 A n c [Value.int IntKind.i64 x1]
 (1 : Nat) fun (A'2 : Option Addr) (n'2 c'2 : Nat) (H'7 : Heap) =>
 Rel (pre ++ [i]) A'2 n'2 c'2 (cutN H'1 H'7) ∧ Ax.Sub HI H'7) ∧
 (b6 = false → Rel (pre ++ [i]) A n c (cutN H'1 H13) ∧ Ax.Sub HI H13)) ∧
 ((x4 == (5 : Int)) = false →
 ∀ (b7 : Nat),
 H1 b7 = none →
 ∀ (H14 : Heap),
 H14 =
 H1.upd b7
 (Obj.cells #[Value.int IntKind.i64 (13 : Int), Value.int IntKind.i64 (14 : Int)]
 (3 : Nat)) →
 ∃ (b8 : Bool),
 (Tr Try.prog (59 : Nat)
 #[Value.pointer v1, Value.int IntKind.i64 x2,
 Value.slice (some ({ block := b7, off := (0 : Nat) } : Addr)) (2 : Nat) (2 : Nat)]
 H14 fun (v7 : Value) (H'8 : Heap) => v7 = Value.bool b8 ∧ Ax.Sub H14 H'8) ∧
 (b8 = true →
 appC (3 : Nat) (nat_lit 1) (nat_lit 8) H14 A n c [Value.int IntKind.i64 x1]
 (1 : Nat) fun (A'3 : Option Addr) (n'3 c'3 : Nat) (H'9 : Heap) =>
 Rel (pre ++ [i]) A'3 n'3 c'3 (cutN H'1 H'9) ∧ Ax.Sub HI H'9) ∧
 (b8 = false → Rel (pre ++ [i]) A n c (cutN H'1 H14) ∧ Ax.Sub HI H14))))) ∧
 ∀ (A1 : Option Addr) (n1 c1 : Nat) (H2 : Heap),
 Rel ys A1 n1 c1 H2 → NCs H'1 H2 → K (Value.tuple #[Value.slice A1 n1 c1, Value.int IntKind.i64 (0 : Int)]) H2)
theorem v36 {hA : Option Addr} {hn hc : Nat} {H : Heap} {K : Value → Heap → Prop} (h : F36 hA hn hc H K) : Tr Try.prog 36 #[.slice hA hn hc] H K :=
  tr_of_eq (C := c36) Try.func36 (show vcFn c36 Try.f36 [.slice hA hn hc] H K = F36 hA hn hc H K by kernel_rfl) h

end Go.Proofs.Ytbojjcmhdklhbaa
