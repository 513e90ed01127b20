/- Ax, first part: the words of an abstract walk. 'vc' turns the code of a function, step by step, into a plain formula over a heap's fragment; the second part proves that the formula's truth gives the call's contract. Conditions: none; these are definitions and small facts about them. -/
import Derived.WalkKit
import Derived.KernelRfl
import Derived.Scope
import Derived.Deep.Quiet
import Derived.Deep.LoopGhost
import Derived.Laws.StructEq
import Derived.Laws.Tables
import Derived.RangeFuncKeeps
namespace Go.Ax
open Go.RowKit

/-! ### fragments of the heap -/
abbrev Heap := Nat → Option Obj
def Heap.upd (H : Heap) (b : Nat) (o : Obj) : Heap := fun i => if i = b then some o else H i
structure Sub (H H' : Heap) : Prop where
  sub : ∀ b o, H b = some o → H' b = some o
def Holds (H : Heap) (w : World) : Prop := ∀ b o, H b = some o → w.heap[b]? = some o
/-- What a call may have done: it knows 'H'' now; old blocks that it did not know are as they were and still not its own. -/
structure Keeps (H : Heap) (w : World) (H' : Heap) (w' : World) : Prop where
  holds : Holds H' w'
  old : ∀ b, b < w.heap.size → H b = none → w'.heap[b]? = w.heap[b]? ∧ H' b = none
  size : w.heap.size ≤ w'.heap.size
  tape : w'.tape = w.tape
  os : w'.os = w.os
  output : w'.output = w.output
/-- A call's contract: from whatever world that holds 'H' it returns, and 'K' of its value and of the fragment that it leaves. -/
structure Tr (P : Program) (f : FuncId) (args : Array Value) (H : Heap) (K : Value → Heap → Prop) : Prop where
  run : ∀ w, Holds H w → Calls P f args w fun e w' => ∃ v H', e = .returned v ∧ Keeps H w H' w' ∧ K v H'
/-- An operation's contract over a fragment: from whatever world that holds it. -/
structure Sm (P : Program) (s : Sem Value) (H : Heap) (K : Value → Heap → Prop) : Prop where
  run : ∀ w, Holds H w → ∃ v H' w', s.run P w = .ok v w' ∧ Keeps H w H' w' ∧ K v H'
/-- an operation without a value -/
def updU (s : Sem Unit) : Sem Value := do s; pure undef
/-- The cells from address 'a' on. -/
structure At (H : Heap) (a : Addr) (cs : List Value) : Prop where
  out : ∃ c t fz, H a.block = some (.cells c t fz) ∧ a.spot = none ∧ ∀ j v, cs[j]? = some v → c[a.off + j]? = some v

theorem Sub.refl (H : Heap) : Sub H H := ⟨fun _ _ h => h⟩
theorem Sub.trans {H H1 H2 : Heap} (h : Sub H H1) (k : Sub H1 H2) : Sub H H2 := ⟨fun b o e => k.sub b o (h.sub b o e)⟩
theorem Holds.sub {H H' : Heap} {w : World} (h : Holds H' w) (k : Sub H H') : Holds H w := fun b o e => h b o (k.sub b o e)
theorem At.sub {H H' : Heap} {a : Addr} {cs : List Value} (h : At H a cs) (k : Sub H H') : At H' a cs := by
  obtain ⟨c, t, fz, h1, h2, h3⟩ := h.out
  constructor
  exact ⟨c, t, fz, k.sub _ _ h1, h2, h3⟩
theorem Sub.upd_new {H : Heap} {b : Nat} {o : Obj} (h : H b = none) : Sub H (H.upd b o) := ⟨fun i o' e => by
  unfold Heap.upd
  by_cases hi : i = b
  · subst hi; rw [h] at e; cases e
  · rw [if_neg hi]; exact e⟩
theorem Heap.upd_same {H : Heap} {b : Nat} {o : Obj} : (H.upd b o) b = some o := by simp [Heap.upd]
theorem Heap.upd_other {H : Heap} {b i : Nat} {o : Obj} (h : i ≠ b) : (H.upd b o) i = H i := by simp [Heap.upd, h]
theorem Heap.upd_upd {H : Heap} {b : Nat} {o o' : Obj} : (H.upd b o).upd b o' = H.upd b o' := by
  funext i; unfold Heap.upd; split <;> rfl

theorem Keeps.refl {H : Heap} {w : World} (h : Holds H w) : Keeps H w H w := ⟨h, fun _ _ e => ⟨rfl, e⟩, Nat.le_refl _, rfl, rfl, rfl⟩
theorem Keeps.trans {H H1 H2 : Heap} {w w1 w2 : World} (h : Keeps H w H1 w1) (k : Keeps H1 w1 H2 w2) : Keeps H w H2 w2 :=
  ⟨k.holds, fun b hb e => by
    obtain ⟨a1, a2⟩ := h.old b hb e
    obtain ⟨b1, b2⟩ := k.old b (Nat.lt_of_lt_of_le hb h.size) a2
    exact ⟨b1.trans a1, b2⟩, Nat.le_trans h.size k.size, k.tape.trans h.tape, k.os.trans h.os, k.output.trans h.output⟩
theorem Tr.mono {P : Program} {f : FuncId} {args : Array Value} {H : Heap} {K K' : Value → Heap → Prop} (h : Tr P f args H K) (k : ∀ v H', K v H' → K' v H') : Tr P f args H K' :=
  ⟨fun w hw => (h.run w hw).mono fun _ _ ⟨v, H', e, kp, kk⟩ => ⟨v, H', e, kp, k v H' kk⟩⟩

theorem At.cell {H : Heap} {w : World} {a : Addr} {cs : List Value} (h : At H a cs) (hw : Holds H w) : ∀ j v, cs[j]? = some v → w.cell? (a.add j) = some v := by
  obtain ⟨c, t, fz, h1, h2, h3⟩ := h.out
  intro j v hv
  have hb := hw _ _ h1
  have h4 := h3 j v hv
  unfold Addr.add
  split
  · rename_i hj
    subst hj
    simpa [World.cell?, hb, h2] using h4
  · simpa [World.cell?, hb] using h4

/-- What a fragment knows that is no row of cells is known ahead of the loop. -/
structure NCs (H0 H : Heap) : Prop where
  known : ∀ b o, H b = some o → o.isCells = false → (H0 b).isSome = true
/-- The cells of a fragment, and what was known ahead of the loop. -/
def cutN (H0 H : Heap) : Heap := fun b => match H b with
  | some o => (match o.isCells || (H0 b).isSome with | true => some o | false => none)
  | none => none
/-- An iterator's contract: the function 'g' that has captured 'caps' yields the elements 'ys' (their numbers), if what it reads ('HI') is kept by each round. -/
structure It (P : Program) (g : FuncId) (caps : List Value) (HI : Heap) (m : Nat) (args : Nat → List Value) (ys : List Nat) : Prop where
  run : ∀ (n : Nat) (w : World), 1 ≤ n → Holds HI w → SeqStopsK Fence.wide n P g ⟨caps⟩ (fun i : Fin m => (⟨args i.1⟩ : Array Value)) (fun W W' => Holds HI W → Holds HI W') (fun is => is.map (·.1) = ys) (fun is => List.IsPrefix (is.map (·.1)) ys) ys.length w

/-! ### shapes of one-cell values; typed quantifiers -/
inductive Sh where
  | int (k : IntKind) | bool | str | sl | ptr | mp | val

def V : List Sh → Type
  | [] => Unit
  | .int _ :: l => Int × V l
  | .bool :: l => Bool × V l
  | .str :: l => ByteArray × V l
  | .sl :: l => (Option Addr × Nat × Nat) × V l
  | .ptr :: l => Option Addr × V l
  | .mp :: l => Option Nat × V l
  | .val :: l => Value × V l

def enc : (l : List Sh) → V l → List Value
  | [], _ => []
  | .int k :: l, v => .int k v.1 :: enc l v.2
  | .bool :: l, v => .bool v.1 :: enc l v.2
  | .str :: l, v => .string v.1 :: enc l v.2
  | .sl :: l, v => .slice v.1.1 v.1.2.1 v.1.2.2 :: enc l v.2
  | .ptr :: l, v => .pointer v.1 :: enc l v.2
  | .mp :: l, v => .map v.1 :: enc l v.2
  | .val :: l, v => v.1 :: enc l v.2

def exV : (l : List Sh) → (V l → Prop) → Prop
  | [], P => P ()
  | .int _ :: l, P => ∃ x : Int, exV l fun r => P (x, r)
  | .bool :: l, P => ∃ x : Bool, exV l fun r => P (x, r)
  | .str :: l, P => ∃ x : ByteArray, exV l fun r => P (x, r)
  | .sl :: l, P => ∃ (A : Option Addr) (n c : Nat), exV l fun r => P ((A, n, c), r)
  | .ptr :: l, P => ∃ x : Option Addr, exV l fun r => P (x, r)
  | .mp :: l, P => ∃ x : Option Nat, exV l fun r => P (x, r)
  | .val :: l, P => ∃ x : Value, exV l fun r => P (x, r)

def allV : (l : List Sh) → (V l → Prop) → Prop
  | [], P => P ()
  | .int _ :: l, P => ∀ x : Int, allV l fun r => P (x, r)
  | .bool :: l, P => ∀ x : Bool, allV l fun r => P (x, r)
  | .str :: l, P => ∀ x : ByteArray, allV l fun r => P (x, r)
  | .sl :: l, P => ∀ (A : Option Addr) (n c : Nat), allV l fun r => P ((A, n, c), r)
  | .ptr :: l, P => ∀ x : Option Addr, allV l fun r => P (x, r)
  | .mp :: l, P => ∀ x : Option Nat, allV l fun r => P (x, r)
  | .val :: l, P => ∀ x : Value, allV l fun r => P (x, r)

/-- Curried functions of typed values. -/
def CurT (ρ : Type) : List Sh → Type
  | [] => ρ
  | .int _ :: l => Int → CurT ρ l
  | .bool :: l => Bool → CurT ρ l
  | .str :: l => ByteArray → CurT ρ l
  | .sl :: l => Option Addr → Nat → Nat → CurT ρ l
  | .ptr :: l => Option Addr → CurT ρ l
  | .mp :: l => Option Nat → CurT ρ l
  | .val :: l => Value → CurT ρ l

def unc (ρ : Type) : (l : List Sh) → CurT ρ l → V l → ρ
  | [], f, _ => f
  | .int _ :: l, f, v => unc ρ l (f v.1) v.2
  | .bool :: l, f, v => unc ρ l (f v.1) v.2
  | .str :: l, f, v => unc ρ l (f v.1) v.2
  | .sl :: l, f, v => unc ρ l (f v.1.1 v.1.2.1 v.1.2.2) v.2
  | .ptr :: l, f, v => unc ρ l (f v.1) v.2
  | .mp :: l, f, v => unc ρ l (f v.1) v.2
  | .val :: l, f, v => unc ρ l (f v.1) v.2

theorem exV_iff : ∀ (l : List Sh) (P : V l → Prop), exV l P ↔ ∃ v, P v
  | [], P => ⟨fun h => ⟨(), h⟩, fun ⟨_, h⟩ => h⟩
  | .int _ :: l, P => by simp only [exV, exV_iff l]; exact ⟨fun ⟨x, r, h⟩ => ⟨(x, r), h⟩, fun ⟨v, h⟩ => ⟨v.1, v.2, h⟩⟩
  | .bool :: l, P => by simp only [exV, exV_iff l]; exact ⟨fun ⟨x, r, h⟩ => ⟨(x, r), h⟩, fun ⟨v, h⟩ => ⟨v.1, v.2, h⟩⟩
  | .str :: l, P => by simp only [exV, exV_iff l]; exact ⟨fun ⟨x, r, h⟩ => ⟨(x, r), h⟩, fun ⟨v, h⟩ => ⟨v.1, v.2, h⟩⟩
  | .sl :: l, P => by simp only [exV, exV_iff l]; exact ⟨fun ⟨A, n, c, r, h⟩ => ⟨((A, n, c), r), h⟩, fun ⟨v, h⟩ => ⟨v.1.1, v.1.2.1, v.1.2.2, v.2, h⟩⟩
  | .ptr :: l, P => by simp only [exV, exV_iff l]; exact ⟨fun ⟨x, r, h⟩ => ⟨(x, r), h⟩, fun ⟨v, h⟩ => ⟨v.1, v.2, h⟩⟩
  | .mp :: l, P => by simp only [exV, exV_iff l]; exact ⟨fun ⟨x, r, h⟩ => ⟨(x, r), h⟩, fun ⟨v, h⟩ => ⟨v.1, v.2, h⟩⟩
  | .val :: l, P => by simp only [exV, exV_iff l]; exact ⟨fun ⟨x, r, h⟩ => ⟨(x, r), h⟩, fun ⟨v, h⟩ => ⟨v.1, v.2, h⟩⟩

theorem allV_iff : ∀ (l : List Sh) (P : V l → Prop), allV l P ↔ ∀ v, P v
  | [], P => ⟨fun h _ => h, fun h => h ()⟩
  | .int _ :: l, P => by simp only [allV, allV_iff l]; exact ⟨fun h v => h v.1 v.2, fun h x r => h (x, r)⟩
  | .bool :: l, P => by simp only [allV, allV_iff l]; exact ⟨fun h v => h v.1 v.2, fun h x r => h (x, r)⟩
  | .str :: l, P => by simp only [allV, allV_iff l]; exact ⟨fun h v => h v.1 v.2, fun h x r => h (x, r)⟩
  | .sl :: l, P => by simp only [allV, allV_iff l]; exact ⟨fun h v => h v.1.1 v.1.2.1 v.1.2.2 v.2, fun h A n c r => h ((A, n, c), r)⟩
  | .ptr :: l, P => by simp only [allV, allV_iff l]; exact ⟨fun h v => h v.1 v.2, fun h x r => h (x, r)⟩
  | .mp :: l, P => by simp only [allV, allV_iff l]; exact ⟨fun h v => h v.1 v.2, fun h x r => h (x, r)⟩
  | .val :: l, P => by simp only [allV, allV_iff l]; exact ⟨fun h v => h v.1 v.2, fun h x r => h (x, r)⟩

/-! ### abstract values and states -/
inductive AV where
  | v (x : Value)
  | bl (b : Bool)
  | loc (i off : Nat)
  | ifs (e s : Nat) (w : Bool) (x : AV)
  | lsl (i off n c : Nat)
  | any

structure AS where
  fr : List (Nat × AV)
  bx : List (List AV)
  H : Heap
  ep : Nat
  gs : List Nat

def look : List (Nat × AV) → Nat → AV
  | [], _ => .v undef
  | p :: l, t => match Nat.beq p.1 t with | true => p.2 | false => look l t
def hasN : List Nat → Nat → Bool
  | [], _ => false
  | k :: l, t => match Nat.beq k t with | true => true | false => hasN l t
def AS.put (S : AS) (d : Nat) (x : AV) : AS := { S with fr := (d, x) :: S.fr }
def AS.enter (S : AS) : AS := { S with ep := S.ep + 1, gs := [] }

def kb (k k' : IntKind) : Bool := match k, k' with
  | .i8, .i8 | .i16, .i16 | .i32, .i32 | .i64, .i64 | .u8, .u8 | .u16, .u16 | .u32, .u32 | .u64, .u64 => true
  | _, _ => false
theorem kb_eq {k k' : IntKind} (h : kb k k' = true) : k = k' := by cases k <;> cases k' <;> first | rfl | cases h

def asB : AV → Option Bool
  | .v (.bool b) => some b
  | .bl b => some b
  | _ => none

def getV : (l : List Sh) → List AV → Option (V l)
  | [], _ => some ()
  | .int k :: l, .v (.int k' x) :: xs => match kb k k' with
    | true => (match getV l xs with | some r => some (x, r) | none => none)
    | false => none
  | .bool :: l, x :: xs => match asB x with
    | some b => (match getV l xs with | some r => some (b, r) | none => none)
    | none => none
  | .str :: l, .v (.string s) :: xs => match getV l xs with | some r => some (s, r) | none => none
  | .sl :: l, .v (.slice A n c) :: xs => match getV l xs with | some r => some ((A, n, c), r) | none => none
  | .ptr :: l, .v (.pointer p) :: xs => match getV l xs with | some r => some (p, r) | none => none
  | .mp :: l, .v (.map p) :: xs => match getV l xs with | some r => some (p, r) | none => none
  | .val :: l, .v x :: xs => match getV l xs with | some r => some (x, r) | none => none
  | _, _ => none

/-! ### types -/
def catS (f : TypeId → Option (List Sh)) : List Field → Option (List Sh)
  | [] => some []
  | fd :: l => match f fd.type with
    | some a => (match catS f l with | some b => some (a ++ b) | none => none)
    | none => none
def repS : Nat → List Sh → List Sh
  | 0, _ => []
  | n + 1, l => l ++ repS n l
def shapesOf (P : Program) : Nat → TypeId → Option (List Sh)
  | 0, _ => none
  | f + 1, t => match P.underlying t with
    | some .bool => some [.bool]
    | some (.int k) => some [.int k]
    | some .string => some [.str]
    | some (.slice _) => some [.sl]
    | some (.pointer _) => some [.ptr]
    | some .unsafePointer => some [.ptr]
    | some (.map _ _) => some [.mp]
    | some (.func _ _ _) => some [.val]
    | some (.interface _) => some [.val]
    | some (.struct fs) => catS (shapesOf P f) fs.toList
    | some (.array n e) => match shapesOf P f e with
      | some l => some (repS n l)
      | none => none
    | _ => none
def aggT (P : Program) (t : TypeId) : Bool := match P.underlying t with
  | some (.struct _) => true
  | some (.array _ _) => true
  | _ => false
/-- The shapes of a variable of type 't', if they are as many as its cells. -/
def shp (P : Program) (t : TypeId) : Option (List Sh) := match shapesOf P 12 t with
  | some l => match Nat.beq l.length (P.cellsOf t) with | true => some l | false => none
  | none => none
def mkVal (agg : Bool) (vs : List Value) : Value := match agg with
  | true => .agg ⟨vs⟩
  | false => match vs with | [] => undef | x :: _ => x

def fieldOf (P : Program) (s : TypeId) (f : Nat) : Option Field := match P.underlying s with
  | some (.struct fs) => fs[f]?
  | _ => none

def nthO : List Value → Nat → Option Value
  | [], _ => none
  | x :: _, 0 => some x
  | _ :: l, n + 1 => nthO l n
theorem nthO_eq : ∀ (l : List Value) (n : Nat), nthO l n = l[n]?
  | [], n => by simp [nthO]
  | x :: l, 0 => by simp [nthO]
  | x :: l, n + 1 => by simp [nthO, nthO_eq l n]

/-! ### guards -/
def ob : Option Bool → Prop → Prop
  | none, p => p
  | some g, p => g = true → p
def ancs (S : AS) : Nat → Nat → Bool → List (Nat × Bool)
  | 0, s, w => [(s, w)]
  | f + 1, s, w => (s, w) :: match look S.fr s with
    | .ifs e s' w' _ => (match Nat.beq e S.ep with | true => ancs S f s' w' | false => [])
    | _ => []
def bq : Bool → Bool → Bool
  | true, b => b
  | false, b => !b
def hasG : List (Nat × Bool) → Nat → Bool → Bool
  | [], _, _ => false
  | p :: l, s, w => match Nat.beq p.1 s && bq p.2 w with | true => true | false => hasG l s w
def pe (S : AS) (anc : List (Nat × Bool)) : AV → AV
  | .ifs e s w x => match Nat.beq e S.ep && hasG anc s w with | true => x | false => .any
  | x => x
def evA (S : AS) (anc : List (Nat × Bool)) : Operand → AV
  | .tmp t => pe S anc (look S.fr t)
  | .const x => .v x
  | .global g => .v (.pointer (some ⟨g, 0, none⟩))
  | .func f => .v (.func (.func f) #[] #[])
def gB (S : AS) : Nat → Nat → Bool → Option Bool
  | 0, _, _ => none
  | f + 1, s, w => match look S.fr s with
    | .v (.bool g) => some (bq w g)
    | .bl g => some (bq w g)
    | .ifs e s' w' x => match Nat.beq e S.ep with
      | true => (match asB x with
        | some g => (match gB S f s' w' with | some h => some (h && bq w g) | none => none)
        | none => none)
      | false => none
    | _ => none

/-- What a guard's answer, once known, tells of the values that hang on it. -/
def res (ep s : Nat) (w : Bool) : AV → AV
  | .ifs e s' w' x => match Nat.beq e ep && Nat.beq s' s with
    | true => (match bq w' w with | true => (match x with | .ifs _ _ _ _ => .any | y => y) | false => .any)
    | false => .ifs e s' w' x
  | x => x
def resF (ep s : Nat) (w : Bool) : List (Nat × AV) → List (Nat × AV)
  | [] => []
  | q :: l => (q.1, res ep s w q.2) :: resF ep s w l
def AS.assume (S : AS) (s : Nat) (w : Bool) : AS := { S with fr := (s, .bl w) :: resF S.ep s w S.fr }
/-- The two ways of a guard: 's' is 'w', or it isn't. -/
def spl : Nat → AS → Nat → Bool → (AS → Prop) → (AS → Prop) → Prop
  | 0, _, _, _, _, _ => False
  | f + 1, S, s, w, T, F => match look S.fr s with
    | .bl b => (match bq w b with | true => T S | false => F S)
    | .v (.bool g) => (bq w g = true → T (S.assume s w)) ∧ (bq w g = false → F (S.assume s (!w)))
    | .ifs e s' w' _ => (match Nat.beq e S.ep with | true => spl f S s' w' (fun S' => spl f S' s w T F) F | false => False)
    | _ => False

/-! ### what is asked of the walk: which boxes are shared, the loops' variables, which callees are quiet -/
structure LS where
  key : Nat
  vars : List (Nat × Sh)
  dead : List Nat
  cells : List (Nat × Nat × Sh)

/-- Of a region that draws its order and turns memory: the loads that may be taken first, the boxes that it writes, and whether known memory is kept for those loads. -/
structure DS where
  key : Nat
  fl : List Nat
  bl : List Nat
  pub : Bool
  rest : Bool := false

/-- Of a range over a function: the shapes of what a round is handed. -/
structure RS where
  key : Nat
  ps : List (List Sh × Bool)
def catP : List (List Sh × Bool) → List Sh
  | [] => []
  | q :: l => q.1 ++ catP l
def RS.sh (R : RS) : List Sh := catP R.ps
def findRS : List RS → Nat → Option RS
  | [], _ => none
  | R :: l, k => match Nat.beq R.key k with | true => some R | false => findRS l k
def psVals : List (List Sh × Bool) → List Value → List Value
  | [], _ => []
  | q :: l, vs => mkVal q.2 (vs.take q.1.length) :: psVals l (vs.drop q.1.length)

structure Cx where
  P : Program
  res : List ResultVar
  pub : List Nat
  loops : List LS
  quiet : List Nat
  draws : List DS := []
  /-- name each new state of memory; a test's answer is known behind it -/
  asm : Bool := false
  rfs : List RS := []

/-- What may be written. -/
structure Pro where
  n : Nat
  ok : Nat → Bool
  okb : Nat → Nat → Bool
  top : Bool := true

inductive AE where
  | normal | exit (id : Nat) | ret

def allVals : List AV → Option (List Value)
  | [] => some []
  | x :: l => match x with
    | .v y => (match allVals l with | some r => some (y :: r) | none => none)
    | .bl b => (match allVals l with | some r => some (.bool b :: r) | none => none)
    | _ => none
def cellsA : AV → Option (List AV)
  | .v (.agg cs) => some (cs.toList.map .v)
  | .v x => some [.v x]
  | .bl b => some [.bl b]
  | .loc i off => some [.loc i off]
  | .lsl i off n c => some [.lsl i off n c]
  | _ => none
/-- Is a value surely of one cell, by its form? -/
def one : Value → Bool
  | .agg _ => false
  | .tuple _ => false
  | _ => true
def oneA : AV → Bool
  | .v x => one x
  | .bl _ => true
  | .loc _ _ => true
  | .lsl _ _ _ _ => true
  | _ => false
def allOneA : List AV → Bool
  | [] => true
  | x :: l => oneA x && allOneA l
def allOne : List Value → Bool
  | [] => true
  | x :: l => one x && allOne l

def takeA (off n : Nat) (l : List AV) : List AV := (l.drop off).take n

def evAll (S : AS) (anc : List (Nat × Bool)) : List Operand → List AV
  | [] => []
  | x :: l => evA S anc x :: evAll S anc l

/-! ### operations that leave memory alone -/
/-- The cells of an owned or a known slice: nil has none. -/
def Src (H : Heap) (A : Option Addr) (cs : List Value) : Prop := cs = [] ∨ ∃ a, A = some a ∧ At H a cs
def byteVals (s : ByteArray) : List Value := s.data.toList.map fun b => .int .u8 b.toNat
/-- What the bytes of a slice are. -/
structure bytesAt (H : Heap) (A : Option Addr) (n : Nat) (s : ByteArray) : Prop where
  len : n = s.size
  src : Src H A (byteVals s)
structure bAt (s : ByteArray) (i : Int) (b : UInt8) : Prop where
  pos : 0 ≤ i
  at_ : s.data.toList[i.toNat]? = some b
/-- an array's element -/
structure arrAt (cs : List Value) (n : Nat) (ix : Int) (sz : Nat) (l : List Value) : Prop where
  pos : 0 ≤ ix
  lt : ix < n
  at_ : (cs.drop (ix.toNat * sz)).take sz = l
def beqS (a b : ByteArray) : Bool := a.toList == b.toList

def kk (k k' : IntKind) (p : Prop) : Prop := match kb k k' with | true => p | false => False

def shAmt (k : IntKind) (y : Int) : Nat := min y.toNat k.bits
def bitsI (op : BinOp) (k : IntKind) (x y : Int) : Int :=
  k.wrap (match op with
    | .and => BitVec.ofInt k.bits x &&& BitVec.ofInt k.bits y
    | .or => BitVec.ofInt k.bits x ||| BitVec.ofInt k.bits y
    | .xor => BitVec.ofInt k.bits x ^^^ BitVec.ofInt k.bits y
    | _ => BitVec.ofInt k.bits x &&& ~~~(BitVec.ofInt k.bits y)).toNat

def binInt (G : Option Bool) (op : BinOp) (k : IntKind) (x : Int) (k' : IntKind) (y : Int) (K : AV → Prop) : Prop :=
  match op with
  | .add => kk k k' (K (.v (.int k (k.wrap (x + y)))))
  | .sub => kk k k' (K (.v (.int k (k.wrap (x - y)))))
  | .mul => kk k k' (K (.v (.int k (k.wrap (x * y)))))
  | .quo => kk k k' (ob G (y ≠ 0) ∧ K (.v (.int k (k.wrap (x.tdiv y)))))
  | .rem => kk k k' (ob G (y ≠ 0) ∧ K (.v (.int k (x.tmod y))))
  | .and => kk k k' (K (.v (.int k (bitsI .and k x y))))
  | .or => kk k k' (K (.v (.int k (bitsI .or k x y))))
  | .xor => kk k k' (K (.v (.int k (bitsI .xor k x y))))
  | .andNot => kk k k' (K (.v (.int k (bitsI .andNot k x y))))
  | .shl => ob G (0 ≤ y) ∧ K (.v (.int k (k.wrap (x * 2 ^ shAmt k y))))
  | .shr => ob G (0 ≤ y) ∧ K (.v (.int k (x.fdiv (2 ^ shAmt k y))))
  | .eql => kk k k' (K (.v (.bool (x == y))))
  | .neq => kk k k' (K (.v (.bool (x != y))))
  | .lss => kk k k' (K (.v (.bool (decide (x < y)))))
  | .leq => kk k k' (K (.v (.bool (decide (x ≤ y)))))
  | .gtr => kk k k' (K (.v (.bool (decide (x > y)))))
  | .geq => kk k k' (K (.v (.bool (decide (x ≥ y)))))

def isBoolT (P : Program) (t : TypeId) : Bool := match P.underlying t with | some .bool => true | _ => false
def isPtrT (P : Program) (t : TypeId) : Bool := match P.underlying t with | some (.pointer _) => true | _ => false
def isSlT (P : Program) (t : TypeId) : Bool := match P.underlying t with | some (.slice _) => true | _ => false

/-- Two structs of plain one-cell fields: are all fields alike? -/
def eqF (P : Program) (xs ys : List Value) : List Field → Option Bool
  | [] => some true
  | f :: fs => match f.name == "_" with
    | true => none
    | false => match nthO xs f.offset, nthO ys f.offset, P.underlying f.type with
      | some (.int k a), some (.int k' b), some (.int _) => (match kb k k' with
        | true => (match eqF P xs ys fs with | some r => some ((a == b) && r) | none => none)
        | false => none)
      | some (.bool a), some (.bool b), some .bool => (match eqF P xs ys fs with | some r => some ((a == b) && r) | none => none)
      | some (.string a), some (.string b), some .string => (match eqF P xs ys fs with | some r => some (beqS a b && r) | none => none)
      | _, _, _ => none
def eqAgg (P : Program) (t : TypeId) (xs ys : Array Value) : Option Bool := match P.underlying t with
  | some (.struct fs) => match P.stoodInHeld t, P.eqGuardType P.depth t with
    | false, false => eqF P xs.toList ys.toList fs.toList
    | _, _ => none
  | _ => none

def binA (P : Program) (G : Option Bool) (op : BinOp) (t : TypeId) (x y : AV) (K : AV → Prop) : Prop :=
  match x, y with
  | .v (.int k a), .v (.int k' b) => binInt G op k a k' b K
  | .v (.string a), .v (.string b) => (match op with
    | .add => ob G (a.size + b.size ≤ 9223372036854775807) ∧ K (.v (.string (a ++ b)))
    | .eql => K (.v (.bool (beqS a b)))
    | .neq => K (.v (.bool (!beqS a b)))
    | .lss => K (.v (.bool (Op.bytesLess a.toList b.toList)))
    | _ => False)
  | .v (.pointer p), .v (.pointer none) => (match isPtrT P t with
    | true => (match op with
      | .eql => K (.v (.bool p.isNone))
      | .neq => K (.v (.bool (!p.isNone)))
      | _ => False)
    | false => False)
  | .v (.slice A _ _), .v (.slice none _ _) => (match isSlT P t with
    | true => (match op with
      | .eql => K (.v (.bool A.isNone))
      | .neq => K (.v (.bool (!A.isNone)))
      | _ => False)
    | false => False)
  | .v (.agg xs), .v (.agg ys) => (match op, eqAgg P t xs ys with
      | .eql, some b => K (.v (.bool b))
      | .neq, some b => K (.v (.bool (!b)))
      | _, _ => False)
  | x, y => (match asB x, asB y, isBoolT P t with
    | some a, some b, true => (match op with
      | .eql => K (.v (.bool (a == b)))
      | .neq => K (.v (.bool (!(a == b))))
      | _ => False)
    | _, _, _ => False)

def blC : Operand → AV → AV
  | .const (.bool b), _ => .bl b
  | _, x => x
def pickA (S : AS) (anc : List (Nat × Bool)) (c a b : Operand) (K : AV → Prop) : Prop :=
  match c with
  | .tmp s => (match pe S anc (look S.fr s) with
    | .bl true => K (blC a (evA S ((s, true) :: anc) a))
    | .bl false => K (blC b (evA S ((s, false) :: anc) b))
    | .v (.bool g) => (match a, b with
      | .const (.bool true), b => (match asB (evA S ((s, false) :: anc) b) with
        | some y => K (.v (.bool (g || y)))
        | none => False)
      | a, .const (.bool false) => (match asB (evA S ((s, true) :: anc) a) with
        | some y => K (.v (.bool (g && y)))
        | none => False)
      | _, _ => False)
    | _ => False)
  | _ => False

def canCall (P : Program) (f : FuncId) : Bool := match P.funcs[f]? with
  | some fn => match fn.body with
    | some _ => !(fn.name == "runtime.NumGoroutine")
    | none => false
  | none => false

/-- The shapes of a function's results, a list for each. -/
def resSh (P : Program) : List TypeId → Option (List Sh)
  | [] => some []
  | t :: l => match shp P t with
    | some a => (match resSh P l with | some b => some (a ++ b) | none => none)
    | none => none
def splitV (P : Program) : List TypeId → List Value → List Value
  | [], _ => []
  | t :: l, vs => mkVal (aggT P t) (vs.take (P.cellsOf t)) :: splitV P l (vs.drop (P.cellsOf t))
def mkRes (P : Program) (ts : List TypeId) (vs : List Value) : Value := match splitV P ts vs with
  | [x] => x
  | l => .tuple ⟨l⟩

/-- The function that a callee's value is, and all its arguments. -/
def target (f : AV) (args : List Value) : Option (FuncId × List Value) := match f with
  | .v (.func (.func g) first cap) => some (g, first.toList ++ args ++ cap.toList)
  | _ => none

def callQ (C : Cx) (G : Option Bool) (H : Heap) (f : FuncId) (args : List Value) (K : AV → Prop) : Prop :=
  match canCall C.P f, C.P.funcs[f]? with
  | true, some fn => (match resSh C.P fn.resultTypes.toList with
    | some l => exV l fun r => ob G (Tr C.P f ⟨args⟩ H fun v H' => v = mkRes C.P fn.resultTypes.toList (enc l r) ∧ Sub H H') ∧ K (.v (mkRes C.P fn.resultTypes.toList (enc l r)))
    | none => False)
  | _, _ => False

def bltA (P : Program) (b : Builtin) (ts : List TypeId) (xs : List AV) (K : AV → Prop) : Prop :=
  match b, ts, xs with
  | .len, t :: _, x :: _ => (match P.underlying t, x with
    | some .string, .v (.string s) => K (.v (.int .i64 s.size))
    | some (.slice _), .v (.slice _ n _) => K (.v (.int .i64 n))
    | some (.slice _), .lsl _ _ n _ => K (.v (.int .i64 n))
    | some (.array n _), _ => K (.v (.int .i64 n))
    | _, _ => False)
  | .min, _, [.v (.int k x), .v (.int _ y)] => K (.v (.int k (if y < x then y else x)))
  | .max, _, [.v (.int k x), .v (.int _ y)] => K (.v (.int k (if y > x then y else x)))
  | _, _, _ => False

def sliceA (P : Program) (G : Option Bool) (t : TypeId) (x : AV) (lo hi : Option AV) (K : AV → Prop) : Prop :=
  match P.underlying t, x, lo, hi with
  | some .string, .v (.string s), none, none => K (.v (.string (s.extract 0 s.size)))
  | some .string, .v (.string s), some (.v (.int _ l)), none => ob G (0 ≤ l ∧ l ≤ s.size) ∧ K (.v (.string (s.extract l.toNat s.size)))
  | some .string, .v (.string s), none, some (.v (.int _ h)) => ob G (0 ≤ h ∧ h ≤ s.size) ∧ K (.v (.string (s.extract 0 h.toNat)))
  | some .string, .v (.string s), some (.v (.int _ l)), some (.v (.int _ h)) => ob G (0 ≤ h ∧ h ≤ s.size ∧ 0 ≤ l ∧ l ≤ h) ∧ K (.v (.string (s.extract l.toNat h.toNat)))
  | some (.slice e), .v (.slice A n c), none, none => K (.v (.slice (if c = 0 then A else A.map (·.add (0 * P.cellsOf e))) (n - 0) (c - 0)))
  | some (.slice e), .v (.slice A n c), some (.v (.int _ l)), none => ob G (0 ≤ l ∧ l ≤ n) ∧ K (.v (.slice (if c = l.toNat then A else A.map (·.add (l.toNat * P.cellsOf e))) (n - l.toNat) (c - l.toNat)))
  | some (.slice e), .v (.slice A _ c), none, some (.v (.int _ h)) => ob G (0 ≤ h ∧ h ≤ c) ∧ K (.v (.slice (if c = 0 then A else A.map (·.add (0 * P.cellsOf e))) (h.toNat - 0) (c - 0)))
  | some (.slice e), .v (.slice A _ c), some (.v (.int _ l)), some (.v (.int _ h)) => ob G (0 ≤ h ∧ h ≤ c ∧ 0 ≤ l ∧ l ≤ h) ∧ K (.v (.slice (if c = l.toNat then A else A.map (·.add (l.toNat * P.cellsOf e))) (h.toNat - l.toNat) (c - l.toNat)))
  | _, _, _, _ => False

def sliceOk (P : Program) (t : TypeId) : Bool := match P.underlying t with
  | some (.slice e) => (P.info? e).isSome
  | _ => true

def optA (S : AS) (anc : List (Nat × Bool)) : Option Operand → Option AV
  | none => none
  | some x => some (evA S anc x)

def partsA (S : AS) (anc : List (Nat × Bool)) : List (Nat × Operand) → Option (List (Nat × Value))
  | [] => some []
  | p :: l => match evA S anc p.2, partsA S anc l with
    | .v x, some r => some ((p.1, x) :: r)
    | .bl b, some r => some ((p.1, .bool b) :: r)
    | _, _ => none

/-- The cell of a box, or its cells as one value. -/
def boxGet (agg : Bool) (l : List AV) : Option AV := match agg with
  | true => (match allVals l with | some vs => some (.v (.agg ⟨vs⟩)) | none => none)
  | false => match l with
    | [.any] => none
    | [.ifs _ _ _ _] => none
    | [x] => some x
    | _ => none

/-- A variable of type 't' at an address: of a box, or in the heap. -/
def loadA (C : Cx) (G : Option Bool) (S : AS) (a : AV) (t : TypeId) (K : AV → Prop) : Prop :=
  match a with
  | .loc i off => (match S.bx[i]?, C.P.underlying t, (C.P.info? t).isSome with
    | some l, some _, true => (match Nat.ble (off + C.P.cellsOf t) l.length, aggT C.P t || Nat.beq (C.P.cellsOf t) 1 with
      | true, true => (match boxGet (aggT C.P t) (takeA off (C.P.cellsOf t) l) with | some x => K x | none => False)
      | _, _ => False)
    | _, _, _ => False)
  | .v (.pointer (some p)) => (match shp C.P t, C.P.underlying t, (C.P.info? t).isSome with
    | some l, some _, true => (match aggT C.P t || Nat.beq (C.P.cellsOf t) 1 with
      | true => exV l fun r => ob G (At S.H p (enc l r)) ∧ K (.v (mkVal (aggT C.P t) (enc l r)))
      | false => False)
    | _, _, _ => False)
  | _ => False

def valA (C : Cx) (G : Option Bool) (S : AS) (anc : List (Nat × Bool)) (o : Oper) (K : AV → Prop) : Prop :=
  match o.op with
  | .move x => K (evA S anc x)
  | .assign x => K (evA S anc x)
  | .pick c a b => pickA S anc c a b K
  | .binOp op t x y _ => binA C.P G op t (evA S anc x) (evA S anc y) K
  | .unOp .not _ x => (match asB (evA S anc x) with | some b => K (.v (.bool (!b))) | none => False)
  | .unOp .neg _ x => (match evA S anc x with | .v (.int k n) => K (.v (.int k (k.wrap (0 - n)))) | _ => False)
  | .convert src dst x => (match C.P.underlying src, C.P.underlying dst, evA S anc x with
    | some _, some (.int k), .v (.int _ n) => K (.v (.int k (k.wrap n)))
    | some .string, some .string, .v (.string s) => K (.v (.string s))
    | some (.slice e), some .string, .v (.slice A n _) => (match C.P.underlying e with
      | some (.int .u8) => ∃ s : ByteArray, ob G (bytesAt S.H A n s) ∧ K (.v (.string s))
      | _ => False)
    | _, _, _ => False)
  | .fieldAddr s x f => (match fieldOf C.P s f with
    | some fd => (match Nat.beq (C.P.cellsOf fd.type) 0 with
      | true => False
      | false => (match evA S anc x with
        | .loc i off => K (.loc i (off + fd.offset))
        | .v (.pointer (some a)) => K (.v (.pointer (some (a.add fd.offset))))
        | _ => False))
    | none => False)
  | .field s x f => (match fieldOf C.P s f, evA S anc x with
    | some fd, .v (.agg cs) => (match aggT C.P fd.type, (C.P.info? fd.type).isSome && (C.P.underlying fd.type).isSome with
      | true, true => K (.v (.agg ⟨(cs.toList.drop fd.offset).take (C.P.cellsOf fd.type)⟩))
      | false, true => (match nthO cs.toList fd.offset with | some y => K (.v y) | none => False)
      | _, false => False)
    | _, _ => False)
  | .indexAddr t x i => (match C.P.underlying t, evA S anc x, evA S anc i with
    | some (.slice e), .v (.slice A n _), .v (.int _ ix) => (match (C.P.info? e).isSome with
      | true => ∃ a, ob G (A = some a ∧ 0 ≤ ix ∧ ix < n) ∧ K (.v (.pointer (some (a.add (ix.toNat * C.P.cellsOf e)))))
      | false => False)
    | some (.array n e), .v (.pointer (some a)), .v (.int _ ix) => (match (C.P.info? e).isSome with
      | true => ob G (0 ≤ ix ∧ ix < n) ∧ K (.v (.pointer (some (a.add (ix.toNat * C.P.cellsOf e)))))
      | false => False)
    | _, _, _ => False)
  | .index t x i => (match C.P.underlying t, evA S anc x, evA S anc i with
    | some .string, .v (.string s), .v (.int _ ix) => ∃ b : UInt8, ob G (bAt s ix b) ∧ K (.v (.int .u8 b.toNat))
    | some (.array n e), .v (.agg cs), .v (.int _ ix) => (match shp C.P e, (C.P.info? e).isSome && (C.P.underlying e).isSome, aggT C.P e || Nat.beq (C.P.cellsOf e) 1 with
      | some l, true, true => exV l fun r => ob G (arrAt cs.toList n ix (C.P.cellsOf e) (enc l r)) ∧ K (.v (mkVal (aggT C.P e) (enc l r)))
      | _, _, _ => False)
    | _, _, _ => False)
  | .slice t x lo hi none => (match sliceOk C.P t with | true => sliceA C.P G t (evA S anc x) (optA S anc lo) (optA S anc hi) K | false => False)
  | .extract x i => (match evA S anc x with
    | .v (.tuple vs) => (match nthO vs.toList i with | some y => K (.v y) | none => False)
    | _ => False)
  | .load t a => loadA C G S (evA S anc a) t K
  | .nilCheck x => (match evA S anc x with
    | .loc i off => K (.loc i off)
    | .v (.pointer p) => ∃ a, ob G (p = some a) ∧ K (.v (.pointer (some a)))
    | .v (.func (.func g) first cap) => K (.v (.func (.func g) first cap))
    | _ => False)
  | .build t ps => (match partsA S anc ps.toList with
    | some l => (match C.P.built t l with | some cs => K (.v (.agg cs)) | none => False)
    | none => False)
  | .makeFunc fn first cap => (match allVals (evAll S anc first.toList), allVals (evAll S anc cap.toList) with
    | some a, some b => K (.v (.func fn ⟨a⟩ ⟨b⟩))
    | _, _ => False)
  | .call { callee := .builtin b, args, argTypes } => bltA C.P b argTypes.toList (evAll S anc args.toList) K
  | .call { callee := .value f, args, argTypes := _ } => (match allVals (evAll S anc args.toList) with
    | some l => (match target (evA S anc f) l with
      | some (g, l') => callQ C G S.H g l' K
      | none => False)
    | none => False)
  | _ => False

/-! ### operations that make or change memory -/
def splice (c : Array Value) (off : Nat) (vs : List Value) : Array Value := (c.toList.take off ++ vs ++ c.toList.drop (off + vs.length)).toArray
def spliceL (c : List AV) (off : Nat) (l : List AV) : List AV := c.take off ++ l ++ c.drop (off + l.length)

/-- 'append': 'new' (m elements) to a slice of n elements of type 'e', each of 'sz' cells and 'by' bytes. -/
structure appC (e : TypeId) (sz bytes : Nat) (H : Heap) (A : Option Addr) (n c : Nat) (new : List Value) (m : Nat) (K : Option Addr → Nat → Nat → Heap → Prop) : Prop where
  out : ∃ old, Src H A old ∧ old.length = n * sz ∧ new.length = m * sz ∧ allOne new = true ∧ (n + m) * bytes ≤ 140737488355328 ∧ n + m ≤ 9223372036854775807 ∧
    (n + m ≤ c → (new = [] ∧ K A (n + m) c H) ∨
      ∃ a cur T, A = some a ∧ a.spot = none ∧ H a.block = some (.cells cur T (0, 0)) ∧ a.off + n * sz + new.length ≤ cur.size ∧
        K A (n + m) c (H.upd a.block (.cells (splice cur (a.off + n * sz) new) T (0, 0)))) ∧
    (c < n + m → ∀ b cap rest, H b = none → n + m ≤ cap → rest.length = (cap - (n + m)) * sz →
      K (some ⟨b, 0, none⟩) (n + m) cap (H.upd b (.cells ⟨old ++ new ++ rest⟩ e (0, 0))))
structure appS (e : TypeId) (sz bytes : Nat) (H : Heap) (A : Option Addr) (n c : Nat) (B : Option Addr) (m : Nat) (K : Option Addr → Nat → Nat → Heap → Prop) : Prop where
  out : ∃ new, Src H B new ∧ new.length = m * sz ∧ appC e sz bytes H A n c new m K


def hup (C : Cx) (H : Heap) (b : Nat) (o : Obj) (k : Heap → Prop) : Prop := match C.asm with
  | true => ∀ H1, H1 = H.upd b o → k H1
  | false => k (H.upd b o)
def known (C : Cx) (S : AS) (c : Operand) (b : Bool) : AS := match C.asm, c with
  | true, .tmp t => { S with fr := (t, .bl b) :: S.fr }
  | _, _ => S
def okCells (p : Pro) (i off : Nat) : Nat → Bool
  | 0 => true
  | n + 1 => p.okb i (off + n) && okCells p i off n

def newBox (C : Cx) (S : AS) (d t : Nat) (l : List AV) (K : AV → AS → Prop) : Prop :=
  match hasN C.pub d with
  | true => (match allVals l with
    | some vs => ∀ b, S.H b = none → hup C S.H b (.cells ⟨vs⟩ t (0, 0)) fun H1 => K (.v (.pointer (some ⟨b, 0, none⟩))) { S with H := H1 }
    | none => False)
  | false => K (.loc S.bx.length 0) { S with bx := S.bx ++ [l] }

def builtSlice (i : TypeInfo) (n : Nat) (l : List (Nat × Value)) : Option (Array Value) :=
  match i.zero with
  | some z => match Nat.ble (n * i.size) 16777216, Nat.beq (n * i.size) 0 with
    | true, false => Instr.fill (fun j => some (j * i.size, i.size)) ((Array.range (n * i.size)).map (z.cells[· % z.cells.size]!)) l
    | _, _ => none
  | none => none

def callE (C : Cx) (S : AS) (f : FuncId) (args : List Value) (K : AV → AS → Prop) : Prop :=
  match canCall C.P f, C.P.funcs[f]? with
  | true, some fn => (match resSh C.P fn.resultTypes.toList with
    | some l => Tr C.P f ⟨args⟩ S.H fun v H' => exV l fun r => v = mkRes C.P fn.resultTypes.toList (enc l r) ∧ K (.v (mkRes C.P fn.resultTypes.toList (enc l r))) { S with H := H' }
    | none => False)
  | _, _ => False

def appA (C : Cx) (S : AS) (t u : TypeId) (s x : AV) (K : AV → AS → Prop) : Prop :=
  match C.P.underlying t with
  | some (.slice e) => (match C.P.info? e with
    | some i => (match i.zero with
      | some z => (match Nat.beq z.cells.size i.size, s with
        | true, .v (.slice A n c) => (match x with
          | .lsl b off m _ => (match S.bx[b]?, Nat.beq t u with
            | some l, true => (match Nat.ble (off + m * i.size) l.length, allVals (takeA off (m * i.size) l) with
              | true, some new => appC e i.size i.bytes S.H A n c new m fun A' n' c' H' => K (.v (.slice A' n' c')) { S with H := H' }
              | _, _ => False)
            | _, _ => False)
          | .v (.slice B m _) => (match Nat.beq t u with
            | true => appS e i.size i.bytes S.H A n c B m fun A' n' c' H' => K (.v (.slice A' n' c')) { S with H := H' }
            | false => False)
          | .v (.string str) => (match C.P.underlying u, Nat.beq i.size 1 with
            | some .string, true => appC e 1 i.bytes S.H A n c (byteVals str) str.size fun A' n' c' H' => K (.v (.slice A' n' c')) { S with H := H' }
            | _, _ => False)
          | _ => False)
        | _, _ => False)
      | none => False)
    | none => False)
  | _ => False

def storeA (C : Cx) (p : Pro) (S : AS) (t : TypeId) (a x : AV) (K : AV → AS → Prop) : Prop :=
  match cellsA x, (C.P.info? t).isSome with
  | some l, true => (match Nat.beq l.length (C.P.cellsOf t), allOneA l with
    | true, true => (match a with
      | .loc i off => (match S.bx[i]? with
        | some old => (match Nat.ble (off + l.length) old.length, okCells p i off l.length with
          | true, true => K (.v undef) { S with bx := S.bx.set i (spliceL old off l) }
          | _, _ => False)
        | none => False)
      | .v (.pointer (some q)) => (match allVals l with
        | some vs => ∃ c T, S.H q.block = some (.cells c T (0, 0)) ∧ q.spot = none ∧ q.off + vs.length ≤ c.size ∧
            hup C S.H q.block (.cells (splice c q.off vs) T (0, 0)) fun H1 => K (.v undef) { S with H := H1 }
        | none => False)
      | _ => False)
    | _, _ => False)
  | _, _ => False

/-- An operation by its contract: its value's shape out of its type. -/
def semE (C : Cx) (S : AS) (t : TypeId) (s : Sem Value) (K : AV → AS → Prop) : Prop := match shp C.P t with
  | some l => Sm C.P s S.H fun v H' => exV l fun r => v = mkVal (aggT C.P t) (enc l r) ∧ K (.v (mkVal (aggT C.P t) (enc l r))) { S with H := H' }
  | none => False
def semU (C : Cx) (S : AS) (s : Sem Unit) (K : AV → AS → Prop) : Prop := Sm C.P (updU s) S.H fun _ H' => K (.v undef) { S with H := H' }
def effA (C : Cx) (p : Pro) (S : AS) (o : Oper) (K : AV → AS → Prop) : Prop :=
  match o.op with
  | .makeMap t none => ∀ b, S.H b = none → hup C S.H b (.map #[] 0) fun H1 => K (.v (.map (some b))) { S with H := H1 }
  | .makeSlice t n c => (match evA S [] n, evA S [] c with
    | .v n, .v c => semE C S t (Instr.makeSlice t n c) K
    | _, _ => False)
  | .lookup t x i ok => (match evA S [] x, evA S [] i, ok with
    | .v x, .v i, false => semE C S o.type (Instr.lookup t x i false) K
    | _, _, _ => False)
  | .mapUpdate t m k x => (match evA S [] m, evA S [] k, allVals [evA S [] x] with
    | .v m, .v k, some [x] => semU C S (Instr.mapUpdate t m k x) K
    | _, _, _ => False)
  | .insert t m k x => (match evA S [] m, evA S [] k, allVals [evA S [] x] with
    | .v m, .v k, some [x] => semU C S (Instr.mapUpdate t m k x) K
    | _, _, _ => False)
  | .call { callee := .builtin .copy, args, argTypes } => (match allVals (evAll S [] args.toList) with
    | some l => semE C S o.type (Builtin.copy_ argTypes o.type ⟨l⟩) K
    | none => False)
  | .box t x => (match o.dst, cellsA (evA S [] x) with
    | some d, some l => newBox C S d t l K
    | _, _ => False)
  | .alloc t => (match o.dst, C.P.info? t with
    | some d, some i => (match i.zero with | some z => newBox C S d t (z.cells.toList.map .v) K | none => False)
    | _, _ => False)
  | .store t a x => storeA C p S t (evA S [] a) (evA S [] x) K
  | .buildSlice t n ps => (match o.dst, C.P.underlying t with
    | some d, some (.slice e) => (match C.P.info? e, partsA S [] ps.toList with
      | some i, some l => (match builtSlice i n l with
        | some cs => (match hasN C.pub d with
          | true => ∀ b, S.H b = none → hup C S.H b (.cells cs e (0, 0)) fun H1 => K (.v (.slice (some ⟨b, 0, none⟩) n n)) { S with H := H1 }
          | false => K (.lsl S.bx.length 0 n n) { S with bx := S.bx ++ [cs.toList.map .v] })
        | none => False)
      | _, _ => False)
    | _, _ => False)
  | .call { callee := .builtin .append, args, argTypes } => (match args.toList, argTypes.toList with
    | [s, x], [t, u] => appA C S t u (evA S [] s) (evA S [] x) K
    | _, _ => False)
  | .call { callee := .value f, args, argTypes := _ } => (match allVals (evAll S [] args.toList) with
    | some l => (match target (evA S [] f) l with
      | some (g, l') => callE C S g l' K
      | none => False)
    | none => False)
  | _ => False

def isEff (C : Cx) (o : Oper) : Bool :=
  match o.op with
  | .box _ _ | .alloc _ | .store _ _ _ | .buildSlice _ _ _ => true
  | .makeMap _ none | .makeSlice _ _ _ | .lookup _ _ _ _ | .mapUpdate _ _ _ _ | .insert _ _ _ _ => true
  | .call { callee := .builtin .copy, .. } => true
  | .call { callee := .builtin .append, .. } => true
  | .call { callee := .builtin _, .. } => false
  | .call { callee := .value (.func g), .. } => !hasN C.quiet g
  | .call _ => true
  | _ => false

/-! ### regions and code -/
def dstAt : List Oper → Nat → Option Nat
  | [], _ => none
  | o :: _, 0 => o.dst
  | _ :: l, n + 1 => dstAt l n
def noI : AV → AV
  | .ifs _ _ _ _ => .any
  | x => x
def finish (p : Pro) (o : Oper) (x : AV) (S : AS) (K : AS → Prop) : Prop :=
  match o.dst with
  | none => K S
  | some d => match p.ok d && !(hasN S.gs d) with | true => K (S.put d (noI x)) | false => False
def finishG (p : Pro) (s : Nat) (w : Bool) (o : Oper) (x : AV) (S : AS) (K : AS → Prop) : Prop :=
  match o.dst with
  | none => False
  | some d => match p.ok d && !(hasN (s :: S.gs) d) with | true => K { S with fr := (d, .ifs S.ep s w x) :: S.fr, gs := s :: S.gs } | false => False
/-- a guarded operation that turns memory: no store (what a store may turn is asked ahead) -/
def gOk (o : Oper) : Bool := match o.op with | .store _ _ _ => false | _ => true
def vcRun (C : Cx) (p : Pro) (anc : List (Nat × Bool)) (o : Oper) (K : AS → Prop) (S : AS) : Prop := match isEff C o with
  | true => effA C p S o fun x S' => finish p o x S' K
  | false => valA C none S anc o fun x => finish p o x S K
def vcOp (C : Cx) (p : Pro) (ops : List Oper) (o : Oper) (K : AS → Prop) (S : AS) : Prop :=
  match o.guard with
  | none => vcRun C p [] o K S
  | some jw => (match dstAt ops jw.1 with
    | some s => (match look S.fr s with
      | .bl b => (match bq jw.2 b with
        | true => vcRun C p (ancs S 8 s jw.2) o K S
        | false => finish p o .any S K)
      | _ => (match isEff C o, gOk o with
        | false, _ => valA C (gB S 8 s jw.2) S (ancs S 8 s jw.2) o fun x => finishG p s jw.2 o x S K
        | true, true => spl 4 S s jw.2 (fun S' => effA C p S' o fun x S'' => finish p o x S'' K) fun S' => finish p o .any S' K
        | true, false => False))
    | none => False)
def noDefer (o : Oper) : Bool := match o.op with | .defer _ => false | _ => true
def noDefs : List Oper → Bool
  | [] => true
  | o :: l => noDefer o && noDefs l
def vcOps (C : Cx) (p : Pro) (ops : List Oper) : List Oper → (AS → Prop) → AS → Prop
  | [], K, S => K S
  | o :: l, K, S => vcOp C p ops o (vcOps C p ops l K) S
def noEff (C : Cx) : List Oper → Bool
  | [] => true
  | o :: l => !(isEff C o) && noEff C l

def keyOf : Code → Option Nat
  | .region id _ _ => some id
  | .seq a b => match keyOf a with | some k => some k | none => keyOf b
  | .cond _ a b => match keyOf a with | some k => some k | none => keyOf b
  | .block _ b => keyOf b
  | .loop b => keyOf b
  | .scope b => keyOf b
  | _ => none
def findLS : List LS → Nat → Option LS
  | [], _ => none
  | L :: l, k => match Nat.beq L.key k with | true => some L | false => findLS l k

def thenA (K : AS → Prop) (Q : AE → AS → Prop) : AE → AS → Prop
  | .normal, S => K S
  | e, S => Q e S
def blockA (id : Nat) (Q : AE → AS → Prop) : AE → AS → Prop
  | .exit i, S => match Nat.beq i id with | true => Q .normal S | false => Q (.exit i) S
  | e, S => Q e S

def LS.shapes (L : LS) : List Sh := L.vars.map (·.2) ++ L.cells.map (·.2.2)
def cellAt (bx : List (List AV)) (i j : Nat) : AV := match bx[i]? with
  | some l => match l[j]? with | some x => x | none => .any
  | none => .any
def LS.read (L : LS) (S : AS) : List AV := L.vars.map (fun q => look S.fr q.1) ++ L.cells.map (fun q => cellAt S.bx q.1 q.2.1)
def zipF : List (Nat × Sh) → List Value → List (Nat × AV)
  | [], _ => []
  | q :: l, [] => (q.1, .any) :: zipF l []
  | q :: l, x :: xs => (q.1, .v x) :: zipF l xs
def setCell (bx : List (List AV)) (i j : Nat) (x : AV) : List (List AV) := bx.modify i fun l => l.set j x
def setCells : List (List AV) → List (Nat × Nat × Sh) → List Value → List (List AV)
  | bx, [], _ => bx
  | bx, q :: l, [] => setCells (setCell bx q.1 q.2.1 .any) l []
  | bx, q :: l, x :: xs => setCells (setCell bx q.1 q.2.1 (.v x)) l xs
def LS.head (L : LS) (S : AS) (vs : List Value) (H : Heap) : AS :=
  { fr := zipF L.vars vs ++ (L.dead.map fun d => (d, AV.any)) ++ S.fr
    bx := setCells S.bx L.cells (vs.drop L.vars.length)
    H := H, ep := S.ep + 1, gs := [] }
def hasC : List (Nat × Nat × Sh) → Nat → Nat → Bool
  | [], _, _ => false
  | q :: l, i, j => match Nat.beq q.1 i && Nat.beq q.2.1 j with | true => true | false => hasC l i j
def LS.slots (L : LS) : List Nat := L.vars.map (·.1) ++ L.dead
def LS.pro (L : LS) (p : Pro) (k : Nat) : Pro :=
  { n := p.n, ok := fun d => hasN L.slots d, okb := fun i j => Nat.ble k i || hasC L.cells i j, top := false }
def allOk (p : Pro) : List Nat → Bool
  | [] => true
  | d :: l => p.ok d && allOk p l
def allOkb (p : Pro) (k : Nat) : List (Nat × Nat × Sh) → Bool
  | [] => true
  | q :: l => p.okb q.1 q.2.1 && Nat.blt q.1 k && allOkb p k l

def drawOk (P : Program) (ops : Array Oper) : Bool := P.follows .mixedOrders && Region.lexB .any ops

/-! ### regions that draw their order and turn memory -/
def getDS : List DS → Nat → DS
  | [], k => ⟨k, [], [], false, false⟩
  | d :: l, k => match Nat.beq d.key k with | true => d | false => getDS l k
def blankB (D : List Nat) : Nat → List (List AV) → List (List AV)
  | _, [] => []
  | k, l :: r => (match hasN D k with | true => l.map fun _ => .any | false => l) :: blankB D (k + 1) r
def loadO (C : Cx) (o : Oper) : Bool := match o.op with
  | .load _ _ => true
  | .convert src _ _ => isSlT C.P src
  | _ => false
def callO (o : Oper) : Bool := match o.op with
  | .call { callee := .builtin _, .. } => false
  | .call _ => true
  | _ => false
def pickN (f : Nat → Bool) : List Nat → Option Nat
  | [] => none
  | i :: l => match f i with | true => some i | false => pickN f l
def nthL : List Oper → Nat → Option Oper
  | [], _ => none
  | o :: _, 0 => some o
  | _ :: l, n + 1 => nthL l n
def mayFirst (ops : Array Oper) (listed : Array Bool) (i : Nat) : Bool := Region.free .any ops listed i && (Region.ready .any ops listed).contains i && Region.noSelect ops
def pureAt (C : Cx) (ops : Array Oper) (listed : Array Bool) (i : Nat) : Bool := match nthL ops.toList i with
  | some o => !isEff C o && !loadO C o && !callO o && mayFirst ops listed i
  | none => false
def loadAt (C : Cx) (d : DS) (ops : Array Oper) (listed : Array Bool) (i : Nat) : Bool := match nthL ops.toList i with
  | some o => hasN d.fl i && !isEff C o && !callO o && mayFirst ops listed i
  | none => false
def storeOk (bl : List Nat) (n0 : Nat) (S : AS) (o : Oper) : Bool := match o.op with
  | .store _ a _ => (match evA S [] a with | .loc i _ => hasN bl i || Nat.ble n0 i | _ => true)
  | _ => true
def subIf (pub : Bool) (Hs H : Heap) (q : Prop) : Prop := match pub with | true => Sub Hs H ∧ q | false => q
def allI : List Nat → (Nat → Prop) → Prop
  | [], _ => True
  | i :: l, q => match l with | [] => q i | _ => q i ∧ allI l q
/-- nothing that is left turns memory: the rest goes by one order -/
def restL (C : Cx) : List Oper → List Bool → Bool
  | o :: l, b :: bs => (b || !isEff C o) && restL C l bs
  | _, _ => true
def canRest (ops : Array Oper) : Nat → Array Bool → Bool
  | 0, listed => match Region.ready .any ops listed with | [] => true | _ => false
  | fuel + 1, listed => match Region.ready .any ops listed with
    | [] => true
    | r :: rs => match pickN (mayFirst ops listed) (r :: rs) with
      | some i => canRest ops fuel (listed.setIfInBounds i true)
      | none => false
def vcRest (C : Cx) (p : Pro) (ops : Array Oper) (K : AS → Prop) : Nat → Array Bool → AS → Prop
  | 0, listed, S => match Region.ready .any ops listed with | [] => K S | _ => False
  | fuel + 1, listed, S => match Region.ready .any ops listed with
    | [] => K S
    | r :: rs => match pickN (mayFirst ops listed) (r :: rs) with
      | some i => (match nthL ops.toList i with
        | some o => vcOp C p ops.toList o (fun S' => vcRest C p ops K fuel (listed.setIfInBounds i true) S') S
        | none => False)
      | none => False
def vcAny (C : Cx) (p : Pro) (ops : Array Oper) (d : DS) (Hs : Heap) (n0 : Nat) (K : AS → Prop) : Nat → Bool → Array Bool → AS → Prop
  | 0, _, listed, S => match Region.ready .any ops listed with | [] => K S | _ => False
  | fuel + 1, ph, listed, S => match Region.ready .any ops listed with
    | [] => K S
    | r :: rs => match d.rest && restL C ops.toList listed.toList && canRest ops (fuel + 1) listed with
     | true => vcRest C p ops K (fuel + 1) listed S
     | false => match pickN (pureAt C ops listed) (r :: rs) with
      | some i => (match nthL ops.toList i with
        | some o => vcOp C p ops.toList o (fun S' => vcAny C p ops d Hs n0 K fuel ph (listed.setIfInBounds i true) S') S
        | none => False)
      | none => match ph, pickN (loadAt C d ops listed) (r :: rs) with
        | true, some i => (match nthL ops.toList i with
          | some o => vcOp C p ops.toList o (fun S' => vcAny C p ops d Hs n0 K fuel true (listed.setIfInBounds i true) { S' with bx := S.bx, H := S.H }) { S with bx := blankB d.bl 0 S.bx, H := Hs }
          | none => False)
        | _, _ => allI (r :: rs) fun i => match nthL ops.toList i with
          | some o => (match storeOk d.bl n0 S o with
            | true => vcOp C p ops.toList o (fun S' => subIf d.pub Hs S'.H (vcAny C p ops d Hs n0 K fuel false (listed.setIfInBounds i true) S')) S
            | false => False)
          | none => False
def vcDraw (C : Cx) (p : Pro) (ops : Array Oper) (d : DS) (K : AS → Prop) (S : AS) : Prop :=
  match C.P.follows .mixedOrders, d.pub with
  | true, true => ∃ Hs, Sub Hs S.H ∧ vcAny C p ops d Hs S.bx.length K ops.size true (Array.replicate ops.size false) S
  | true, false => vcAny C p ops d (fun _ => none) S.bx.length K ops.size true (Array.replicate ops.size false) S
  | false, _ => False

/-! ### a range over a function -/
def putPs : List Nat → List Value → List (Nat × AV) → List (Nat × AV)
  | t :: ts, v :: vs, fr => putPs ts vs ((t, .v v) :: fr)
  | _, _, fr => fr
def ltAll (n : Nat) : List Nat → Bool
  | [] => true
  | t :: l => Nat.blt t n && ltAll n l
def LS.rpro (L : LS) (p : Pro) (k : Nat) : Pro := { n := p.n, ok := fun d => Nat.blt d p.n, okb := fun i j => Nat.ble k i || hasC L.cells i j, top := false }
def LS.rhead (L : LS) (S : AS) (ps : List Nat) (vals vs : List Value) (H : Heap) : AS :=
  { fr := putPs ps vals S.fr
    bx := setCells S.bx L.cells (vs.drop L.vars.length)
    H := H, ep := S.ep + 1, gs := [] }
def LS.rQ (L : LS) (S : AS) (HI : Heap) (R : V L.shapes → Heap → Prop) (Q : AE → AS → Prop) : AE → AS → Prop
  | .normal, S' => match getV L.shapes (L.read S') with
    | some v' => R v' (cutN S.H S'.H) ∧ Sub HI S'.H
    | none => False
  | e, S' => match getV L.shapes (L.read S') with
    | some v' => Q e (L.head S (enc L.shapes v') (cutN S.H S'.H))
    | none => False

def vc (C : Cx) : Code → Pro → (AE → AS → Prop) → AS → Prop
  | .skip, _, Q, S => Q .normal S
  | .label _, _, Q, S => Q .normal S
  | .region id ops d, p, Q, S => (match noDefs ops.toList, d with
    | false, _ => False
    | true, false => vcOps C p ops.toList ops.toList (Q .normal) S.enter
    | true, true => (match noEff C ops.toList && drawOk C.P ops with
      | true => vcOps C p ops.toList ops.toList (Q .normal) S.enter
      | false => vcDraw C p ops (getDS C.draws id) (Q .normal) S.enter))
  | .seq x y, p, Q, S => vc C x p (thenA (fun S' => vc C y p Q S') Q) S
  | .cond c x y, p, Q, S => (match evA S [] c with
    | .bl true => vc C x p Q S
    | .bl false => vc C y p Q S
    | .v (.bool g) => (g = true → vc C x p Q (known C S c true)) ∧ (g = false → vc C y p Q (known C S c false))
    | _ => False)
  | .block id b, p, Q, S => vc C b p (blockA id Q) S
  | .scope b, p, Q, S => vc C b p Q S
  | .exit id, _, Q, S => Q (.exit id) S
  | .ret, _, Q, S => Q .ret S
  | .loop b, p, Q, S => (match keyOf b with
    | some k => (match findLS C.loops k with
      | some L => (match allOk p L.slots && allOkb p S.bx.length L.cells, getV L.shapes (L.read S) with
        | true, some v0 => ∃ (Rel : CurT (Heap → Prop) L.shapes) (mu : CurT (Heap → Nat) L.shapes), unc _ L.shapes Rel v0 S.H ∧
            allV L.shapes fun v => ∀ H, unc _ L.shapes Rel v H →
              vc C b (L.pro p S.bx.length) (thenA (fun S' => match getV L.shapes (L.read S') with
                | some v' => unc _ L.shapes Rel v' S'.H ∧ unc _ L.shapes mu v' S'.H < unc _ L.shapes mu v H
                | none => False) Q) (L.head S (enc L.shapes v) H)
        | _, _ => False)
      | none => False)
    | none => False)
  | .rangeFunc f ps x y, p, Q, S => (match p.top, evA S [] f, keyOf y with
    | true, .v fv, some k => (match findLS C.loops k, findRS C.rfs k with
      | some L, some R => (match L.vars, L.dead, getV L.shapes (L.read S), Nat.beq R.ps.length ps.toList.length && allOkb p S.bx.length L.cells && ltAll p.n ps.toList with
        | [], [], some v0, true => ∃ (g : Nat) (caps : List Value), (fv = .func (.func g) #[] ⟨caps⟩ ∧ canCall C.P g = true) ∧
          ∃ (HI : Heap) (m : Nat) (E : Nat → V R.sh) (ys : List Nat), Sub HI S.H ∧ It C.P g caps HI m (fun i => psVals R.ps (enc R.sh (E i))) ys ∧
            ∃ Rel : List Nat → CurT (Heap → Prop) L.shapes, unc _ L.shapes (Rel []) v0 S.H ∧
              (∀ (pre : List Nat) (i : Nat), i < m → pre.length < ys.length → allV L.shapes fun v => ∀ H, unc _ L.shapes (Rel pre) v H → Sub HI H → NCs S.H H → allV R.sh fun r => E i = r →
                vc C x (L.rpro p S.bx.length) (thenA (fun S1 => (NCs S.H S1.H ∧ Sub HI S1.H) ∧ vc C y (L.rpro p S.bx.length) (L.rQ S HI (unc _ L.shapes (Rel (pre ++ [i]))) fun e S' => List.IsPrefix (pre ++ [i]) ys → Q e S') S1) fun _ _ => False)
                  (L.rhead S ps.toList (psVals R.ps (enc R.sh r)) (enc L.shapes v) H)) ∧
              allV L.shapes fun v => ∀ H, unc _ L.shapes (Rel ys) v H → NCs S.H H → Q .normal (L.head S (enc L.shapes v) H)
        | _, _, _, _ => False)
      | _, _ => False)
    | _, _, _ => False)
  | _, _, _, _ => False

def retVal (C : Cx) (S : AS) : List ResultVar → (List Value → Prop) → Prop
  | [], K => K []
  | .tmp t :: l, K => (match look S.fr t with
    | .v x => retVal C S l fun r => K (x :: r)
    | .bl b => retVal C S l fun r => K (.bool b :: r)
    | _ => False)
  | .cell a t :: l, K => loadA C none S (pe S [] (look S.fr a)) t fun x => match x with
    | .v x => retVal C S l fun r => K (x :: r)
    | .bl b => retVal C S l fun r => K (.bool b :: r)
    | _ => False
def retA (C : Cx) (K : Value → Heap → Prop) : AE → AS → Prop
  | .exit _, _ => False
  | _, S => retVal C S C.res fun vs => K (match vs with | [x] => x | l => .tuple ⟨l⟩) S.H
def args0 : Nat → List Value → List (Nat × AV)
  | _, [] => []
  | k, x :: l => (k, .v x) :: args0 (k + 1) l
def pro0 (n : Nat) : Pro := { n := n, ok := fun d => Nat.blt d n, okb := fun _ _ => true }
/-- The whole of a function: the formula that its code makes of its arguments, a fragment of the heap, and what is wanted of its value. -/
def vcFn (C : Cx) (fn : Func) (args : List Value) (H : Heap) (K : Value → Heap → Prop) : Prop :=
  match fn.body, Nat.ble args.length fn.ntmps with
  | some c, true => vc { C with res := fn.results.toList } c (pro0 fn.ntmps) (retA { C with res := fn.results.toList } K) { fr := args0 0 args, bx := [], H := H, ep := 0, gs := [] }
  | _, _ => False

end Go.Ax
