/- Programs as data, and the document's rules on them: what lies in memory, what is asked of a program. Conditions: none; definitions and small facts. -/
import Derived.Test.YtanahoejlnmfiaaAxM
set_option maxRecDepth 100000
namespace Go.Ax

structure O where
  (queue start close total beat first num den most tries never : Int)
def O.cells (o : O) : List Value := [.int .i64 o.queue, .int .i64 o.start, .int .i64 o.close, .int .i64 o.total, .int .i64 o.beat, .int .i64 o.first, .int .i64 o.num, .int .i64 o.den, .int .i64 o.most, .int .i64 o.tries, .int .i64 o.never]
abbrev O.val (o : O) : Value := .agg #[.int .i64 o.queue, .int .i64 o.start, .int .i64 o.close, .int .i64 o.total, .int .i64 o.beat, .int .i64 o.first, .int .i64 o.num, .int .i64 o.den, .int .i64 o.most, .int .i64 o.tries, .int .i64 o.never]
/-! ### programs as data -/
structure Fnc where
  kind : Int
  name : Int
  ops : List (Int × Int)
structure Prg where
  funcs : List Fnc
  opts : List O
structure HasOps (H : Heap) (A : Option Addr) (n : Nat) (l : List (Int × Int)) : Prop where
  len : n = l.length
  big : n ≤ 9223372036854775807
  at_ : ∀ i c x, l[i]? = some (c, x) → ∃ a, A = some a ∧ At H (a.add (i * 2)) [.int .i64 c, .int .i64 x]
structure HasFns (H : Heap) (A : Option Addr) (n : Nat) (l : List Fnc) : Prop where
  len : n = l.length
  big : n ≤ 9223372036854775807
  at_ : ∀ i f, l[i]? = some f → ∃ a B m c, A = some a ∧ At H (a.add (i * 3)) [.int .i64 f.kind, .int .i64 f.name, .slice B m c] ∧ HasOps H B m f.ops
structure HasOpts (H : Heap) (A : Option Addr) (n : Nat) (l : List O) : Prop where
  len : n = l.length
  big : n ≤ 9223372036854775807
  at_ : ∀ i o, l[i]? = some o → ∃ a, A = some a ∧ At H (a.add (i * 11)) o.cells
structure HasP (H : Heap) (fA : Option Addr) (fn : Nat) (oA : Option Addr) (on : Nat) (p : Prg) : Prop where
  fns : HasFns H fA fn p.funcs
  opts : HasOpts H oA on p.opts
theorem HasOps.sub {H H' : Heap} {A : Option Addr} {n : Nat} {l : List (Int × Int)} (h : HasOps H A n l) (k : Sub H H') : HasOps H' A n l :=
  ⟨h.len, h.big, fun i c x e => let ⟨a, ha, hat⟩ := h.at_ i c x e; ⟨a, ha, hat.sub k⟩⟩
theorem HasFns.sub {H H' : Heap} {A : Option Addr} {n : Nat} {l : List Fnc} (h : HasFns H A n l) (k : Sub H H') : HasFns H' A n l :=
  ⟨h.len, h.big, fun i f e => let ⟨a, B, m, c, ha, hat, ho⟩ := h.at_ i f e; ⟨a, B, m, c, ha, hat.sub k, ho.sub k⟩⟩
theorem HasOpts.sub {H H' : Heap} {A : Option Addr} {n : Nat} {l : List O} (h : HasOpts H A n l) (k : Sub H H') : HasOpts H' A n l :=
  ⟨h.len, h.big, fun i c e => let ⟨a, ha, hat⟩ := h.at_ i c e; ⟨a, ha, hat.sub k⟩⟩
theorem HasP.sub {H H' : Heap} {fA oA : Option Addr} {fn on : Nat} {p : Prg} (h : HasP H fA fn oA on p) (k : Sub H H') : HasP H' fA fn oA on p := ⟨h.fns.sub k, h.opts.sub k⟩
/-! ### the document's rules -/
def opd (op : Int) : Bool := op == 0 || op == 13 || op == 14 || op == 15 || op == 16 || op == 20 || op == 22 || op == 25 || op == 26 || op == 27 || op == 33 || op == 34
def pureB (op : Int) : Bool := decide (op ≥ 0) && decide (op ≤ 15) || op == 17 || op == 18 || op == 26 || op == 36 || op == 37
def mostB (nf no k : Nat) (op : Int) : Int :=
  if op = 0 then -1 else if op = 13 ∨ op = 14 then k else if op = 15 ∨ op = 16 then 16 else if op = 20 then no else
  if op = 22 ∨ op = 25 ∨ op = 26 ∨ op = 34 then 8 else if op = 27 then nf else if op = 33 then 4 else 0
def smallB (x : Int) : Bool := !(decide (x < 0) || decide (x > 1048576))
def okO (o : O) : Bool := smallB o.start && smallB o.close && smallB o.total && smallB o.beat && smallB o.first && smallB o.most &&
  (decide (o.queue ≥ 0) && decide (o.queue < 8) && decide (o.den ≥ 1) && decide (o.den ≤ 1000) && decide (o.num ≥ o.den) && decide (o.num ≤ 1000) && decide (o.tries ≥ 0) && decide (o.tries ≤ 1000))
def Prg.find (p : Prg) (kind name : Int) : Int := match scan p.funcs.length (fun j => match p.funcs[j]? with | some g => if (g.kind == kind && g.name == name) = true then some (j : Int) else none | none => none) with
  | some j => j | none => -1
def Prg.clash (p : Prg) (f : Fnc) (j : Nat) : Option Unit := match p.funcs[j]? with
  | some g => if (decide (f.kind ≥ 2) && g.kind == f.kind && g.name == f.name) = true then some () else none
  | none => none
def Prg.named (p : Prg) (i : Nat) (f : Fnc) : Bool :=
  if (decide (f.kind < 0) || decide (f.kind > 4) || f.kind == 0 && (i : Int) != 0 || f.kind != 0 && (i : Int) == 0) = true then false else
  if (decide (f.kind < 2) && f.name != 0 || decide (f.name < 0) || decide (f.name > 7)) = true then false else
  match scan i (p.clash f) with
  | some _ => false
  | none => if (f.kind == 4 && decide (p.find 3 f.name < 0)) = true then false else (decide ((f.ops.length : Int) ≥ 1) && decide ((f.ops.length : Int) ≤ 128))
def Prg.kindAt (p : Prg) (a : Int) : Int := match p.funcs[a.toNat]? with | some g => g.kind | none => 0
def Prg.right (p : Prg) (i : Nat) (f : Fnc) (k : Nat) (c a : Int) : Bool :=
  if (decide (c < 0) || decide (c > 37)) = true then false else
  if (!opd c && a != 0 || opd c && decide (mostB p.funcs.length p.opts.length f.ops.length c ≥ 0) && (decide (a < 0) || decide (a ≥ mostB p.funcs.length p.opts.length f.ops.length c))) = true then false else
  if (c == 27 && p.kindAt a != 1) = true then false else
  if ((f.kind == 2 || f.kind == 4) && !pureB c || c == 35 && (i : Int) != 0) = true then false else
  (decide ((k : Int) < (f.ops.length : Int) - 1) || (c == 13 || c == 35 || c == 36 || c == 37))
def Prg.badOpt (p : Prg) (k : Nat) : Option (Int × Int × Int) := match p.opts[k]? with
  | some o => if okO o = true then none else some (40, -1, k)
  | none => none
def Prg.badOp (p : Prg) (i : Nat) (f : Fnc) (k : Nat) : Option (Int × Int × Int) := match f.ops[k]? with
  | some (c, a) => if p.right i f k c a = true then none else some (40, i, k)
  | none => none
def Prg.badFn (p : Prg) (i : Nat) : Option (Int × Int × Int) := match p.funcs[i]? with
  | some f => if p.named i f = true then scan f.ops.length (p.badOp i f) else some (40, i, -1)
  | none => none
def Prg.check (p : Prg) : Int × Int × Int :=
  if ((p.funcs.length : Int) == 0 || decide ((p.funcs.length : Int) > 16) || decide ((p.opts.length : Int) > 8)) = true then (40, -1, -1) else
  match scan p.opts.length p.badOpt with
  | some r => r
  | none => match scan p.funcs.length p.badFn with
    | some r => r
    | none => (0, 0, 0)

theorem not_smallB {x : Int} : (decide (x < 0) || decide (x > 1048576)) = !smallB x := by unfold smallB; simp
def O.six (o : O) : List Int := [o.start, o.close, o.total, o.beat, o.first, o.most]
/-- a loop that looks for the first answer -/
structure RSc {α : Type} (H : Heap) (n : Nat) (g : Nat → Option α) (i : Int) (H1 : Heap) : Prop where
  heap : H1 = H
  k : ∃ k : Nat, i = k ∧ k ≤ n ∧ ∀ j, j < k → g j = none
theorem RSc.zero {α : Type} {H : Heap} {n : Nat} {g : Nat → Option α} : RSc H n g 0 H := ⟨rfl, 0, rfl, Nat.zero_le _, fun j hj => absurd hj (by omega)⟩
theorem RSc.next {α : Type} {H H1 : Heap} {n : Nat} {g : Nat → Option α} {i : Int} {k : Nat} (r : RSc H n g i H1) (hi : i = k) (hk : k < n) (hn : n ≤ 9223372036854775807) (e : g k = none) :
    RSc H n g (IntKind.i64.wrap (i + 1)) H1 ∧ ((n : Int) - IntKind.i64.wrap (i + 1)).toNat < ((n : Int) - i).toNat := by
  obtain ⟨k', hk', _, hs⟩ := r.k
  have : k' = k := by omega
  subst this
  rw [wrapi (x := i + 1) (by omega) (by omega)]
  refine ⟨⟨r.heap, k' + 1, by omega, by omega, fun j hj => ?_⟩, by omega⟩
  by_cases h : j = k'
  · subst h; exact e
  · exact hs j (by omega)

def Prg.hit (p : Prg) (kind name : Int) (j : Nat) : Option Int := match p.funcs[j]? with | some g => if (g.kind == kind && g.name == name) = true then some (j : Int) else none | none => none
theorem find_eq (p : Prg) (kind name : Int) : p.find kind name = match scan p.funcs.length (p.hit kind name) with | some j => j | none => -1 := rfl
theorem Heap.upd_eq {H : Heap} {b : Nat} {o : Obj} (h : H b = some o) : H.upd b o = H := by
  funext i
  by_cases e : i = b
  · subst e; rw [Heap.upd_same, h]
  · rw [Heap.upd_other e]
end Go.Ax
