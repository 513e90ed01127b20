/- Code: programs as data; the contracts of the document's Operand, Pure, most, right, options, Find, named, Check. Conditions: the program lies in memory as 'HasP' says. -/
import Derived.Test.YtanahoejlnmfiaaT2
import Derived.Test.YtanahoejlnmfiaaV2
set_option maxRecDepth 100000
namespace Go.Proofs.Ytanahoejlnmfiaa
open Go.Ax

theorem at_new {H : Heap} {b : Nat} {c : Array Value} {t : TypeId} {fz : Nat × Nat} {k : Nat} {cs : List Value} (h : ∀ j v, cs[j]? = some v → c[k + j]? = some v) :
    At (H.upd b (.cells c t fz)) (({ block := b, off := 0 } : Addr).add k) cs := by
  refine ⟨⟨c, t, fz, ?_, ?_, fun j v hv => ?_⟩⟩
  · have : (({ block := b, off := 0 } : Addr).add k).block = b := by unfold Addr.add; split <;> rfl
    rw [this]; exact Heap.upd_same
  · unfold Addr.add; split <;> rfl
  · have : (({ block := b, off := 0 } : Addr).add k).off = k := by
      unfold Addr.add; split
      · rename_i e; exact e.symm
      · simp
    rw [this]; exact h j v hv

/-! ### programs as data -/
structure Fn where
  kind : Int
  name : Int
  ops : List (Int × Int)
structure Prg where
  funcs : List Fn
  opts : List O
structure HasOps (H : Heap) (A : Option Addr) (n : Nat) (l : List (Int × Int)) : Prop where
  len : n = l.length
  big : n ≤ 9223372036854775807
  at_ : ∀ i c x, l[i]? = some (c, x) → ∃ a, A = some a ∧ At H (a.add (i * 2)) [.int .i64 c, .int .i64 x]
structure HasFns (H : Heap) (A : Option Addr) (n : Nat) (l : List Fn) : Prop where
  len : n = l.length
  big : n ≤ 9223372036854775807
  at_ : ∀ i f, l[i]? = some f → ∃ a B m c, A = some a ∧ At H (a.add (i * 3)) [.int .i64 f.kind, .int .i64 f.name, .slice B m c] ∧ HasOps H B m f.ops
structure HasOpts (H : Heap) (A : Option Addr) (n : Nat) (l : List O) : Prop where
  len : n = l.length
  big : n ≤ 9223372036854775807
  at_ : ∀ i o, l[i]? = some o → ∃ a, A = some a ∧ At H (a.add (i * 11)) o.cells
structure HasP (H : Heap) (fA : Option Addr) (fn : Nat) (oA : Option Addr) (on : Nat) (p : Prg) : Prop where
  fns : HasFns H fA fn p.funcs
  opts : HasOpts H oA on p.opts
theorem HasOps.sub {H H' : Heap} {A : Option Addr} {n : Nat} {l : List (Int × Int)} (h : HasOps H A n l) (k : Sub H H') : HasOps H' A n l :=
  ⟨h.len, h.big, fun i c x e => let ⟨a, ha, hat⟩ := h.at_ i c x e; ⟨a, ha, hat.sub k⟩⟩
theorem HasFns.sub {H H' : Heap} {A : Option Addr} {n : Nat} {l : List Fn} (h : HasFns H A n l) (k : Sub H H') : HasFns H' A n l :=
  ⟨h.len, h.big, fun i f e => let ⟨a, B, m, c, ha, hat, ho⟩ := h.at_ i f e; ⟨a, B, m, c, ha, hat.sub k, ho.sub k⟩⟩
theorem HasOpts.sub {H H' : Heap} {A : Option Addr} {n : Nat} {l : List O} (h : HasOpts H A n l) (k : Sub H H') : HasOpts H' A n l :=
  ⟨h.len, h.big, fun i c e => let ⟨a, ha, hat⟩ := h.at_ i c e; ⟨a, ha, hat.sub k⟩⟩
theorem HasP.sub {H H' : Heap} {fA oA : Option Addr} {fn on : Nat} {p : Prg} (h : HasP H fA fn oA on p) (k : Sub H H') : HasP H' fA fn oA on p := ⟨h.fns.sub k, h.opts.sub k⟩
theorem at_head {H : Heap} {a : Addr} {v : Value} {cs : List Value} (h : At H a (v :: cs)) : At H a [v] := by
  obtain ⟨c, t, fz, h1, h2, h3⟩ := h.out
  exact ⟨⟨c, t, fz, h1, h2, fun j u hj => h3 j u (by
    cases j with
    | zero => exact hj
    | succ j => simp at hj)⟩⟩
theorem at_drop {H : Heap} {a : Addr} {cs : List Value} (k : Nat) (h : At H a cs) : At H (a.add k) (cs.drop k) := by
  obtain ⟨c, t, fz, h1, h2, h3⟩ := h.out
  have hb : (a.add k).block = a.block := by unfold Addr.add; split <;> rfl
  have hs : (a.add k).spot = none := by unfold Addr.add; split <;> simp_all
  have ho : (a.add k).off = a.off + k := by unfold Addr.add; split <;> simp_all
  refine ⟨⟨c, t, fz, by rw [hb]; exact h1, hs, fun j v hv => ?_⟩⟩
  rw [ho, Nat.add_assoc]
  exact h3 (k + j) v (by rw [← hv, List.getElem?_drop])
theorem get_lt {α : Type} {l : List α} {i : Nat} {x : α} (h : l[i]? = some x) : i < l.length := by
  rcases Nat.lt_or_ge i l.length with h' | h'
  · exact h'
  · rw [List.getElem?_eq_none h'] at h; cases h

/-! ### the document's rules -/
def opd (op : Int) : Bool := op == 0 || op == 13 || op == 14 || op == 15 || op == 16 || op == 20 || op == 22 || op == 25 || op == 26 || op == 27 || op == 33 || op == 34
def pureB (op : Int) : Bool := decide (op ≥ 0) && decide (op ≤ 15) || op == 17 || op == 18 || op == 26 || op == 36 || op == 37
def mostB (nf no k : Nat) (op : Int) : Int :=
  if op = 0 then -1 else if op = 13 ∨ op = 14 then k else if op = 15 ∨ op = 16 then 16 else if op = 20 then no else
  if op = 22 ∨ op = 25 ∨ op = 26 ∨ op = 34 then 8 else if op = 27 then nf else if op = 33 then 4 else 0
def smallB (x : Int) : Bool := !(decide (x < 0) || decide (x > 1048576))
def okO (o : O) : Bool := smallB o.start && smallB o.close && smallB o.total && smallB o.beat && smallB o.first && smallB o.most &&
  (decide (o.queue ≥ 0) && decide (o.queue < 8) && decide (o.den ≥ 1) && decide (o.den ≤ 1000) && decide (o.num ≥ o.den) && decide (o.num ≤ 1000) && decide (o.tries ≥ 0) && decide (o.tries ≤ 1000))
def Prg.find (p : Prg) (kind name : Int) : Int := match scan p.funcs.length (fun j => match p.funcs[j]? with | some g => if (g.kind == kind && g.name == name) = true then some (j : Int) else none | none => none) with
  | some j => j | none => -1
def Prg.clash (p : Prg) (f : Fn) (j : Nat) : Option Unit := match p.funcs[j]? with
  | some g => if (decide (f.kind ≥ 2) && g.kind == f.kind && g.name == f.name) = true then some () else none
  | none => none
def Prg.named (p : Prg) (i : Nat) (f : Fn) : Bool :=
  if (decide (f.kind < 0) || decide (f.kind > 4) || f.kind == 0 && (i : Int) != 0 || f.kind != 0 && (i : Int) == 0) = true then false else
  if (decide (f.kind < 2) && f.name != 0 || decide (f.name < 0) || decide (f.name > 7)) = true then false else
  match scan i (p.clash f) with
  | some _ => false
  | none => if (f.kind == 4 && decide (p.find 3 f.name < 0)) = true then false else (decide ((f.ops.length : Int) ≥ 1) && decide ((f.ops.length : Int) ≤ 128))
def Prg.kindAt (p : Prg) (a : Int) : Int := match p.funcs[a.toNat]? with | some g => g.kind | none => 0
def Prg.right (p : Prg) (i : Nat) (f : Fn) (k : Nat) (c a : Int) : Bool :=
  if (decide (c < 0) || decide (c > 37)) = true then false else
  if (!opd c && a != 0 || opd c && decide (mostB p.funcs.length p.opts.length f.ops.length c ≥ 0) && (decide (a < 0) || decide (a ≥ mostB p.funcs.length p.opts.length f.ops.length c))) = true then false else
  if (c == 27 && p.kindAt a != 1) = true then false else
  if ((f.kind == 2 || f.kind == 4) && !pureB c || c == 35 && (i : Int) != 0) = true then false else
  (decide ((k : Int) < (f.ops.length : Int) - 1) || (c == 13 || c == 35 || c == 36 || c == 37))
def Prg.badOpt (p : Prg) (k : Nat) : Option (Int × Int × Int) := match p.opts[k]? with
  | some o => if okO o = true then none else some (40, -1, k)
  | none => none
def Prg.badOp (p : Prg) (i : Nat) (f : Fn) (k : Nat) : Option (Int × Int × Int) := match f.ops[k]? with
  | some (c, a) => if p.right i f k c a = true then none else some (40, i, k)
  | none => none
def Prg.badFn (p : Prg) (i : Nat) : Option (Int × Int × Int) := match p.funcs[i]? with
  | some f => if p.named i f = true then scan f.ops.length (p.badOp i f) else some (40, i, -1)
  | none => none
def Prg.check (p : Prg) : Int × Int × Int :=
  if ((p.funcs.length : Int) == 0 || decide ((p.funcs.length : Int) > 16) || decide ((p.opts.length : Int) > 8)) = true then (40, -1, -1) else
  match scan p.opts.length p.badOpt with
  | some r => r
  | none => match scan p.funcs.length p.badFn with
    | some r => r
    | none => (0, 0, 0)

theorem t29 (op : Int) (H : Heap) : Tr Try.prog 29 #[.int .i64 op] H (fun v H' => v = .bool (opd op) ∧ Sub H H') := by
  apply v29; unfold F29; exact ⟨rfl, Sub.refl _⟩
theorem t31 (op : Int) (H : Heap) : Tr Try.prog 31 #[.int .i64 op] H (fun v H' => v = .bool (pureB op) ∧ Sub H H') := by
  apply v31; unfold F31; exact ⟨rfl, Sub.refl _⟩
theorem f66 (fA : Option Addr) (fn fc : Nat) (oA : Option Addr) (on oc : Nat) (k n : Int) (A : Option Addr) (m c : Nat) (op : Int) (H : Heap) (K : Value → Heap → Prop) (h : K (.int .i64 (mostB fn on m op)) H) :
    F66 fA fn fc oA on oc k n A m c op H K := by
  unfold mostB at h
  have cs : op = 0 ∨ op = 13 ∨ op = 14 ∨ op = 15 ∨ op = 16 ∨ op = 20 ∨ op = 22 ∨ op = 25 ∨ op = 26 ∨ op = 34 ∨ op = 27 ∨ op = 33 ∨
      (op ≠ 0 ∧ op ≠ 13 ∧ op ≠ 14 ∧ op ≠ 15 ∧ op ≠ 16 ∧ op ≠ 20 ∧ op ≠ 22 ∧ op ≠ 25 ∧ op ≠ 26 ∧ op ≠ 34 ∧ op ≠ 27 ∧ op ≠ 33) := by omega
  unfold F66
  rcases cs with rfl | rfl | rfl | rfl | rfl | rfl | rfl | rfl | rfl | rfl | rfl | rfl | ⟨g0, g1, g2, g3, g4, g5, g6, g7, g8, g9, g10, g11⟩
  · simpa using h
  · simpa using h
  · simpa using h
  · simpa using h
  · simpa using h
  · simpa using h
  · simpa using h
  · simpa using h
  · simpa using h
  · simpa using h
  · simpa using h
  · simpa using h
  · have h' : K (.int .i64 0) H := by simpa [g0, g1, g2, g3, g4, g5, g6, g7, g8, g9, g10, g11] using h
    simp [g0, g1, g2, g3, g4, g5, g6, g7, g8, g9, g10, g11, h']
theorem t66 (fA : Option Addr) (fn fc : Nat) (oA : Option Addr) (on oc : Nat) (k n : Int) (A : Option Addr) (m c : Nat) (op : Int) (H : Heap) :
    Tr Try.prog 66 #[.agg #[.slice fA fn fc, .slice oA on oc], .agg #[.int .i64 k, .int .i64 n, .slice A m c], .int .i64 op] H (fun v H' => v = .int .i64 (mostB fn on m op) ∧ Sub H H') :=
  v66 (f66 _ _ _ _ _ _ _ _ _ _ _ _ _ _ ⟨rfl, Sub.refl _⟩)

theorem not_smallB {x : Int} : (decide (x < 0) || decide (x > 1048576)) = !smallB x := by unfold smallB; simp
def O.six (o : O) : List Int := [o.start, o.close, o.total, o.beat, o.first, o.most]
structure R47 (o : O) (Hb : Heap) (i : Int) (H1 : Heap) : Prop where
  heap : H1 = Hb
  k : ∃ k : Nat, i = k ∧ k ≤ 6 ∧ ∀ j x, j < k → o.six[j]? = some x → smallB x = true
theorem t47 (o : O) (H : Heap) : Tr Try.prog 47 #[o.val] H (fun v H' => v = .bool (okO o) ∧ Sub H H') := by
  apply v47; unfold F47
  intro b hb
  refine ⟨R47 o _, fun i _ => (6 - i).toNat, ⟨rfl, 0, rfl, by omega, fun j x hj => absurd hj (by omega)⟩, fun i H1 r => ?_⟩
  obtain ⟨k, rfl, hk, hs⟩ := r.k
  have hsub : Sub H H1 := by rw [r.heap]; exact Sub.upd_new hb
  refine ⟨fun hlt => ?_, fun hge => ⟨?_, hsub⟩⟩
  · have hlt : (k : Int) < 6 := of_decide_eq_true hlt
    obtain ⟨y, hx⟩ : ∃ y, o.six[k]? = some y := ⟨_, List.getElem?_eq_getElem (show k < o.six.length from (by show k < 6; omega))⟩
    have hat : At H1 (({ block := b, off := 0 } : Addr).add ((k : Int).toNat * 1)) [.int .i64 y] := by
      rw [r.heap]
      apply at_new
      intro j v hj
      have : k = 0 ∨ k = 1 ∨ k = 2 ∨ k = 3 ∨ k = 4 ∨ k = 5 := by omega
      cases j with
      | succ j => simp at hj
      | zero => rcases this with rfl | rfl | rfl | rfl | rfl | rfl <;> (simp [O.six] at hx; subst hx; simpa using hj)
    refine ⟨_, ⟨rfl, by omega, hlt⟩, _, hat, _, fun _ => ⟨rfl, by omega, hlt⟩, _, fun _ => hat, fun e => ⟨?_, hsub⟩, fun e => ?_⟩
    · rw [not_smallB] at e
      have : okO o = false := by
        have e : smallB y = false := by simpa using e
        have : k = 0 ∨ k = 1 ∨ k = 2 ∨ k = 3 ∨ k = 4 ∨ k = 5 := by omega
        unfold okO
        rcases this with rfl | rfl | rfl | rfl | rfl | rfl <;> (simp [O.six] at hx; subst hx; simp [e])
      rw [this]
    · rw [not_smallB] at e
      have e : smallB y = true := by simpa using e
      rw [wrap_id (x := (k : Int) + 1) (by omega) (by omega)]
      refine ⟨⟨r.heap, k + 1, by omega, by omega, fun j x hj hx' => ?_⟩, show (6 - ((k : Int) + 1)).toNat < (6 - (k : Int)).toNat by omega⟩
      by_cases hjk : j = k
      · subst hjk; rw [hx] at hx'; cases hx'; exact e
      · exact hs j x (by omega) hx'
  · have hge : ¬ (k : Int) < 6 := of_decide_eq_false hge
    have : k = 6 := by omega
    subst this
    have a0 := hs 0 _ (by omega) rfl; have a1 := hs 1 _ (by omega) rfl; have a2 := hs 2 _ (by omega) rfl
    have a3 := hs 3 _ (by omega) rfl; have a4 := hs 4 _ (by omega) rfl; have a5 := hs 5 _ (by omega) rfl
    unfold okO; rw [a0, a1, a2, a3, a4, a5]; simp

/-- a loop that looks for the first answer -/
structure RS {α : Type} (H : Heap) (n : Nat) (g : Nat → Option α) (i : Int) (H1 : Heap) : Prop where
  heap : H1 = H
  k : ∃ k : Nat, i = k ∧ k ≤ n ∧ ∀ j, j < k → g j = none
theorem RS.zero {α : Type} {H : Heap} {n : Nat} {g : Nat → Option α} : RS H n g 0 H := ⟨rfl, 0, rfl, Nat.zero_le _, fun j hj => absurd hj (by omega)⟩
theorem RS.next {α : Type} {H H1 : Heap} {n : Nat} {g : Nat → Option α} {i : Int} {k : Nat} (r : RS H n g i H1) (hi : i = k) (hk : k < n) (hn : n ≤ 9223372036854775807) (e : g k = none) :
    RS H n g (IntKind.i64.wrap (i + 1)) H1 ∧ ((n : Int) - IntKind.i64.wrap (i + 1)).toNat < ((n : Int) - i).toNat := by
  obtain ⟨k', hk', _, hs⟩ := r.k
  have : k' = k := by omega
  subst this
  rw [wrap_id (x := i + 1) (by omega) (by omega)]
  refine ⟨⟨r.heap, k' + 1, by omega, by omega, fun j hj => ?_⟩, by omega⟩
  by_cases h : j = k'
  · subst h; exact e
  · exact hs j (by omega)

def Prg.hit (p : Prg) (kind name : Int) (j : Nat) : Option Int := match p.funcs[j]? with | some g => if (g.kind == kind && g.name == name) = true then some (j : Int) else none | none => none
theorem find_eq (p : Prg) (kind name : Int) : p.find kind name = match scan p.funcs.length (p.hit kind name) with | some j => j | none => -1 := rfl
theorem t37 {H : Heap} {fA oA : Option Addr} {fn fc on oc : Nat} {p : Prg} (h : HasP H fA fn oA on p) (kind name : Int) :
    Tr Try.prog 37 #[.agg #[.slice fA fn fc, .slice oA on oc], .int .i64 kind, .int .i64 name] H (fun v H' => v = .int .i64 (p.find kind name) ∧ Sub H H') := by
  have hl := h.fns.len; have hb := h.fns.big
  apply v37; unfold F37
  refine ⟨RS H p.funcs.length (p.hit kind name), fun i _ => ((p.funcs.length : Int) - i).toNat, RS.zero, fun i H1 r => ?_⟩
  obtain ⟨k, rfl, hk, hs⟩ := r.k
  have hH := r.heap; subst hH
  refine ⟨fun hlt => ?_, fun hge => ?_⟩
  · have hlt : (k : Int) < fn := of_decide_eq_true hlt
    obtain ⟨g, hg⟩ : ∃ g, p.funcs[k]? = some g := ⟨_, List.getElem?_eq_getElem (by omega)⟩
    obtain ⟨a, B, m, c, ha, hat, -⟩ := h.fns.at_ k g hg
    have at0 : At H1 ((a.add ((k : Int).toNat * 3)).add 0) [.int .i64 g.kind] := at_head hat
    have at1 : At H1 ((a.add ((k : Int).toNat * 3)).add 1) [.int .i64 g.name] := at_head (at_drop 1 hat)
    refine ⟨a, ⟨ha, by omega, hlt⟩, _, at0, a, fun _ => ⟨ha, by omega, hlt⟩, _, fun _ => at1, fun e => ⟨?_, Sub.refl _⟩, fun e => ?_⟩
    · rw [find_eq, scan_hit (k := k) (r := (k : Int)) (by omega) hs (by unfold Prg.hit; rw [hg]; simp only; rw [if_pos e])]
    · exact RS.next r rfl (by omega) (by omega) (by unfold Prg.hit; rw [hg]; simp only; rw [if_neg (by rw [e]; simp)])
  · have hge : ¬ (k : Int) < fn := of_decide_eq_false hge
    refine ⟨?_, Sub.refl _⟩
    rw [find_eq, scan_none (fun j hj => hs j (by omega))]

theorem t48 {H : Heap} {fA oA : Option Addr} {fn fc on oc : Nat} {p : Prg} (h : HasP H fA fn oA on p) (i : Nat) (f : Fn) (hf : p.funcs[i]? = some f) :
    Tr Try.prog 48 #[.agg #[.slice fA fn fc, .slice oA on oc], .int .i64 i] H (fun v H' => v = .bool (p.named i f) ∧ Sub H H') := by
  have hl := h.fns.len; have hb := h.fns.big; have hi := get_lt hf
  apply v48; unfold F48
  obtain ⟨a, B, m, c, ha, hat, ho⟩ := h.fns.at_ i f hf
  have hm := ho.len
  unfold Prg.named
  refine ⟨a, ⟨ha, by omega, by omega⟩, _, _, _, _, _, by simpa using hat, fun e => ⟨by rw [if_pos e], Sub.refl _⟩, fun e => ⟨fun e2 => ⟨by rw [if_neg (by rw [e]; simp), if_pos e2], Sub.refl _⟩, fun e2 => ?_⟩⟩
  rw [if_neg (by rw [e]; simp), if_neg (by rw [e2]; simp)]
  refine ⟨RS H i (p.clash f), fun j _ => ((i : Int) - j).toNat, RS.zero, fun x H1 r => ?_⟩
  obtain ⟨k, rfl, hk, hs⟩ := r.k
  have hH := r.heap; subst hH
  refine ⟨fun hlt => ?_, fun hge => ?_⟩
  · have hlt : (k : Int) < i := of_decide_eq_true hlt
    obtain ⟨g, hg⟩ : ∃ g, p.funcs[k]? = some g := ⟨_, List.getElem?_eq_getElem (by omega)⟩
    obtain ⟨a', B', m', c', ha', hat', -⟩ := h.fns.at_ k g hg
    have at0 : At H1 ((a'.add ((k : Int).toNat * 3)).add 0) [.int .i64 g.kind] := at_head hat'
    have at1 : At H1 ((a'.add ((k : Int).toNat * 3)).add 1) [.int .i64 g.name] := at_head (at_drop 1 hat')
    refine ⟨a', fun _ => ⟨ha', by omega, by omega⟩, _, fun _ => at0, a', fun _ => ⟨ha', by omega, by omega⟩, _, fun _ => at1, fun e3 => ⟨?_, Sub.refl _⟩, fun e3 => ?_⟩
    · rw [scan_hit (k := k) (r := ()) (by omega) hs (by unfold Prg.clash; rw [hg]; simp only; rw [if_pos e3])]
    · exact RS.next r rfl (by omega) (by omega) (by unfold Prg.clash; rw [hg]; simp only; rw [if_neg (by rw [e3]; simp)])
  · have hge : ¬ (k : Int) < i := of_decide_eq_false hge
    rw [scan_none (n := i) (fun j hj => hs j (by omega))]
    refine ⟨_, t37 h 3 f.name, fun e3 => ⟨by simp only; rw [if_pos e3], Sub.refl _⟩, fun e3 => ⟨by simp only; rw [if_neg (by rw [e3]; simp), hm], Sub.refl _⟩⟩

theorem t49 {H : Heap} {fA oA : Option Addr} {fn fc on oc : Nat} {p : Prg} (h : HasP H fA fn oA on p) (i : Nat) (f : Fn) (hf : p.funcs[i]? = some f) (k : Nat) (op x : Int) (hk : f.ops[k]? = some (op, x)) :
    Tr Try.prog 49 #[.agg #[.slice fA fn fc, .slice oA on oc], .int .i64 i, .int .i64 k] H (fun v H' => v = .bool (p.right i f k op x) ∧ Sub H H') := by
  have hl := h.fns.len; have hb := h.fns.big; have hi := get_lt hf; have hol := h.opts.len
  apply v49; unfold F49
  obtain ⟨a, B, m, c, ha, hat, ho⟩ := h.fns.at_ i f hf
  have hm := ho.len; have hmb := ho.big; have hk' := get_lt hk
  obtain ⟨a', ha', hat'⟩ := ho.at_ k _ _ hk
  refine ⟨a, ⟨ha, by omega, by omega⟩, _, _, _, _, _, by simpa using hat, a', ⟨ha', by omega, by omega⟩, _, _, by simpa using hat', ?_⟩
  unfold Prg.right
  rw [← hl, ← hol, ← hm]
  refine ⟨fun e => ⟨by rw [if_pos e], Sub.refl _⟩, fun e => ⟨_, t66 .., _, t29 .., fun e2 => ⟨by rw [if_neg (by rw [e]; simp), if_pos e2], Sub.refl _⟩, fun e2 => ?_⟩⟩
  rw [if_neg (by rw [e]; simp), if_neg (by rw [e2]; simp)]
  have key : (op == 27) = true → 0 ≤ x ∧ x < fn := by
    intro h27
    have h27 : op = 27 := by simpa using h27
    subst h27
    have hmost : mostB fn on m 27 = fn := rfl
    have hopd : opd 27 = true := rfl
    rw [hmost, hopd] at e2
    simp at e2; omega
  obtain ⟨a2, y, h1, h2⟩ : ∃ (a2 : Addr) (y : Int), ((op == 27) = true → fA = some a2 ∧ At H ((a2.add (x.toNat * 3)).add 0) [.int .i64 y]) ∧ ((op == 27) = true → y = p.kindAt x) := by
    by_cases h27 : (op == 27) = true
    · have kx := key h27
      obtain ⟨g, hg⟩ : ∃ g, p.funcs[x.toNat]? = some g := ⟨_, List.getElem?_eq_getElem (by omega)⟩
      obtain ⟨a2, B2, m2, c2, ha2, hat2, -⟩ := h.fns.at_ x.toNat g hg
      exact ⟨a2, g.kind, fun _ => ⟨ha2, at_head hat2⟩, fun _ => by unfold Prg.kindAt; rw [hg]⟩
    · exact ⟨a, 0, fun h => absurd h h27, fun h => absurd h h27⟩
  have e5 : (op == 27 && y != 1) = (op == 27 && p.kindAt x != 1) := by
    cases h27 : (op == 27) with
    | false => rfl
    | true => rw [h2 h27]
  refine ⟨a2, fun h => ⟨(h1 h).1, key h⟩, y, fun h => (h1 h).2, ?_⟩
  rw [e5]
  refine ⟨fun e3 => ⟨by rw [if_pos e3], Sub.refl _⟩, fun e3 => ⟨_, t31 .., ?_⟩⟩
  rw [if_neg (by rw [e3]; simp)]
  refine ⟨fun e4 => ⟨by rw [if_pos e4], Sub.refl _⟩, fun e4 => ⟨?_, Sub.refl _⟩⟩
  rw [if_neg (by rw [e4]; simp), wrap_id (x := (m : Int) - 1) (by omega) (by omega)]

theorem t34 {H : Heap} {fA oA : Option Addr} {fn fc on oc : Nat} {p : Prg} (h : HasP H fA fn oA on p) :
    Tr Try.prog 34 #[.agg #[.slice fA fn fc, .slice oA on oc]] H (fun v H' => v = .tuple #[.int .i64 p.check.1, .int .i64 p.check.2.1, .int .i64 p.check.2.2] ∧ Sub H H') := by
  have hl := h.fns.len; have hb := h.fns.big; have hol := h.opts.len; have hob := h.opts.big
  apply v34; unfold F34 Prg.check
  rw [← hl, ← hol]
  refine ⟨fun e => ⟨by rw [if_pos e], Sub.refl _⟩, fun e => ?_⟩
  rw [if_neg (by rw [e]; simp)]
  refine ⟨RS H on p.badOpt, fun i _ => ((on : Int) - i).toNat, RS.zero, fun x H1 r => ?_⟩
  obtain ⟨k, rfl, hk, hs⟩ := r.k
  have hH := r.heap; subst hH
  refine ⟨fun hlt => ?_, fun hge => ?_⟩
  · have hlt : (k : Int) < on := of_decide_eq_true hlt
    obtain ⟨o, ho⟩ : ∃ o, p.opts[k]? = some o := ⟨_, List.getElem?_eq_getElem (by omega)⟩
    obtain ⟨a, ha, hat⟩ := h.opts.at_ k o ho
    refine ⟨a, ⟨ha, by omega, hlt⟩, _, _, _, _, _, _, _, _, _, _, _, hat, _, t47 o H1, fun e2 => ⟨?_, Sub.refl _⟩, fun e2 => ?_⟩
    · have e2 : okO o = false := by simpa using e2
      rw [scan_hit (k := k) (by omega) hs (by unfold Prg.badOpt; rw [ho]; simp only; rw [if_neg (by rw [e2]; simp)])]
    · have e2 : okO o = true := by simpa using e2
      exact RS.next r rfl (by omega) (by omega) (by unfold Prg.badOpt; rw [ho]; simp only; rw [if_pos e2])
  · have hge : ¬ (k : Int) < on := of_decide_eq_false hge
    rw [scan_none (n := on) (fun j hj => hs j (by omega))]
    clear r hs
    refine ⟨RS H1 fn p.badFn, fun i _ => ((fn : Int) - i).toNat, RS.zero, fun x H2 r => ?_⟩
    obtain ⟨i, rfl, hi, hs⟩ := r.k
    have hH := r.heap; subst hH
    refine ⟨fun hlt => ?_, fun hge => ?_⟩
    · have hlt : (i : Int) < fn := of_decide_eq_true hlt
      obtain ⟨f, hf⟩ : ∃ f, p.funcs[i]? = some f := ⟨_, List.getElem?_eq_getElem (by omega)⟩
      obtain ⟨a, B, m, c, ha, hat, ho⟩ := h.fns.at_ i f hf
      have hm := ho.len; have hmb := ho.big
      refine ⟨_, t48 h i f hf, fun e2 => ⟨?_, Sub.refl _⟩, fun e2 => ?_⟩
      · have e2 : p.named i f = false := by simpa using e2
        rw [scan_hit (k := i) (by omega) hs (by unfold Prg.badFn; rw [hf]; simp only; rw [if_neg (by rw [e2]; simp)])]
      · have e2 : p.named i f = true := by simpa using e2
        have bad : p.badFn i = scan f.ops.length (p.badOp i f) := by unfold Prg.badFn; rw [hf]; simp only; rw [if_pos e2]
        have sl : At H2 ((a.add ((i : Int).toNat * 3)).add 2) [.slice B m c] := at_drop 2 hat
        refine ⟨RS H2 m (p.badOp i f), fun k _ => ((m : Int) - k).toNat, RS.zero, fun x H3 r3 => ?_⟩
        obtain ⟨k3, rfl, hk3, hs3⟩ := r3.k
        have hH := r3.heap; subst hH
        refine ⟨a, ⟨ha, by omega, hlt⟩, _, _, _, sl, fun hlt3 => ?_, fun hge3 => ?_⟩
        · have hlt3 : (k3 : Int) < m := of_decide_eq_true hlt3
          obtain ⟨⟨op, x⟩, hop⟩ : ∃ o, f.ops[k3]? = some o := ⟨_, List.getElem?_eq_getElem (by omega)⟩
          refine ⟨_, t49 h i f hf k3 op x hop, fun e3 => ⟨?_, Sub.refl _⟩, fun e3 => ?_⟩
          · have e3 : p.right i f k3 op x = false := by simpa using e3
            have hb : p.badFn i = some (40, (i : Int), (k3 : Int)) := by
              rw [bad]
              exact scan_hit (k := k3) (by omega) hs3 (by unfold Prg.badOp; rw [hop]; simp only; rw [if_neg (by rw [e3]; simp)])
            rw [scan_hit (k := i) (by omega) hs hb]
          · have e3 : p.right i f k3 op x = true := by simpa using e3
            exact RS.next r3 rfl (by omega) (by omega) (by unfold Prg.badOp; rw [hop]; simp only; rw [if_pos e3])
        · have hge3 : ¬ (k3 : Int) < m := of_decide_eq_false hge3
          exact RS.next r rfl (by omega) (by omega) (by rw [bad]; exact scan_none fun j hj => hs3 j (by omega))
    · have hge : ¬ (i : Int) < fn := of_decide_eq_false hge
      rw [scan_none (n := fn) (fun j hj => hs j (by omega))]
      exact ⟨rfl, Sub.refl _⟩
end Go.Proofs.Ytanahoejlnmfiaa
