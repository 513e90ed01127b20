/- Programs as bytes: readers, as plain functions, that read what a writer writes and nothing else. Conditions: those of each lemma. -/
import Derived.Test.YtanahoejlnmfiaaCdP
import Derived.Test.YtanahoejlnmfiaaK1
set_option maxRecDepth 100000
namespace Go.Ax

/-- a reader of bytes: where; what was wrong first (0: nothing) -/
structure Rd where
  pos : Nat
  err : Nat
def rdU (s : List UInt8) (lim : Nat) (r : Rd) : Int × Rd :=
  if r.err ≠ 0 then (0, r) else
  if (takeU (s.drop r.pos)).2.2 ≠ 0 then (0, ⟨r.pos, (takeU (s.drop r.pos)).2.2⟩) else
  if lim < (takeU (s.drop r.pos)).1 then (0, ⟨r.pos, 3⟩) else
  (((takeU (s.drop r.pos)).1 : Int), ⟨r.pos + (takeU (s.drop r.pos)).2.1, 0⟩)
def rdI (s : List UInt8) (r : Rd) : Int × Rd :=
  if r.err ≠ 0 then (0, r) else
  if (takeI (s.drop r.pos)).2.2 ≠ 0 then (0, ⟨r.pos, (takeI (s.drop r.pos)).2.2⟩) else
  ((takeI (s.drop r.pos)).1, ⟨r.pos + (takeI (s.drop r.pos)).2.1, 0⟩)
/-- so many of a kind; it stops where something is wrong -/
def rdN {α : Type} (f : Rd → α × Rd) : Nat → Rd → List α × Rd
  | 0, r => ([], r)
  | n + 1, r => if r.err ≠ 0 then ([], r) else ((f r).1 :: (rdN f n (f r).2).1, (rdN f n (f r).2).2)
/-- so many of a kind, whatever is wrong -/
def rdV {α : Type} (f : Rd → α × Rd) : Nat → Rd → List α × Rd
  | 0, r => ([], r)
  | n + 1, r => ((f r).1 :: (rdV f n (f r).2).1, (rdV f n (f r).2).2)
def rdB {α β : Type} (f : Rd → α × Rd) (g : α → Rd → β × Rd) (r : Rd) : (α × β) × Rd := (((f r).1, (g (f r).1 (f r).2).1), (g (f r).1 (f r).2).2)
def rdM {α β : Type} (e : α → β) (f : Rd → α × Rd) (r : Rd) : β × Rd := (e (f r).1, (f r).2)
def rdL {α : Type} (s : List UInt8) (lim : Nat) (f : Rd → α × Rd) (r : Rd) : List α × Rd := rdN f (rdU s lim r).1.toNat (rdU s lim r).2

structure Reads {α : Type} (s : List UInt8) (f : Rd → α × Rd) (enc : α → List UInt8) (good : α → Prop) : Prop where
  stay : ∀ r, r.err ≠ 0 → (f r).2 = r
  range : ∀ p, p ≤ s.length → p ≤ (f ⟨p, 0⟩).2.pos ∧ (f ⟨p, 0⟩).2.pos ≤ s.length
  back : ∀ p, p ≤ s.length → (f ⟨p, 0⟩).2.err = 0 → good (f ⟨p, 0⟩).1 ∧ (f ⟨p, 0⟩).2.pos = p + (enc (f ⟨p, 0⟩).1).length ∧ ∃ t, s.drop p = enc (f ⟨p, 0⟩).1 ++ t
  forth : ∀ p x t, good x → s.drop p = enc x ++ t → f ⟨p, 0⟩ = (x, ⟨p + (enc x).length, 0⟩)
theorem drop_len {s a t : List UInt8} {p : Nat} (hp : p ≤ s.length) (h : s.drop p = a ++ t) : p + a.length ≤ s.length := by
  have : (s.drop p).length = a.length + t.length := by rw [h]; simp
  rw [List.length_drop] at this; omega
theorem drop_more {s a t : List UInt8} {p : Nat} (h : s.drop p = a ++ t) : s.drop (p + a.length) = t := by
  rw [← List.drop_drop, h]; simp
theorem Reads.mono {α : Type} {s : List UInt8} {f : Rd → α × Rd} {enc : α → List UInt8} {good good' : α → Prop} (h : Reads s f enc good) (k : ∀ x, good x ↔ good' x) : Reads s f enc good' :=
  ⟨h.stay, h.range, fun p hp he => let ⟨a, b, c⟩ := h.back p hp he; ⟨(k _).1 a, b, c⟩, fun p x t hx => h.forth p x t ((k _).2 hx)⟩

theorem reads_U (s : List UInt8) {lim : Nat} (hl : lim < 18446744073709551616) : Reads s (rdU s lim) (fun x => putU x.toNat) (fun x => 0 ≤ x ∧ x ≤ lim) := by
  have key : ∀ p, (∃ e, e ≠ 0 ∧ rdU s lim ⟨p, 0⟩ = (0, ⟨p, e⟩)) ∨ (∃ (m : Nat) (t : List UInt8), m ≤ lim ∧ s.drop p = putU m ++ t ∧ rdU s lim ⟨p, 0⟩ = ((m : Int), ⟨p + (putU m).length, 0⟩)) := by
    intro p
    unfold rdU
    rw [if_neg (by simp)]
    rcases h : takeU (s.drop p) with ⟨m, k, e⟩
    simp only
    by_cases he : e = 0
    · subst he
      rw [if_neg (by simp)]
      obtain ⟨h1, h2, t, h3⟩ := takeU_some h
      by_cases hm : lim < m
      · rw [if_pos hm]; exact .inl ⟨3, by decide, rfl⟩
      · rw [if_neg hm]; exact .inr ⟨m, t, by omega, h3, by rw [h2]⟩
    · rw [if_pos he]; exact .inl ⟨e, he, rfl⟩
  refine ⟨fun r hr => by unfold rdU; rw [if_pos hr], fun p hp => ?_, fun p hp he => ?_, fun p x t hx h => ?_⟩
  · rcases key p with ⟨e, -, h⟩ | ⟨m, t, h1, h2, h3⟩
    · rw [h]; exact ⟨Nat.le_refl _, hp⟩
    · rw [h3]; have := drop_len hp h2; simp only; omega
  · rcases key p with ⟨e, hne, h⟩ | ⟨m, t, h1, h2, h3⟩
    · rw [h] at he; exact absurd he hne
    · rw [h3]
      show (0 ≤ (m : Int) ∧ (m : Int) ≤ lim) ∧ p + (putU m).length = p + (putU ((m : Int).toNat)).length ∧ ∃ t, s.drop p = putU ((m : Int).toNat) ++ t
      rw [Int.toNat_natCast]
      exact ⟨⟨by omega, by omega⟩, rfl, t, h2⟩
  · have e := takeU_put (n := x.toNat) (by omega) t
    unfold rdU
    rw [if_neg (by simp)]
    simp only at h ⊢
    rw [h, e]
    simp only
    rw [if_neg (by simp), if_neg (by omega)]
    congr 1; omega
theorem reads_I (s : List UInt8) : Reads s (rdI s) putI (fun x => -9223372036854775808 ≤ x ∧ x ≤ 9223372036854775807) := by
  have key : ∀ p, (∃ e, e ≠ 0 ∧ rdI s ⟨p, 0⟩ = (0, ⟨p, e⟩)) ∨ (∃ (m : Int) (t : List UInt8), (-9223372036854775808 ≤ m ∧ m ≤ 9223372036854775807) ∧ s.drop p = putI m ++ t ∧ rdI s ⟨p, 0⟩ = (m, ⟨p + (putI m).length, 0⟩)) := by
    intro p
    unfold rdI takeI
    rw [if_neg (by simp)]
    rcases h : takeU (s.drop p) with ⟨m, k, e⟩
    simp only
    by_cases he : e = 0
    · subst he
      rw [if_neg (by simp)]
      obtain ⟨h1, h2, t, h3⟩ := takeU_some h
      refine .inr ⟨zag m, t, zag_range h1, ?_, ?_⟩
      · unfold putI; rw [zig_zag]; exact h3
      · unfold putI; rw [zig_zag, h2]
    · rw [if_pos he]; exact .inl ⟨e, he, rfl⟩
  refine ⟨fun r hr => by unfold rdI; rw [if_pos hr], fun p hp => ?_, fun p hp he => ?_, fun p x t hx h => ?_⟩
  · rcases key p with ⟨e, -, h⟩ | ⟨m, t, h1, h2, h3⟩
    · rw [h]; exact ⟨Nat.le_refl _, hp⟩
    · rw [h3]; have := drop_len hp h2; simp only; omega
  · rcases key p with ⟨e, hne, h⟩ | ⟨m, t, h1, h2, h3⟩
    · rw [h] at he; exact absurd he hne
    · rw [h3]; exact ⟨h1, rfl, t, h2⟩
  · have e := takeU_put (n := zig x) (zig_lt hx.1 hx.2) t
    unfold putI at h
    unfold rdI takeI putI
    rw [if_neg (by simp)]
    simp only at h ⊢
    rw [h, e]
    simp only
    rw [if_neg (by simp), zag_zig]
theorem reads_M {α β : Type} {s : List UInt8} {f : Rd → α × Rd} {enc : α → List UInt8} {good : α → Prop} (h : Reads s f enc good) (e : α → β) (d : β → α) (enc' : β → List UInt8) (good' : β → Prop)
    (ed : ∀ y, good' y → e (d y) = y) (he : ∀ x, good x → enc' (e x) = enc x) (hg : ∀ x, good x → good' (e x)) (hd : ∀ y, good' y → good (d y)) : Reads s (rdM e f) enc' good' := by
  refine ⟨fun r hr => h.stay r hr, fun p hp => h.range p hp, fun p hp k => ?_, fun p y t hy k => ?_⟩
  · obtain ⟨a, b, t, c⟩ := h.back p hp k
    show good' (e (f ⟨p, 0⟩).1) ∧ (f ⟨p, 0⟩).2.pos = p + (enc' (e (f ⟨p, 0⟩).1)).length ∧ ∃ t, s.drop p = enc' (e (f ⟨p, 0⟩).1) ++ t
    rw [he _ a]; exact ⟨hg _ a, b, t, c⟩
  · have q : enc' y = enc (d y) := by have := he _ (hd y hy); rw [ed y hy] at this; exact this
    have := h.forth p (d y) t (hd y hy) (by rw [← q]; exact k)
    unfold rdM; rw [this, ed y hy, q]
theorem reads_B {α β : Type} {s : List UInt8} {f : Rd → α × Rd} {g : α → Rd → β × Rd} {enc : α → List UInt8} {good : α → Prop} {enc' : α → β → List UInt8} {good' : α → β → Prop}
    (h : Reads s f enc good) (k : ∀ x, Reads s (g x) (enc' x) (good' x)) : Reads s (rdB f g) (fun z => enc z.1 ++ enc' z.1 z.2) (fun z => good z.1 ∧ good' z.1 z.2) := by
  have sp : ∀ p, (f ⟨p, 0⟩).2.err = 0 → (f ⟨p, 0⟩).2 = ⟨(f ⟨p, 0⟩).2.pos, 0⟩ := fun p e => by
    cases hh : (f ⟨p, 0⟩).2 with
    | mk a b => rw [hh] at e; simp only at e; rw [e]
  refine ⟨fun r hr => ?_, fun p hp => ?_, fun p hp e => ?_, fun p z t hz q => ?_⟩
  · show (g _ (f r).2).2 = r
    rw [h.stay r hr]; exact (k _).stay r hr
  · show p ≤ (g _ (f ⟨p, 0⟩).2).2.pos ∧ (g _ (f ⟨p, 0⟩).2).2.pos ≤ s.length
    have r1 := h.range p hp
    by_cases e : (f ⟨p, 0⟩).2.err = 0
    · have r2 := (k (f ⟨p, 0⟩).1).range _ r1.2
      rw [← sp p e] at r2; omega
    · rw [(k _).stay _ e]; exact r1
  · have e2 : (g (f ⟨p, 0⟩).1 (f ⟨p, 0⟩).2).2.err = 0 := e
    have e1 : (f ⟨p, 0⟩).2.err = 0 := by
      rcases Nat.eq_zero_or_pos (f ⟨p, 0⟩).2.err with c | c
      · exact c
      · rw [(k _).stay _ (by omega)] at e2; exact e2
    have r1 := h.range p hp
    obtain ⟨a1, a2, t1, a3⟩ := h.back p hp e1
    rw [sp p e1] at e2
    obtain ⟨b1, b2, t2, b3⟩ := (k (f ⟨p, 0⟩).1).back _ r1.2 e2
    rw [← sp p e1] at b1 b2 b3
    refine ⟨⟨a1, b1⟩, ?_, t2, ?_⟩
    · show (g _ (f ⟨p, 0⟩).2).2.pos = p + (enc (f ⟨p, 0⟩).1 ++ enc' (f ⟨p, 0⟩).1 (g _ (f ⟨p, 0⟩).2).1).length
      rw [b2, a2, List.length_append, Nat.add_assoc]
    · show s.drop p = (enc (f ⟨p, 0⟩).1 ++ enc' (f ⟨p, 0⟩).1 (g _ (f ⟨p, 0⟩).2).1) ++ t2
      rw [a2, drop_more a3] at b3
      rw [a3, b3, List.append_assoc]
  · rw [List.append_assoc] at q
    have a := h.forth p z.1 _ hz.1 q
    have b := (k z.1).forth (p + (enc z.1).length) z.2 t hz.2 (drop_more q)
    unfold rdB; rw [a]; simp only; rw [b]
    simp only [List.length_append, Nat.add_assoc]
theorem reads_N {α : Type} {s : List UInt8} {f : Rd → α × Rd} {enc : α → List UInt8} {good : α → Prop} (h : Reads s f enc good) : ∀ n, Reads s (rdN f n) (fun l => l.flatMap enc) (fun l => l.length = n ∧ ∀ x ∈ l, good x)
  | 0 => by
    refine ⟨fun r _ => rfl, fun p hp => ⟨Nat.le_refl _, hp⟩, fun p hp _ => ⟨⟨rfl, by simp [rdN]⟩, by simp [rdN], s.drop p, by simp [rdN]⟩, fun p l t hl _ => ?_⟩
    have : l = [] := by simpa using hl.1
    subst this; simp [rdN]
  | n + 1 => by
    have k := reads_B (g := fun _ => rdN f n) h fun _ => reads_N h n
    have e : ∀ p, rdN f (n + 1) ⟨p, 0⟩ = rdM (fun z : α × List α => z.1 :: z.2) (rdB f fun _ => rdN f n) ⟨p, 0⟩ := fun p => by
      rw [rdN, if_neg (by simp)]; rfl
    refine ⟨fun r hr => by rw [rdN, if_pos hr], fun p hp => ?_, fun p hp he => ?_, fun p l t hl q => ?_⟩
    · rw [e]; exact k.range p hp
    · rw [e] at he ⊢
      obtain ⟨⟨a1, a2, a3⟩, b, t, c⟩ := k.back p hp he
      refine ⟨⟨by show _ + 1 = n + 1; rw [a2], fun x hx => ?_⟩, by show _ = p + (List.flatMap enc (_ :: _)).length; rw [List.flatMap_cons]; exact b, t, by show _ = List.flatMap enc (_ :: _) ++ t; rw [List.flatMap_cons]; exact c⟩
      rcases List.mem_cons.1 hx with rfl | hx
      · exact a1
      · exact a3 x hx
    · obtain ⟨h1, h2⟩ := hl
      cases l with
      | nil => simp at h1
      | cons x l =>
        have := k.forth p (x, l) t ⟨h2 x (List.mem_cons_self ..), by simpa using h1, fun y hy => h2 y (List.mem_cons_of_mem _ hy)⟩ (by rw [List.flatMap_cons] at q; exact q)
        rw [e]; unfold rdM; rw [this, List.flatMap_cons]
theorem reads_V {α : Type} {s : List UInt8} {f : Rd → α × Rd} {enc : α → List UInt8} {good : α → Prop} (h : Reads s f enc good) : ∀ n, Reads s (rdV f n) (fun l => l.flatMap enc) (fun l => l.length = n ∧ ∀ x ∈ l, good x)
  | 0 => by
    refine ⟨fun r _ => rfl, fun p hp => ⟨Nat.le_refl _, hp⟩, fun p hp _ => ⟨⟨rfl, by simp [rdV]⟩, by simp [rdV], s.drop p, by simp [rdV]⟩, fun p l t hl _ => ?_⟩
    have : l = [] := by simpa using hl.1
    subst this; simp [rdV]
  | n + 1 => by
    have k := reads_B (g := fun _ => rdV f n) h fun _ => reads_V h n
    refine reads_M (e := fun z : α × List α => z.1 :: z.2) (d := fun l => match l with | x :: l => (x, l) | [] => ((f ⟨0, 0⟩).1, [])) k _ _ (fun l hl => ?_) (fun z _ => by simp) (fun z hz => ⟨by simp [hz.2.1], fun x hx => ?_⟩) (fun l hl => ?_)
    · cases l with
      | nil => simp at hl
      | cons x l => rfl
    · rcases List.mem_cons.1 hx with rfl | hx
      · exact hz.1
      · exact hz.2.2 x hx
    · cases l with
      | nil => simp at hl
      | cons x l => exact ⟨hl.2 x (List.mem_cons_self ..), by simpa using hl.1, fun y hy => hl.2 y (List.mem_cons_of_mem _ hy)⟩
theorem reads_L {α : Type} {s : List UInt8} {f : Rd → α × Rd} {enc : α → List UInt8} {good : α → Prop} (h : Reads s f enc good) {lim : Nat} (hl : lim < 18446744073709551616) :
    Reads s (rdL s lim f) (fun l => putU l.length ++ l.flatMap enc) (fun l => l.length ≤ lim ∧ ∀ x ∈ l, good x) := by
  have k := reads_B (g := fun n : Int => rdN f n.toNat) (reads_U s hl) fun n => reads_N h n.toNat
  refine reads_M (e := fun z : Int × List α => z.2) (d := fun l => ((l.length : Int), l)) k _ _ (fun l _ => rfl) (fun z hz => ?_) (fun z hz => ⟨?_, hz.2.2⟩) (fun l hl => ⟨⟨by simp, by simpa using hl.1⟩, by simp, hl.2⟩)
  · rw [hz.2.1]
  · have := hz.2.1; have := hz.1.2; omega

/-! ### a program's bytes -/
def mostR : Nat := 1099511627776
abbrev numOk (x : Int) : Prop := 0 ≤ x ∧ x ≤ (mostR : Nat)
abbrev intOk (x : Int) : Prop := -9223372036854775808 ≤ x ∧ x ≤ 9223372036854775807
def encOp (o : Int × Int) : List UInt8 := putU o.1.toNat ++ (if opd o.1 = true then putI o.2 else [])
def encFn (f : Fnc) : List UInt8 := putU f.kind.toNat ++ (putU f.name.toNat ++ (putU f.ops.length ++ f.ops.flatMap encOp))
def O.nums (o : O) : List Int := [o.queue, o.start, o.close, o.total, o.beat, o.first, o.num, o.den, o.most, o.tries]
def encO (o : O) : List UInt8 := o.nums.flatMap (fun x => putU x.toNat) ++ putI o.never
def encP (p : Prg) : List UInt8 := (putU p.funcs.length ++ p.funcs.flatMap encFn) ++ (putU p.opts.length ++ p.opts.flatMap encO)
def goodOp (o : Int × Int) : Prop := numOk o.1 ∧ if opd o.1 = true then intOk o.2 else o.2 = 0
def goodFn (f : Fnc) : Prop := numOk f.kind ∧ numOk f.name ∧ f.ops.length ≤ 128 ∧ ∀ o ∈ f.ops, goodOp o
def goodO (o : O) : Prop := (o.nums.length = 10 ∧ ∀ x ∈ o.nums, numOk x) ∧ intOk o.never
def goodP (p : Prg) : Prop := (p.funcs.length ≤ 16 ∧ ∀ f ∈ p.funcs, goodFn f) ∧ (p.opts.length ≤ 8 ∧ ∀ o ∈ p.opts, goodO o)
def rdA (s : List UInt8) (c : Int) (r : Rd) : Int × Rd := if opd c = true then rdI s r else (0, r)
def rdOp (s : List UInt8) : Rd → (Int × Int) × Rd := rdB (rdU s mostR) (rdA s)
def rdFn (s : List UInt8) : Rd → Fnc × Rd := rdM (fun z : Int × Int × List (Int × Int) => ⟨z.1, z.2.1, z.2.2⟩) (rdB (rdU s mostR) fun _ => rdB (rdU s mostR) fun _ => rdL s 128 (rdOp s))
def nth (l : List Int) (k : Nat) : Int := l[k]?.getD 0
def mkO (z : List Int × Int) : O := ⟨nth z.1 0, nth z.1 1, nth z.1 2, nth z.1 3, nth z.1 4, nth z.1 5, nth z.1 6, nth z.1 7, nth z.1 8, nth z.1 9, z.2⟩
def rdO (s : List UInt8) : Rd → O × Rd := rdM mkO (rdB (rdV (rdU s mostR) 10) fun _ => rdI s)
def rdP (s : List UInt8) : Rd → Prg × Rd := rdM (fun z : List Fnc × List O => ⟨z.1, z.2⟩) (rdB (rdL s 16 (rdFn s)) fun _ => rdL s 8 (rdO s))
theorem reads_A (s : List UInt8) (c : Int) : Reads s (rdA s c) (fun x => if opd c = true then putI x else []) (fun x => if opd c = true then intOk x else x = 0) := by
  cases h : opd c with
  | true =>
    have e : rdA s c = rdI s := by funext r; unfold rdA; rw [if_pos h]
    rw [e]; simp only [if_true]; exact reads_I s
  | false =>
    have e : rdA s c = fun r => (0, r) := by funext r; unfold rdA; rw [if_neg (by rw [h]; simp)]
    rw [e]; simp only [Bool.false_eq_true, if_false]
    exact ⟨fun r _ => rfl, fun p hp => ⟨Nat.le_refl _, hp⟩, fun p hp _ => ⟨rfl, by simp, s.drop p, by simp⟩, fun p x t hx _ => by simp [hx]⟩
theorem mostR_lt : mostR < 18446744073709551616 := by decide
theorem reads_Op (s : List UInt8) : Reads s (rdOp s) encOp goodOp := reads_B (reads_U s mostR_lt) (reads_A s)
theorem reads_Fn (s : List UInt8) : Reads s (rdFn s) encFn goodFn :=
  reads_M (d := fun f : Fnc => (f.kind, f.name, f.ops)) (reads_B (reads_U s mostR_lt) fun _ => reads_B (reads_U s mostR_lt) fun _ => reads_L (reads_Op s) (by decide)) _ encFn goodFn (fun _ _ => rfl) (fun _ _ => rfl) (fun _ h => h) (fun _ h => h)
theorem mkO_nums (o : O) : mkO (o.nums, o.never) = o := rfl
theorem nums_mkO {l : List Int} (h : l.length = 10) (n : Int) : (mkO (l, n)).nums = l := by
  match l, h with
  | [a, b, c, d, e, f, g, h, i, j], _ => rfl
theorem reads_O (s : List UInt8) : Reads s (rdO s) encO goodO := by
  refine reads_M (reads_B (reads_V (reads_U s mostR_lt) 10) fun _ => reads_I s) mkO (fun o => (o.nums, o.never)) encO goodO (fun o _ => mkO_nums o) (fun z hz => ?_) (fun z hz => ?_) (fun o h => h)
  · unfold encO; rw [show (mkO z).nums = z.1 from nums_mkO hz.1.1 z.2]; rfl
  · unfold goodO; rw [show (mkO z).nums = z.1 from nums_mkO hz.1.1 z.2]; exact hz
theorem reads_P (s : List UInt8) : Reads s (rdP s) encP goodP :=
  reads_M (d := fun p : Prg => (p.funcs, p.opts)) (reads_B (reads_L (reads_Fn s) (by decide)) fun _ => reads_L (reads_O s) (by decide)) _ encP goodP (fun _ _ => rfl) (fun _ _ => rfl) (fun _ h => h) (fun _ h => h)
end Go.Ax
