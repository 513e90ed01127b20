/- Code: lists of structs in memory; the document's Same and Copy; the law's small program. Conditions: the programs lie in memory as 'HasP' says; what is copied is within the machine's limit. -/
import Derived.Test.YtanahoejlnmfiaaK5
set_option maxRecDepth 100000
namespace Go.Ax

/-! ### rows of elements of one size -/
theorem flat_at {α : Type} {cells : α → List Value} {sz : Nat} (hsz : ∀ x, (cells x).length = sz) : ∀ (l : List α) (i : Nat) (x : α) (j : Nat) (v : Value), l[i]? = some x → (cells x)[j]? = some v → (l.flatMap cells)[i * sz + j]? = some v
  | y :: l, 0, x, j, v, h, hv => by
    simp at h; subst h
    rw [List.flatMap_cons, List.getElem?_append_left (by have := get_lt hv; omega)]
    rw [Nat.zero_mul, Nat.zero_add]; exact hv
  | y :: l, i + 1, x, j, v, h, hv => by
    have e : (i + 1) * sz + j = (cells y).length + (i * sz + j) := by rw [hsz, Nat.add_mul]; omega
    rw [List.flatMap_cons, e, List.getElem?_append_right (by omega)]
    have e2 : (cells y).length + (i * sz + j) - (cells y).length = i * sz + j := by omega
    rw [e2]
    exact flat_at hsz l i x j v (by simpa using h) hv
theorem flat_size {α : Type} {cells : α → List Value} {sz : Nat} (hsz : ∀ x, (cells x).length = sz) (l : List α) : (l.flatMap cells).length = l.length * sz := by
  induction l with
  | nil => simp
  | cons x l ih => rw [List.flatMap_cons, List.length_append, ih, hsz, List.length_cons, Nat.add_mul]; omega
theorem flat_inv {α : Type} {cells : α → List Value} {sz : Nat} (hsz : ∀ x, (cells x).length = sz) : ∀ (l : List α) (j : Nat) (v : Value), (l.flatMap cells)[j]? = some v → ∃ i x, l[i]? = some x ∧ i * sz ≤ j ∧ (cells x)[j - i * sz]? = some v
  | [], j, v, h => by simp at h
  | y :: l, j, v, h => by
    rw [List.flatMap_cons] at h
    by_cases hj : j < sz
    · rw [List.getElem?_append_left (by rw [hsz]; exact hj)] at h
      exact ⟨0, y, rfl, by omega, by simpa using h⟩
    · rw [List.getElem?_append_right (by rw [hsz]; omega), hsz] at h
      obtain ⟨i, x, h1, h2, h3⟩ := flat_inv hsz l (j - sz) v h
      refine ⟨i + 1, x, by simpa using h1, by rw [Nat.add_mul]; omega, ?_⟩
      rw [Nat.add_mul, Nat.one_mul]
      have : j - (i * sz + sz) = j - sz - i * sz := by omega
      rw [this]; exact h3
theorem src_elem {α : Type} {cells : α → List Value} {sz : Nat} (hsz : ∀ x, (cells x).length = sz) (h0 : 0 < sz) {H : Heap} {A : Option Addr} {l : List α} (h : Src H A (l.flatMap cells)) (i : Nat) (x : α) (hx : l[i]? = some x) : ∃ a, A = some a ∧ At H (a.add (i * sz)) (cells x) := by
  rcases h with e | ⟨a, ha, hat⟩
  · have := flat_size hsz l
    rw [e] at this
    have hl := get_lt hx
    have : l.length * sz = 0 := by simpa using this.symm
    rcases Nat.mul_eq_zero.1 this with h | h <;> omega
  · have d := at_drop (i * sz) hat
    obtain ⟨c1, t1, f1, g1, g2, g3⟩ := d.out
    refine ⟨a, ha, ⟨⟨c1, t1, f1, g1, g2, fun j v hv => g3 j v ?_⟩⟩⟩
    rw [List.getElem?_drop]; exact flat_at hsz l i x j v hx hv
theorem src_of {α : Type} {cells : α → List Value} {sz : Nat} (hsz : ∀ x, (cells x).length = sz) {H : Heap} {A : Option Addr} {l : List α} (h : ∀ i x, l[i]? = some x → ∃ a, A = some a ∧ At H (a.add (i * sz)) (cells x)) : Src H A (l.flatMap cells) := by
  cases hl : l with
  | nil => exact .inl rfl
  | cons y t =>
    obtain ⟨a, ha, hat⟩ := h 0 y (by rw [hl]; rfl)
    rw [Nat.zero_mul] at hat
    obtain ⟨c, T, fz, h1, h2, h3⟩ := hat.out
    rw [← hl]
    refine .inr ⟨a, ha, ⟨⟨c, T, fz, h1, h2, fun j v hv => ?_⟩⟩⟩
    obtain ⟨i, x, q1, q2, q3⟩ := flat_inv hsz l j v hv
    obtain ⟨a', ha', hat'⟩ := h i x q1
    rw [ha] at ha'; cases ha'
    obtain ⟨c', T', fz', g1, g2, g3⟩ := hat'.out
    have hb : (a.add (i * sz)).block = a.block := by unfold Addr.add; split <;> rfl
    have ho : (a.add (i * sz)).off = a.off + i * sz := by unfold Addr.add; split <;> simp_all
    rw [hb] at g1
    have : (a.add 0) = a := rfl
    rw [this] at h1
    rw [g1] at h1; cases h1
    have := g3 _ _ q3
    rw [ho] at this
    have e : a.off + i * sz + (j - i * sz) = a.off + j := by omega
    rw [e] at this; exact this
/-- all that is known but one block -/
def del (H : Heap) (b : Nat) : Heap := fun i => if i = b then none else H i
theorem del_sub {H : Heap} {b : Nat} : Sub (del H b) H := ⟨fun i o h => by
  unfold del at h
  split at h
  · cases h
  · exact h⟩
theorem del_mono {F F2 : Heap} {b : Nat} (h : Sub F F2) : Sub (del F b) (del F2 b) := ⟨fun i o k => by
  unfold del at k ⊢
  split at k
  · cases k
  · rename_i e; rw [if_neg e]; exact h.sub i o k⟩
theorem del_upd {F : Heap} {b : Nat} {x : Obj} : del (F.upd b x) b = del F b := by
  funext i
  unfold del
  by_cases e : i = b
  · rw [if_pos e, if_pos e]
  · rw [if_neg e, if_neg e, Heap.upd_other e]
theorem del_grow {F F2 : Heap} {b : Nat} {y : Obj} (h : Sub (F.upd b y) F2) : Sub (del F b) (del F2 b) := by
  have := del_mono (b := b) h; rw [del_upd] at this; exact this
theorem OwnS.del {F H1 : Heap} {A : Option Addr} {n c sz : Nat} {cs : List Value} (o : OwnS F H1 A n c sz cs) {b : Nat} {x : Obj} (hb : F b = some x) : Src (del H1 b) A cs := by
  rcases o.at_ with ⟨rfl, h1, h2⟩ | ⟨g, cur, T, rfl, h1, h2, h3, h4⟩
  · left
    have := o.len
    rw [h1, Nat.zero_mul] at this
    exact List.length_eq_zero_iff.1 this
  · have hg : g ≠ b := fun e => by subst e; rw [hb] at h1; cases h1
    exact .inr ⟨_, rfl, ⟨⟨cur, T, (0, 0), by unfold Ax.del; rw [if_neg hg]; exact h2, rfl, fun j v hv => by simpa using h4 j v hv⟩⟩⟩
/-- What a call owns stays its own when a callee's own joins what is known. -/
theorem OwnS.absorb {F H1 H2 : Heap} {A B : Option Addr} {n c sz m d sz2 : Nat} {cs cs2 : List Value} (o : OwnS F H1 A n c sz cs) (q : OwnS H1 H2 B m d sz2 cs2) : ∃ F2, Sub F F2 ∧ OwnS F2 H2 A n c sz cs ∧ Src F2 B cs2 ∧ (∀ r, (H1 r).isSome = true → Src (Ax.del F2 r) B cs2) := by
  rcases q.at_ with ⟨rfl, h1, h2⟩ | ⟨b2, cur, T, rfl, h1, h2, h3, h4⟩
  · have hnil : cs2 = [] := by
      have := q.len
      rw [h1, Nat.zero_mul] at this
      exact List.length_eq_zero_iff.1 this
    refine ⟨F, Sub.refl _, ?_, .inl hnil, fun _ _ => .inl hnil⟩
    · refine ⟨o.sub.trans q.sub, o.len, o.cap, ?_⟩
      rcases o.at_ with h | ⟨b, cur, T, g1, g2, g3, g4⟩
      · exact .inl h
      · exact .inr ⟨b, cur, T, g1, g2, q.sub.sub _ _ g3, g4⟩
  · have hF : F b2 = none := none_below o.sub h1
    refine ⟨F.upd b2 (.cells cur T (0, 0)), Sub.upd_new hF, ⟨⟨fun i x hx => ?_⟩, o.len, o.cap, ?_⟩, .inr ⟨_, rfl, ⟨⟨cur, T, (0, 0), Heap.upd_same, rfl, fun j v hv => by simpa using h4 j v hv⟩⟩⟩, fun r hr => ?_⟩
    · by_cases e : i = b2
      · subst e; rw [Heap.upd_same] at hx; injection hx with hx; subst hx; exact h2
      · rw [Heap.upd_other e] at hx; exact q.sub.sub _ _ (o.sub.sub _ _ hx)
    · rcases o.at_ with h | ⟨b, cur', T', g1, g2, g3, g4⟩
      · exact .inl h
      · have hb : b ≠ b2 := fun e => by subst e; rw [h1] at g3; cases g3
        exact .inr ⟨b, cur', T', g1, by rw [Heap.upd_other hb]; exact g2, q.sub.sub _ _ g3, g4⟩
    · have hne : b2 ≠ r := fun e => by subst e; rw [h1] at hr; cases hr
      exact .inr ⟨_, rfl, ⟨⟨cur, T, (0, 0), by unfold Ax.del; rw [if_neg hne]; exact Heap.upd_same, rfl, fun j v hv => by simpa using h4 j v hv⟩⟩⟩
def opC (o : Int × Int) : List Value := [.int .i64 o.1, .int .i64 o.2]
abbrev FnH := Fnc × Option Addr × Nat × Nat
def fnC (z : FnH) : List Value := [.int .i64 z.1.kind, .int .i64 z.1.name, .slice z.2.1 z.2.2.1 z.2.2.2]
theorem hasOps_of {H : Heap} {A : Option Addr} {n : Nat} {l : List (Int × Int)} (h : Src H A (l.flatMap opC)) (hn : n = l.length) (hb : n ≤ 9223372036854775807) : HasOps H A n l :=
  ⟨hn, hb, fun i c x e => src_elem (cells := opC) (sz := 2) (fun _ => rfl) (by decide) h i (c, x) e⟩
theorem HasOps.src {H : Heap} {A : Option Addr} {n : Nat} {l : List (Int × Int)} (h : HasOps H A n l) : Src H A (l.flatMap opC) := src_of (cells := opC) (sz := 2) (fun _ => rfl) fun i x e => h.at_ i x.1 x.2 e
theorem hasOpts_of {H : Heap} {A : Option Addr} {n : Nat} {l : List O} (h : Src H A (l.flatMap O.cells)) (hn : n = l.length) (hb : n ≤ 9223372036854775807) : HasOpts H A n l :=
  ⟨hn, hb, fun i o e => src_elem (cells := O.cells) (sz := 11) (fun _ => rfl) (by decide) h i o e⟩
theorem HasOpts.src {H : Heap} {A : Option Addr} {n : Nat} {l : List O} (h : HasOpts H A n l) : Src H A (l.flatMap O.cells) := src_of (cells := O.cells) (sz := 11) (fun _ => rfl) fun i x e => h.at_ i x e
theorem hasFns_of {H : Heap} {A : Option Addr} {n : Nat} {l : List FnH} (h : Src H A (l.flatMap fnC)) (hn : n = l.length) (hb : n ≤ 9223372036854775807) (ho : ∀ z ∈ l, HasOps H z.2.1 z.2.2.1 z.1.ops) : HasFns H A n (l.map (·.1)) := by
  refine ⟨by simpa using hn, hb, fun i f e => ?_⟩
  rw [List.getElem?_map] at e
  cases hz : l[i]? with
  | none => rw [hz] at e; cases e
  | some z =>
    rw [hz] at e; simp at e; subst e
    obtain ⟨a, ha, hat⟩ := src_elem (cells := fnC) (sz := 3) (fun _ => rfl) (by decide) h i z hz
    exact ⟨a, z.2.1, z.2.2.1, z.2.2.2, ha, hat, ho z (List.mem_of_getElem? hz)⟩
theorem cells_one_op (l : List (Int × Int)) : allOne (l.flatMap opC) = true := by
  induction l with
  | nil => rfl
  | cons x l ih => rw [List.flatMap_cons]; simp [opC, allOne, one, ih]
theorem cells_one_o (l : List O) : allOne (l.flatMap O.cells) = true := by
  induction l with
  | nil => rfl
  | cons x l ih => rw [List.flatMap_cons]; simp [O.cells, allOne, one, ih]
/-- within the machine's limit -/
structure Prg.Sz (p : Prg) : Prop where
  fns : p.funcs.length * 40 ≤ 140737488355328
  opts : p.opts.length * 88 ≤ 140737488355328
  ops : ∀ f ∈ p.funcs, f.ops.length * 16 ≤ 140737488355328

/-! ### are two lists alike -/
structure REq {α : Type} (H : Heap) (l m : List α) (i : Int) (H1 : Heap) : Prop where
  heap : H1 = H
  k : ∃ k : Nat, i = k ∧ k ≤ l.length ∧ ∀ j, j < k → l[j]? = m[j]?
theorem REq.zero {α : Type} {H : Heap} {l m : List α} : REq H l m 0 H := ⟨rfl, 0, rfl, Nat.zero_le _, fun j hj => absurd hj (by omega)⟩
theorem REq.next {α : Type} {H H1 : Heap} {l m : List α} {k n : Nat} (r : REq H l m k H1) (hn : n = l.length) (hb : n ≤ 9223372036854775807) {x y : α} (hx : l[k]? = some x) (hy : m[k]? = some y) (e : x = y) :
    REq H l m (IntKind.i64.wrap ((k : Int) + 1)) H1 ∧ ((n : Int) - IntKind.i64.wrap ((k : Int) + 1)).toNat < ((n : Int) - (k : Int)).toNat := by
  obtain ⟨k', hk', _, hs⟩ := r.k
  have : k' = k := by omega
  subst this
  have := get_lt hx
  rw [wrapi (by omega) (by omega)]
  refine ⟨⟨r.heap, k' + 1, by omega, by omega, fun j hj => ?_⟩, by omega⟩
  by_cases h : j = k'
  · subst h; rw [hx, hy, e]
  · exact hs j (by omega)
theorem all_eq {α : Type} {l m : List α} {k : Nat} (hl : l.length = m.length) (hk : l.length ≤ k) (h : ∀ j, j < k → l[j]? = m[j]?) : l = m := by
  apply List.ext_getElem?; intro j
  rcases Nat.lt_or_ge j l.length with hj | hj
  · exact h j (by omega)
  · rw [List.getElem?_eq_none hj, List.getElem?_eq_none (by omega)]
noncomputable def sameB (p q : Prg) : Bool := @decide (p = q) (Classical.propDecidable _)
theorem sameB_iff {p q : Prg} : sameB p q = true ↔ p = q := by unfold sameB; exact @decide_eq_true_iff _ (Classical.propDecidable _)
theorem sameB_not {p q : Prg} (h : p ≠ q) : sameB p q = false := by
  cases e : sameB p q with
  | false => rfl
  | true => exact absurd (sameB_iff.1 e) h
def O.beq (x y : O) : Bool := x.queue == y.queue && (x.start == y.start && (x.close == y.close && (x.total == y.total && (x.beat == y.beat && (x.first == y.first && (x.num == y.num && (x.den == y.den && (x.most == y.most && (x.tries == y.tries && (x.never == y.never && true))))))))))
theorem O.beq_iff {x y : O} : x.beq y = true ↔ x = y := by
  unfold O.beq
  simp only [Bool.and_eq_true, beq_iff_eq]
  constructor
  · intro ⟨h0, h1, h2, h3, h4, h5, h6, h7, h8, h9, h10, _⟩
    cases x; cases y; simp_all
  · intro h; subst h; simp
end Go.Ax
namespace Go.Proofs.Ytanahoejlnmfiaa
open Go.Ax

theorem t35 {H : Heap} {fA oA gA qA : Option Addr} {fn fc on oc gn gc qn qc : Nat} {p q : Prg} (h : HasP H fA fn oA on p) (h' : HasP H gA gn qA qn q) :
    Tr Try.prog 35 #[.agg #[.slice fA fn fc, .slice oA on oc], .agg #[.slice gA gn gc, .slice qA qn qc]] H (fun v H' => v = .bool (sameB p q) ∧ Sub H H') := by
  have hl := h.fns.len; have hb := h.fns.big; have hol := h.opts.len; have hob := h.opts.big
  have hl' := h'.fns.len; have hol' := h'.opts.len
  apply v35; unfold F35
  have no : ∀ {H1 : Heap}, H1 = H → p ≠ q → Value.bool false = .bool (sameB p q) ∧ Sub H H1 := fun e n => ⟨by rw [sameB_not n], e ▸ Sub.refl _⟩
  refine ⟨fun e => no rfl fun e2 => ?_, fun e => ?_⟩
  · subst e2; simp at e; omega
  have e1 : p.funcs.length = q.funcs.length ∧ p.opts.length = q.opts.length := by simp at e; omega
  refine ⟨REq H p.opts q.opts, fun i _ => ((on : Int) - i).toNat, REq.zero, fun x H1 r => ?_⟩
  obtain ⟨k, rfl, hk, hs⟩ := r.k
  have hH := r.heap; subst hH
  refine ⟨fun hlt => ?_, fun hge => ?_⟩
  · have hlt : (k : Int) < on := of_decide_eq_true hlt
    obtain ⟨o, ho⟩ := get_some (l := p.opts) (i := k) (by omega)
    obtain ⟨o', ho'⟩ := get_some (l := q.opts) (i := k) (by omega)
    obtain ⟨a, ha, hat⟩ := h.opts.at_ k o ho
    obtain ⟨a', ha', hat'⟩ := h'.opts.at_ k o' ho'
    refine ⟨a, ⟨ha, by omega, hlt⟩, _, _, _, _, _, _, _, _, _, _, _, hat, a', ⟨ha', by omega, by omega⟩, _, _, _, _, _, _, _, _, _, _, _, hat', ?_⟩
    show ((!(o.beq o')) = true → _) ∧ ((!(o.beq o')) = false → _)
    refine ⟨fun e => no rfl fun e2 => ?_, fun e => ?_⟩
    · subst e2; rw [ho] at ho'; cases ho'; rw [O.beq_iff.2 rfl] at e; cases e
    · exact REq.next r hol hob ho ho' (O.beq_iff.1 (by simpa using e))
  · have hge : ¬ (k : Int) < on := of_decide_eq_false hge
    have eo : p.opts = q.opts := all_eq e1.2 (by omega) hs
    clear r hs
    refine ⟨REq H1 p.funcs q.funcs, fun i _ => ((fn : Int) - i).toNat, REq.zero, fun x H2 r => ?_⟩
    obtain ⟨i, rfl, hi, hs⟩ := r.k
    have hH := r.heap; subst hH
    refine ⟨fun hlt => ?_, fun hge => ?_⟩
    · have hlt : (i : Int) < fn := of_decide_eq_true hlt
      obtain ⟨f, hf⟩ := get_some (l := p.funcs) (i := i) (by omega)
      obtain ⟨g, hg⟩ := get_some (l := q.funcs) (i := i) (by omega)
      obtain ⟨a, B, m, c, ha, hat, ho⟩ := h.fns.at_ i f hf
      obtain ⟨a', B', m', c', ha', hat', ho'⟩ := h'.fns.at_ i g hg
      have hm := ho.len; have hmb := ho.big; have hm' := ho'.len
      refine ⟨a, ⟨ha, by omega, hlt⟩, _, _, _, _, _, hat, a', ⟨ha', by omega, by omega⟩, _, _, _, _, _, hat', fun e => no rfl fun e2 => ?_, fun e => ?_⟩
      · subst e2; rw [hf] at hg; cases hg; simp at e; omega
      · simp at e
        refine ⟨REq H2 f.ops g.ops, fun k _ => ((m : Int) - k).toNat, REq.zero, fun x H3 r3 => ?_⟩
        obtain ⟨k3, rfl, hk3, hs3⟩ := r3.k
        have hH := r3.heap; subst hH
        refine ⟨fun hlt3 => ?_, fun hge3 => ?_⟩
        · have hlt3 : (k3 : Int) < m := of_decide_eq_true hlt3
          obtain ⟨⟨op, x⟩, hop⟩ := get_some (l := f.ops) (i := k3) (by omega)
          obtain ⟨⟨op', x'⟩, hop'⟩ := get_some (l := g.ops) (i := k3) (by omega)
          obtain ⟨b, hb1, hbt⟩ := ho.at_ k3 _ _ hop
          obtain ⟨b', hb1', hbt'⟩ := ho'.at_ k3 _ _ hop'
          refine ⟨b, ⟨hb1, by omega, hlt3⟩, _, _, hbt, b', ⟨hb1', by omega, by omega⟩, _, _, hbt', fun e => no rfl fun e2 => ?_, fun e => ?_⟩
          · subst e2; rw [hf] at hg; cases hg; rw [hop] at hop'; cases hop'; simp at e
          · simp at e
            exact REq.next r3 hm hmb hop hop' (by rw [e.1, e.2])
        · have hge3 : ¬ (k3 : Int) < m := of_decide_eq_false hge3
          refine REq.next r hl hb hf hg ?_
          have eops : f.ops = g.ops := all_eq (by omega) (by omega) hs3
          cases f; cases g; simp_all
    · have hge : ¬ (i : Int) < fn := of_decide_eq_false hge
      have ef : p.funcs = q.funcs := all_eq e1.1 (by omega) hs
      refine ⟨?_, Sub.refl _⟩
      rw [sameB_iff.2]
      cases p; cases q; simp_all

theorem t32 {H : Heap} {fA oA : Option Addr} {fn fc on oc : Nat} {p : Prg} (h : HasP H fA fn oA on p) (z : p.Sz) :
    Tr Try.prog 32 #[.agg #[.slice fA fn fc, .slice oA on oc]] H (fun v H' => ∃ A n c A1 n1 c1, v = .agg #[.slice A n c, .slice A1 n1 c1] ∧ HasP H' A n A1 n1 p ∧ Sub H H') := by
  have hl := h.fns.len; have hb := h.fns.big; have hol := h.opts.len; have hob := h.opts.big
  have z1 := z.fns; have z2 := z.opts
  apply v32; unfold F32
  refine ⟨⟨p.opts.flatMap O.cells, h.opts.src, by rw [flat_size (cells := O.cells) (sz := 11) (fun _ => rfl), hol], own_app (OwnS.nil H 11) (by rw [flat_size (cells := O.cells) (sz := 11) (fun _ => rfl), hol]) (cells_one_o _) (show (0 + on) * 88 ≤ 140737488355328 by omega) (by omega) fun A' c' H' o' => ?_⟩⟩
  have hopts : HasOpts H' A' (0 + on) p.opts := hasOpts_of (by simpa using o'.src) (by omega) (by omega)
  refine ⟨fun x A n c H1 => ∃ (k : Nat) (hs : List FnH) (F : Heap), x = k ∧ k ≤ fn ∧ n = k ∧ Sub H' F ∧ OwnS F H1 A n c 3 (hs.flatMap fnC) ∧ hs.map (·.1) = p.funcs.take k ∧ ∀ z ∈ hs, HasOps F z.2.1 z.2.2.1 z.1.ops, fun x _ _ _ _ => ((fn : Int) - x).toNat,
    ⟨0, [], H', rfl, by omega, rfl, Sub.refl _, OwnS.nil H' 3, rfl, by simp⟩, ?_⟩
  rintro x A n c H1 ⟨k, hs, F, rfl, hk, rfl, hF, o1, e1, hops⟩
  have s1 : Sub H H1 := o'.sub.trans (hF.trans o1.sub)
  refine ⟨fun hlt => ?_, fun hge => ?_⟩
  · have hlt : (n : Int) < fn := of_decide_eq_true hlt
    obtain ⟨f, hf⟩ := get_some (l := p.funcs) (i := n) (by omega)
    obtain ⟨a, B, m, d, ha, hat0, ho0⟩ := h.fns.at_ n f hf
    have hat := hat0.sub s1
    have ho := ho0.sub s1
    have hm := ho.len; have zm := z.ops f (List.mem_of_getElem? hf)
    have at0 : At H1 ((a.add ((n : Int).toNat * 3)).add 0) [.int .i64 f.kind] := at_head hat
    have at1 : At H1 ((a.add ((n : Int).toNat * 3)).add 1) [.int .i64 f.name] := at_head (at_drop 1 hat)
    have at2 : At H1 ((a.add ((n : Int).toNat * 3)).add 2) [.slice B m d] := at_drop 2 hat
    have hlen : hs.length = n := by
      have := congrArg List.length e1
      rw [List.length_map, List.length_take] at this; omega
    have go : ∃ A1 n1 c1, At H1 ((a.add ((n : Int).toNat * 3)).add 2) [.slice A1 n1 c1] ∧ appS 67 2 16 H1 none 0 0 A1 n1 fun A2 n2 c2 H2 => appC 70 3 40 H2 A n c [.int .i64 f.kind, .int .i64 f.name, .slice A2 n2 c2] 1 fun A3 n3 c3 H3 =>
        (∃ (k : Nat) (hs : List FnH) (F : Heap), IntKind.i64.wrap ((n : Int) + 1) = k ∧ k ≤ fn ∧ n3 = k ∧ Sub H' F ∧ OwnS F H3 A3 n3 c3 3 (hs.flatMap fnC) ∧ hs.map (·.1) = p.funcs.take k ∧ ∀ z ∈ hs, HasOps F z.2.1 z.2.2.1 z.1.ops) ∧
        ((fn : Int) - IntKind.i64.wrap ((n : Int) + 1)).toNat < ((fn : Int) - (n : Int)).toNat := by
      refine ⟨B, m, d, at2, ⟨⟨f.ops.flatMap opC, ho.src, by rw [flat_size (cells := opC) (sz := 2) (fun _ => rfl), hm], own_app (OwnS.nil H1 2) (by rw [flat_size (cells := opC) (sz := 2) (fun _ => rfl), hm]) (cells_one_op _) (show (0 + m) * 16 ≤ 140737488355328 by omega) (by omega) fun A2 c2 H2 o2 => ?_⟩⟩⟩
      obtain ⟨F2, f1, f2, f3, -⟩ := o1.absorb o2
      refine own_app f2 rfl rfl (show (n + 1) * 40 ≤ 140737488355328 by omega) (by omega) fun A3 c3 H3 o3 => ?_
      rw [wrapi (x := (n : Int) + 1) (by omega) (by omega)]
      refine ⟨⟨n + 1, hs ++ [(f, A2, 0 + m, c2)], F2, by omega, by omega, rfl, hF.trans f1, by rw [List.flatMap_append]; exact o3, ?_, fun z hz => ?_⟩, by omega⟩
      · rw [List.map_append, e1, List.take_add_one, hf]; rfl
      · rcases List.mem_append.1 hz with hz | hz
        · exact (hops z hz).sub f1
        · simp at hz; subst hz
          exact hasOps_of (by simpa using f3) (by simp only; omega) (by simp only; omega)
    exact ⟨H1, Sub.refl _, a, ⟨ha, by omega, hlt⟩, _, at0, a, ⟨ha, by omega, hlt⟩, _, at1, Sub.refl _, Sub.refl _, a, ⟨ha, by omega, hlt⟩, go, go⟩
  · have hge : ¬ (n : Int) < fn := of_decide_eq_false hge
    refine ⟨_, _, _, _, _, _, rfl, ⟨?_, hopts.sub (hF.trans o1.sub)⟩, s1⟩
    rw [List.take_of_length_le (by omega)] at e1
    rw [← e1]
    refine hasFns_of o1.src ?_ (by omega) fun z hz => (hops z hz).sub o1.sub
    have := congrArg List.length e1
    rw [List.length_map] at this; omega

def smallP : Prg := ⟨[⟨0, 0, [(17, 0), (36, 0)]⟩], []⟩
theorem t43 (H : Heap) : Tr Try.prog 43 #[] H (fun v H' => ∃ A n c A1 n1 c1, v = .agg #[.slice A n c, .slice A1 n1 c1] ∧ HasP H' A n A1 n1 smallP ∧ Sub H H') := by
  apply v43; unfold F43
  intro b hb H1 e1 b1 hb1 H2 e2
  subst e1 e2
  refine ⟨_, _, _, _, _, _, rfl, ⟨?_, ⟨rfl, by decide, fun i o h => by simp [smallP] at h⟩⟩, (Sub.upd_new hb).trans (Sub.upd_new hb1)⟩
  refine hasFns_of (l := [(⟨0, 0, [(17, 0), (36, 0)]⟩, some ⟨b, 0, none⟩, 2, 2)]) (.inr ⟨_, rfl, (at_new (k := 0) fun j v hv => ?_)⟩) rfl (by decide) fun z hz => ?_
  · simpa [fnC] using hv
  · simp at hz; subst hz
    have : HasOps (H.upd b (.cells #[.int .i64 17, .int .i64 0, .int .i64 36, .int .i64 0] 67)) (some ⟨b, 0, none⟩) 2 [(17, 0), (36, 0)] :=
      hasOps_of (.inr ⟨_, rfl, (at_new (k := 0) fun j v hv => by simpa [opC] using hv)⟩) rfl (by decide)
    exact this.sub (Sub.upd_new hb1)
end Go.Proofs.Ytanahoejlnmfiaa
