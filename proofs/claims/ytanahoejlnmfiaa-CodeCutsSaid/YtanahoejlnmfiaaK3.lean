/- Programs: what a good one is; its bytes are read as it, and what is read is written so; no beginning of its bytes, and nothing with bytes behind them, is a program's. Conditions: those of each lemma. -/
import Derived.Test.YtanahoejlnmfiaaK2
set_option maxRecDepth 100000
namespace Go.Ax

theorem scan_all {α : Type} {n : Nat} {g : Nat → Option α} (h : scan n g = none) : ∀ j, j < n → g j = none := by
  unfold scan at h; rw [List.findSome?_eq_none_iff] at h; intro j hj; exact h j (by simpa using hj)
theorem scan_ex {α : Type} {n : Nat} {g : Nat → Option α} {r : α} (h : scan n g = some r) : ∃ j, j < n ∧ g j = some r := by
  obtain ⟨j, hj, e⟩ := List.exists_of_findSome?_eq_some h
  exact ⟨j, by simpa using hj, e⟩
structure Okp (p : Prg) : Prop where
  n1 : 1 ≤ p.funcs.length
  n2 : p.funcs.length ≤ 16
  n3 : p.opts.length ≤ 8
  opts : ∀ (k : Nat) (o : O), p.opts[k]? = some o → okO o = true
  named : ∀ (i : Nat) (f : Fnc), p.funcs[i]? = some f → p.named i f = true
  right : ∀ (i : Nat) (f : Fnc) (k : Nat) (c a : Int), p.funcs[i]? = some f → f.ops[k]? = some (c, a) → p.right i f k c a = true
theorem badOpt_40 {p : Prg} {k : Nat} {r : Int × Int × Int} (h : p.badOpt k = some r) : r.1 = 40 := by
  unfold Prg.badOpt at h
  split at h
  · split at h
    · cases h
    · cases h; rfl
  · cases h
theorem badOp_40 {p : Prg} {i : Nat} {f : Fnc} {k : Nat} {r : Int × Int × Int} (h : p.badOp i f k = some r) : r.1 = 40 := by
  unfold Prg.badOp at h
  split at h
  · split at h
    · cases h
    · cases h; rfl
  · cases h
theorem badFn_40 {p : Prg} {i : Nat} {r : Int × Int × Int} (h : p.badFn i = some r) : r.1 = 40 := by
  unfold Prg.badFn at h
  split at h
  · split at h
    · obtain ⟨j, _, e⟩ := scan_ex h
      exact badOp_40 e
    · cases h; rfl
  · cases h
theorem check_cases (p : Prg) : (p.check = (0, 0, 0) ∧ Okp p) ∨ (p.check.1 = 40 ∧ ¬ Okp p) := by
  unfold Prg.check
  split
  · rename_i h
    refine .inr ⟨rfl, fun k => ?_⟩
    have := k.n1; have := k.n2; have := k.n3
    simp at h
    rcases h with (h | h) | h
    · have : p.funcs.length = 0 := by rw [h]; rfl
      omega
    · omega
    · omega
  · rename_i h
    simp at h
    split
    · rename_i r hr
      obtain ⟨j, hj, e⟩ := scan_ex hr
      refine .inr ⟨badOpt_40 e, fun k => ?_⟩
      obtain ⟨o, ho⟩ := get_some (l := p.opts) (i := j) hj
      unfold Prg.badOpt at e; rw [ho] at e; simp only at e
      rw [if_pos (k.opts j o ho)] at e; cases e
    · rename_i hr
      have ho := scan_all hr
      split
      · rename_i r hr2
        obtain ⟨j, hj, e⟩ := scan_ex hr2
        refine .inr ⟨badFn_40 e, fun k => ?_⟩
        obtain ⟨f, hf⟩ := get_some (l := p.funcs) (i := j) hj
        unfold Prg.badFn at e; rw [hf] at e; simp only at e
        rw [if_pos (k.named j f hf)] at e
        obtain ⟨m, hm, e⟩ := scan_ex e
        obtain ⟨⟨c, a⟩, hc⟩ := get_some (l := f.ops) (i := m) hm
        unfold Prg.badOp at e; rw [hc] at e; simp only at e
        rw [if_pos (k.right j f m c a hf hc)] at e; cases e
      · rename_i hr2
        have hf := scan_all hr2
        have nm : ∀ i f, p.funcs[i]? = some f → p.named i f = true ∧ scan f.ops.length (p.badOp i f) = none := fun i f hi => by
          have := hf i (get_lt hi)
          unfold Prg.badFn at this; rw [hi] at this; simp only at this
          split at this
          · rename_i q; exact ⟨q, this⟩
          · cases this
        refine .inl ⟨rfl, ⟨?_, by omega, by omega, fun k o hk => ?_, fun i f hi => (nm i f hi).1, fun i f k c a hi hk => ?_⟩⟩
        · have : p.funcs.length ≠ 0 := fun e => by simp_all
          omega
        · have := ho k (get_lt hk)
          unfold Prg.badOpt at this; rw [hk] at this; simp only at this
          split at this
          · assumption
          · cases this
        · have := scan_all (nm i f hi).2 k (get_lt hk)
          unfold Prg.badOp at this; rw [hk] at this; simp only at this
          split at this
          · assumption
          · cases this
theorem check_ok {p : Prg} (h : p.check.1 = 0) : p.check = (0, 0, 0) ∧ Okp p := by
  rcases check_cases p with h' | h'
  · exact h'
  · rw [h'.1] at h; cases h
theorem check_bad {p : Prg} (h : p.check.1 ≠ 0) : p.check.1 = 40 := by
  rcases check_cases p with h' | h'
  · rw [h'.1] at h; exact absurd rfl h
  · exact h'.1
theorem ok_check {p : Prg} (h : Okp p) : p.check = (0, 0, 0) := by
  rcases check_cases p with h' | h'
  · exact h'.1
  · exact absurd h h'.2

/-- the numbers of a program are the machine's -/
structure Prg.Wf (p : Prg) : Prop where
  ops : ∀ f ∈ p.funcs, ∀ o ∈ f.ops, intOk o.1 ∧ intOk o.2
  fns : ∀ f ∈ p.funcs, intOk f.kind ∧ intOk f.name
  opts : ∀ o ∈ p.opts, (∀ x ∈ o.nums, intOk x) ∧ intOk o.never
theorem named_range {p : Prg} {i : Nat} {f : Fnc} (h : p.named i f = true) : 0 ≤ f.kind ∧ f.kind ≤ 4 ∧ 0 ≤ f.name ∧ f.name ≤ 7 ∧ 1 ≤ f.ops.length ∧ f.ops.length ≤ 128 := by
  unfold Prg.named at h
  split at h
  · cases h
  · rename_i h1
    split at h
    · cases h
    · rename_i h2
      simp at h1 h2
      split at h
      · cases h
      · split at h
        · cases h
        · simp at h
          omega
theorem right_range {p : Prg} {i : Nat} {f : Fnc} {k : Nat} {c a : Int} (h : p.right i f k c a = true) : 0 ≤ c ∧ c ≤ 37 ∧ (opd c = false → a = 0) := by
  unfold Prg.right at h
  split at h
  · cases h
  · rename_i h1
    split at h
    · cases h
    · rename_i h2
      simp at h1
      refine ⟨by omega, by omega, fun hc => ?_⟩
      rw [hc] at h2
      simpa using h2
theorem okO_range {o : O} (h : okO o = true) : ∀ x ∈ o.nums, numOk x := by
  simp [okO, smallB] at h
  obtain ⟨⟨⟨⟨⟨⟨⟨a1, a2⟩, b1, b2⟩, c1, c2⟩, d1, d2⟩, e1, e2⟩, f1, f2⟩, g⟩ := h
  intro x hx
  unfold O.nums at hx
  unfold numOk mostR
  simp only [List.mem_cons, List.not_mem_nil, or_false] at hx
  rcases hx with h | h | h | h | h | h | h | h | h | h <;> subst h <;> omega
theorem good_of {p : Prg} (h : Okp p) (w : p.Wf) : goodP p := by
  refine ⟨⟨h.n2, fun f hf => ?_⟩, h.n3, fun o ho => ?_⟩
  · obtain ⟨i, hi⟩ := List.getElem?_of_mem hf
    have r := named_range (h.named i f hi)
    unfold goodFn numOk mostR
    refine ⟨by omega, by omega, by omega, fun o hm => ?_⟩
    obtain ⟨k, hk⟩ := List.getElem?_of_mem hm
    have q := right_range (h.right i f k o.1 o.2 hi hk)
    unfold goodOp numOk mostR
    refine ⟨by omega, ?_⟩
    split
    · exact (w.ops f hf o hm).2
    · rename_i hc; exact q.2.2 (by simpa using hc)
  · obtain ⟨k, hk⟩ := List.getElem?_of_mem ho
    exact ⟨⟨rfl, okO_range (h.opts k o hk)⟩, (w.opts o ho).2⟩
theorem wf_of {p : Prg} (h : goodP p) : p.Wf := by
  have up : ∀ x, numOk x → intOk x := fun x h => by unfold numOk mostR at h; unfold intOk; omega
  refine ⟨fun f hf o ho => ?_, fun f hf => ?_, fun o ho => ⟨fun x hx => up x ((h.2.2 o ho).1.2 x hx), (h.2.2 o ho).2⟩⟩
  · have q := (h.1.2 f hf).2.2.2 o ho
    refine ⟨up _ q.1, ?_⟩
    have q2 := q.2
    split at q2
    · exact q2
    · rw [q2]; exact ⟨by decide, by decide⟩
  · exact ⟨up _ (h.1.2 f hf).1, up _ (h.1.2 f hf).2.1⟩

theorem flat_le {α : Type} {f : α → List UInt8} {c : Nat} : ∀ l : List α, (∀ x ∈ l, (f x).length ≤ c) → (l.flatMap f).length ≤ c * l.length
  | [], _ => by simp
  | x :: l, h => by
    have h1 := h x (List.mem_cons_self ..)
    have h2 := flat_le l fun y hy => h y (List.mem_cons_of_mem _ hy)
    rw [List.flatMap_cons, List.length_append, List.length_cons, Nat.mul_add]; omega
theorem putU_le {n : Nat} (h : n < 18446744073709551616) : (putU n).length ≤ 10 := putU_len 9 n (Nat.lt_trans h (by decide))
theorem putU_num {x : Int} (h : numOk x) : (putU x.toNat).length ≤ 10 := putU_le (by have := h.2; unfold mostR at this; omega)
theorem putI_le {x : Int} (h : intOk x) : (putI x).length ≤ 10 := putU_le (zig_lt h.1 h.2)
theorem encOp_le {o : Int × Int} (h : goodOp o) : (encOp o).length ≤ 20 := by
  unfold encOp
  have h1 := putU_num h.1
  have h2 := h.2
  rw [List.length_append]
  split at h2
  · rename_i hc; rw [if_pos hc]; have := putI_le h2; omega
  · rename_i hc; rw [if_neg hc]; simp; omega
theorem encFn_le {f : Fnc} (h : goodFn f) : (encFn f).length ≤ 2590 := by
  unfold encFn
  have h1 := putU_num h.1; have h2 := putU_num h.2.1
  have h3 := putU_le (n := f.ops.length) (by have := h.2.2.1; omega)
  have h4 := flat_le (f := encOp) (c := 20) f.ops fun o ho => encOp_le (h.2.2.2 o ho)
  have := h.2.2.1
  simp only [List.length_append]; omega
theorem encO_le {o : O} (h : goodO o) : (encO o).length ≤ 110 := by
  unfold encO
  have h1 := flat_le (f := fun x : Int => putU x.toNat) (c := 10) o.nums fun x hx => putU_num (h.1.2 x hx)
  have h2 := putI_le h.2
  have := h.1.1
  rw [List.length_append]; omega
theorem encP_le {p : Prg} (h : goodP p) : (encP p).length ≤ 50000 := by
  unfold encP
  have h1 := flat_le (f := encFn) (c := 2590) p.funcs fun f hf => encFn_le (h.1.2 f hf)
  have h2 := flat_le (f := encO) (c := 110) p.opts fun o ho => encO_le (h.2.2 o ho)
  have h3 := putU_le (n := p.funcs.length) (by have := h.1.1; omega)
  have h4 := putU_le (n := p.opts.length) (by have := h.2.1; omega)
  have := h.1.1; have := h.2.1
  simp only [List.length_append]; omega

/-! ### reading a program -/
def none0 : Prg := ⟨[], []⟩
def decE (s : List UInt8) : Nat := if (rdP s ⟨0, 0⟩).2.err = 0 ∧ (rdP s ⟨0, 0⟩).2.pos < s.length then 3 else (rdP s ⟨0, 0⟩).2.err
def decM (s : List UInt8) : Prg × Int × Int :=
  if decE s ≠ 0 then (none0, decE s, (rdP s ⟨0, 0⟩).2.pos) else
  if (rdP s ⟨0, 0⟩).1.check.1 ≠ 0 then (none0, (rdP s ⟨0, 0⟩).1.check.1, 0) else ((rdP s ⟨0, 0⟩).1, 0, 0)
theorem dec_enc {p : Prg} (h : Okp p) (w : p.Wf) (more : List UInt8) : decM (encP p ++ more) = if more = [] then (p, 0, 0) else (none0, 3, ((encP p).length : Int)) := by
  have e := (reads_P (encP p ++ more)).forth 0 p more (good_of h w) (by simp)
  rw [Nat.zero_add] at e
  cases more with
  | nil =>
    have hd : decE (encP p ++ []) = 0 := by unfold decE; rw [e, if_neg (by simp)]
    unfold decM
    rw [hd, if_neg (by simp), e, ok_check h]; simp
  | cons b t =>
    have hd : decE (encP p ++ b :: t) = 3 := by unfold decE; rw [e, if_pos ⟨rfl, by simp⟩]
    unfold decM
    rw [hd, if_pos (by decide), e]; simp
theorem dec_pos (s : List UInt8) : 0 ≤ (decM s).2.2 ∧ (decM s).2.2 ≤ s.length := by
  have := ((reads_P s).range 0 (by omega)).2
  unfold decM
  split
  · simp only; omega
  · split <;> simp only <;> omega
theorem dec_inv {s : List UInt8} (h : (decM s).2.1 = 0) : Okp (decM s).1 ∧ goodP (decM s).1 ∧ s = encP (decM s).1 ∧ (decM s).2.2 = 0 := by
  unfold decM at h ⊢
  split at h
  · rename_i he; exact absurd (by simpa using h) he
  · rename_i he
    rw [if_neg he]
    split at h
    · rename_i hc; exact absurd h hc
    · rename_i hc
      rw [if_neg hc]
      simp only
      have he : decE s = 0 := by omega
      have hc : (rdP s ⟨0, 0⟩).1.check.1 = 0 := Classical.not_not.1 hc
      unfold decE at he
      split at he
      · cases he
      · rename_i hn
        obtain ⟨g, q, t, e⟩ := (reads_P s).back 0 (by omega) he
        rw [List.drop_zero] at e
        refine ⟨(check_ok hc).2, g, ?_, trivial⟩
        have hl : s.length = (encP (rdP s ⟨0, 0⟩).1).length + t.length := by
          have := congrArg List.length e
          rw [List.length_append] at this; exact this
        have : t = [] := by
          have : t.length = 0 := by
            rcases Nat.eq_zero_or_pos t.length with k | k
            · exact k
            · exact absurd ⟨he, by omega⟩ hn
          exact List.length_eq_zero_iff.1 this
        rw [this, List.append_nil] at e; exact e
theorem dec_cut {p : Prg} (h : Okp p) (w : p.Wf) {k : Nat} (hk : k < (encP p).length) : (decM ((encP p).take k)).2.1 ≠ 0 := by
  intro e
  obtain ⟨h1, h2, h3, -⟩ := dec_inv e
  have q := dec_enc h1 (wf_of h2) ((encP p).drop k)
  rw [← h3, List.take_append_drop] at q
  have r := dec_enc h w []
  rw [List.append_nil, if_pos rfl] at r
  rw [r, if_neg] at q
  · have := congrArg (fun z => z.2.1) q; simp at this
  · intro c
    have : ((encP p).drop k).length = 0 := by rw [c]; rfl
    rw [List.length_drop] at this; omega
end Go.Ax
