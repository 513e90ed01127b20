/- Code: how the arguments of the laws are opened. Conditions: none. -/
import Derived.Test.YtanahoejlnmfiaaK14
import Derived.Test.YtanahoejlnmfiaaAxN
import Derived.Test.YtanahoejlnmfiaaRows
set_option maxRecDepth 100000
namespace Go.Proofs.Ytanahoejlnmfiaa
open Go.Ax Go.RowKit Go.ChangeShapes Go.WideShapes Go.ChangeAt

theorem fit3 {H : Heap} {n : Nat} {l : List Value} (h : FitS Try.prog H (n + 1) 3 l) : ∃ x, l = [.int .i64 x] ∧ intOk x := by
  obtain ⟨x, e, wf⟩ := Eq.mp (show FitS Try.prog H (n + 1) 3 l = (∃ x, l = [.int .i64 x] ∧ (Lit.int .i64 x).wf = true) by kernel_rfl) h
  exact ⟨x, e, wf_i64 wf⟩
theorem fit2 {H : Heap} {n : Nat} {l : List Value} (h : FitS Try.prog H (n + 1) 2 l) : ∃ x, l = [.int .i64 x] ∧ intOk x := by
  obtain ⟨x, e, wf⟩ := Eq.mp (show FitS Try.prog H (n + 1) 2 l = (∃ x, l = [.int .i64 x] ∧ (Lit.int .i64 x).wf = true) by kernel_rfl) h
  exact ⟨x, e, wf_i64 wf⟩
theorem fit67 {H : Heap} {n : Nat} {l : List Value} (h : FitS Try.prog H (n + 2) 67 l) : ∃ c x, l = [.int .i64 c, .int .i64 x] ∧ intOk c ∧ intOk x := by
  obtain ⟨hl, h0, h1, -⟩ := Eq.mp (show FitS Try.prog H (n + 2) 67 l = (l.length = 2 ∧ FitS Try.prog H (n + 1) 3 ((l.drop 0).take 1) ∧ FitS Try.prog H (n + 1) 2 ((l.drop 1).take 1) ∧ True) by kernel_rfl) h
  match l, hl with
  | [a, b], _ =>
    obtain ⟨c, e0, w0⟩ := fit3 h0
    obtain ⟨x, e1, w1⟩ := fit2 h1
    simp at e0 e1; subst e0 e1
    exact ⟨c, x, rfl, w0, w1⟩
theorem fit23 {H : Heap} {n : Nat} {l : List Value} (h : FitS Try.prog H (n + 2) 23 l) : ∃ o : O, l = o.cells ∧ (∀ x ∈ o.nums, intOk x) ∧ intOk o.never := by
  obtain ⟨hl, h0, h1, h2, h3, h4, h5, h6, h7, h8, h9, h10, -⟩ := Eq.mp (show FitS Try.prog H (n + 2) 23 l = (l.length = 11 ∧ FitS Try.prog H (n + 1) 3 ((l.drop 0).take 1) ∧ FitS Try.prog H (n + 1) 2 ((l.drop 1).take 1) ∧
    FitS Try.prog H (n + 1) 2 ((l.drop 2).take 1) ∧ FitS Try.prog H (n + 1) 2 ((l.drop 3).take 1) ∧ FitS Try.prog H (n + 1) 2 ((l.drop 4).take 1) ∧ FitS Try.prog H (n + 1) 2 ((l.drop 5).take 1) ∧ FitS Try.prog H (n + 1) 2 ((l.drop 6).take 1) ∧
    FitS Try.prog H (n + 1) 2 ((l.drop 7).take 1) ∧ FitS Try.prog H (n + 1) 2 ((l.drop 8).take 1) ∧ FitS Try.prog H (n + 1) 3 ((l.drop 9).take 1) ∧ FitS Try.prog H (n + 1) 2 ((l.drop 10).take 1) ∧ True) by kernel_rfl) h
  match l, hl with
  | [c0, c1, c2, c3, c4, c5, c6, c7, c8, c9, c10], _ =>
    obtain ⟨x0, e0, w0⟩ := fit3 h0; obtain ⟨x1, e1, w1⟩ := fit2 h1; obtain ⟨x2, e2, w2⟩ := fit2 h2; obtain ⟨x3, e3, w3⟩ := fit2 h3
    obtain ⟨x4, e4, w4⟩ := fit2 h4; obtain ⟨x5, e5, w5⟩ := fit2 h5; obtain ⟨x6, e6, w6⟩ := fit2 h6; obtain ⟨x7, e7, w7⟩ := fit2 h7
    obtain ⟨x8, e8, w8⟩ := fit2 h8; obtain ⟨x9, e9, w9⟩ := fit3 h9; obtain ⟨x10, e10, w10⟩ := fit2 h10
    simp at e0 e1 e2 e3 e4 e5 e6 e7 e8 e9 e10
    subst e0 e1 e2 e3 e4 e5 e6 e7 e8 e9 e10
    refine ⟨⟨x0, x1, x2, x3, x4, x5, x6, x7, x8, x9, x10⟩, rfl, fun x hx => ?_, w10⟩
    simp only [O.nums, List.mem_cons, List.not_mem_nil, or_false] at hx
    rcases hx with h | h | h | h | h | h | h | h | h | h <;> subst h <;> assumption
theorem fitSl {H : Heap} {n : Nat} {t e : TypeId} (ht : Try.prog.underlying t = some (.slice e)) {l : List Value} (h : FitS Try.prog H (n + 1) t l) : ∃ A len cap, l = [.slice A len cap] ∧ len ≤ 9223372036854775807 ∧ len * Try.prog.bytesOf e ≤ 140737488351232 ∧
    ∀ i, i < len → ∃ a cs', A = some a ∧ cs'.length = Try.prog.cellsOf e ∧ (0 < Try.prog.cellsOf e → At H (a.add (i * Try.prog.cellsOf e)) cs') ∧ FitS Try.prog H n e cs' := by
  unfold FitS at h
  rw [ht] at h
  obtain ⟨A, len, cap, e1, h1, h2, h3, h4, h5⟩ := h
  refine ⟨A, len, cap, e1, by unfold maxLen at h2; omega, h3, fun i hi => ?_⟩
  cases hA : A with
  | none => have := (h4 hA).1; omega
  | some a =>
    obtain ⟨cs', q1, q2, q3⟩ := h5 a hA i hi
    exact ⟨a, cs', rfl, q1, q2, q3⟩
theorem fit68 {H : Heap} {n : Nat} {l : List Value} (h : FitS Try.prog H (n + 3) 68 l) : ∃ A m c ops, l = [.slice A m c] ∧ HasOps H A m ops ∧ ops.length * 16 ≤ 140737488355328 ∧ ∀ o ∈ ops, intOk o.1 ∧ intOk o.2 := by
  obtain ⟨A, m, c, e, hb, hz, hx⟩ := fitSl (e := 67) Try.underlying68 h
  have c67 : Try.prog.cellsOf 67 = 2 := by kernel_rfl
  have b67 : Try.prog.bytesOf 67 = 16 := by kernel_rfl
  rw [c67] at hx; rw [b67] at hz
  obtain ⟨ops, hl, hp⟩ := list_of (p := fun i (o : Int × Int) => (∃ a, A = some a ∧ At H (a.add (i * 2)) [.int .i64 o.1, .int .i64 o.2]) ∧ intOk o.1 ∧ intOk o.2) m fun i hi => by
    obtain ⟨a, cs', ha, -, hat, hf⟩ := hx i hi
    obtain ⟨c, x, rfl, w1, w2⟩ := fit67 hf
    exact ⟨(c, x), ⟨a, ha, hat (by decide)⟩, w1, w2⟩
  refine ⟨A, m, c, ops, e, ⟨hl.symm, hb, fun i c x hi => (hp i (c, x) hi).1⟩, by omega, fun o ho => ?_⟩
  obtain ⟨i, hi⟩ := List.getElem?_of_mem ho
  exact (hp i o hi).2
theorem fit70 {H : Heap} {n : Nat} {l : List Value} (h : FitS Try.prog H (n + 4) 70 l) : ∃ (f : Fnc) (A : Option Addr) (m c : Nat), l = [.int .i64 f.kind, .int .i64 f.name, .slice A m c] ∧ HasOps H A m f.ops ∧ f.ops.length * 16 ≤ 140737488355328 ∧ (∀ o ∈ f.ops, intOk o.1 ∧ intOk o.2) ∧ intOk f.kind ∧ intOk f.name := by
  obtain ⟨hl, h0, h1, h2, -⟩ := Eq.mp (show FitS Try.prog H (n + 4) 70 l = (l.length = 3 ∧ FitS Try.prog H (n + 3) 3 ((l.drop 0).take 1) ∧ FitS Try.prog H (n + 3) 3 ((l.drop 1).take 1) ∧ FitS Try.prog H (n + 3) 68 ((l.drop 2).take 1) ∧ True) by kernel_rfl) h
  match l, hl with
  | [a, b, d], _ =>
    obtain ⟨k, e0, w0⟩ := fit3 h0
    obtain ⟨x, e1, w1⟩ := fit3 h1
    obtain ⟨A, m, c, ops, e2, ho, hz, hw⟩ := fit68 h2
    simp at e0 e1 e2; subst e0 e1 e2
    exact ⟨⟨k, x, ops⟩, A, m, c, rfl, ho, hz, hw, w0, w1⟩
theorem fit44 {H : Heap} {n : Nat} {l : List Value} (h : FitS Try.prog H (n + 6) 44 l) : ∃ fA fn fc oA on oc p, l = [.slice fA fn fc, .slice oA on oc] ∧ HasP H fA fn oA on p ∧ p.Wf ∧ p.Sz := by
  obtain ⟨hl, h0, h1, -⟩ := Eq.mp (show FitS Try.prog H (n + 6) 44 l = (l.length = 2 ∧ FitS Try.prog H (n + 5) 41 ((l.drop 0).take 1) ∧ FitS Try.prog H (n + 5) 42 ((l.drop 1).take 1) ∧ True) by kernel_rfl) h
  match l, hl with
  | [a, b], _ =>
    obtain ⟨fA, fn, fc, e0, hb0, hz0, hx0⟩ := fitSl (e := 70) Try.underlying41 h0
    obtain ⟨oA, on, oc, e1, hb1, hz1, hx1⟩ := fitSl (e := 23) Try.underlying42 h1
    simp at e0 e1; subst e0 e1
    have c70 : Try.prog.cellsOf 70 = 3 := by kernel_rfl
    have b70 : Try.prog.bytesOf 70 = 40 := by kernel_rfl
    have c23 : Try.prog.cellsOf 23 = 11 := by kernel_rfl
    have b23 : Try.prog.bytesOf 23 = 88 := by kernel_rfl
    rw [c70] at hx0; rw [b70] at hz0; rw [c23] at hx1; rw [b23] at hz1
    obtain ⟨fs, hl0, hp0⟩ := list_of (p := fun i (f : Fnc) => (∃ a A m c, fA = some a ∧ At H (a.add (i * 3)) [.int .i64 f.kind, .int .i64 f.name, .slice A m c] ∧ HasOps H A m f.ops) ∧ f.ops.length * 16 ≤ 140737488355328 ∧ (∀ o ∈ f.ops, intOk o.1 ∧ intOk o.2) ∧ intOk f.kind ∧ intOk f.name) fn fun i hi => by
      obtain ⟨a, cs', ha, -, hat, hf⟩ := hx0 i hi
      obtain ⟨f, A, m, c, rfl, ho, q⟩ := fit70 hf
      exact ⟨f, ⟨a, A, m, c, ha, hat (by decide), ho⟩, q⟩
    obtain ⟨os, hl1, hp1⟩ := list_of (p := fun i (o : O) => (∃ a, oA = some a ∧ At H (a.add (i * 11)) o.cells) ∧ (∀ x ∈ o.nums, intOk x) ∧ intOk o.never) on fun i hi => by
      obtain ⟨a, cs', ha, -, hat, hf⟩ := hx1 i hi
      obtain ⟨o, rfl, q⟩ := fit23 hf
      exact ⟨o, ⟨a, ha, hat (by decide)⟩, q⟩
    have mf : ∀ f ∈ fs, f.ops.length * 16 ≤ 140737488355328 ∧ (∀ o ∈ f.ops, intOk o.1 ∧ intOk o.2) ∧ intOk f.kind ∧ intOk f.name := fun f hf => by
      obtain ⟨i, hi⟩ := List.getElem?_of_mem hf
      exact (hp0 i f hi).2
    have mo : ∀ o ∈ os, (∀ x ∈ o.nums, intOk x) ∧ intOk o.never := fun o ho => by
      obtain ⟨i, hi⟩ := List.getElem?_of_mem ho
      exact (hp1 i o hi).2
    exact ⟨fA, fn, fc, oA, on, oc, ⟨fs, os⟩, rfl, ⟨⟨hl0.symm, hb0, fun i f hi => (hp0 i f hi).1⟩, ⟨hl1.symm, hb1, fun i o hi => (hp1 i o hi).1⟩⟩,
      ⟨fun f hf => (mf f hf).2.1, fun f hf => (mf f hf).2.2, mo⟩, ⟨by simp only; omega, by simp only; omega, fun f hf => (mf f hf).1⟩⟩
theorem openP {W : World} {base : Nat} {r : Reach} {v : Value} {fs : Array Field} (hs : Try.prog.underlying 44 = some (.struct fs)) (hv : Value.okWide Try.prog W r base 44 v)
    {H : Type} {enc : TypeId × Value → H} {b0 : Nat} {spare : Nat → Bool} {held : Bool} {d : DataW H} {p : List MemPlace} {ts : List TypeId} {ds : List (DataW H)} (hsz : (DataW.weightsEach Try.prog ts ds).all (· ≤ reachBytes) = true) {j : Nat} (ht : ts[j]? = some 44) (hd : ds[j]? = some d)
    (h : DataW.Trod enc Try.prog W b0 spare held 44 v d p) : ∃ fA fn fc oA on oc q, v = .agg #[.slice fA fn fc, .slice oA on oc] ∧ HasP (hp W) fA fn oA on q ∧ q.Wf ∧ q.Sz := by
  obtain ⟨cs, rfl, hsz'⟩ := okWide_struct hs hv
  obtain ⟨fA, fn, fc, oA, on, oc, q, e, k⟩ := fit44 (n := 0) (fits_of_Trod 6 hsz ht hd h)
  refine ⟨fA, fn, fc, oA, on, oc, q, ?_, k⟩
  congr 1
  exact Array.toList_inj.mp e
end Go.Proofs.Ytanahoejlnmfiaa
