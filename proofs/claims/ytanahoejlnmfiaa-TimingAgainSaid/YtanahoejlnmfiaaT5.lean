/- Timing: how the arguments of the laws are opened. Conditions: none. -/
import Derived.Test.YtanahoejlnmfiaaT4
import Derived.Test.YtanahoejlnmfiaaAxR
import Derived.Test.YtanahoejlnmfiaaRows
set_option maxRecDepth 100000
namespace Go.Proofs.Ytanahoejlnmfiaa
open Go.Ax Go.RowKit Go.ChangeShapes Go.WideShapes Go.ChangeAt

def IntAt (l : List Value) (k : Nat) : Prop := ∃ x, (l.drop k).take 1 = [.int .i64 x] ∧ (Lit.int .i64 x).wf = true
theorem fitO (H : Heap) (l : List Value) (n : Nat) (h : Fit Try.prog H (n + 2) 23 l) :
    l.length = 11 ∧ IntAt l 0 ∧ IntAt l 1 ∧ IntAt l 2 ∧ IntAt l 3 ∧ IntAt l 4 ∧ IntAt l 5 ∧ IntAt l 6 ∧ IntAt l 7 ∧ IntAt l 8 ∧ IntAt l 9 ∧ IntAt l 10 ∧ True :=
  Eq.mp (show Fit Try.prog H (n + 2) 23 l = (l.length = 11 ∧ IntAt l 0 ∧ IntAt l 1 ∧ IntAt l 2 ∧ IntAt l 3 ∧ IntAt l 4 ∧ IntAt l 5 ∧ IntAt l 6 ∧ IntAt l 7 ∧ IntAt l 8 ∧ IntAt l 9 ∧ IntAt l 10 ∧ True) by kernel_rfl) h
theorem ofO {l : List Value} (h : l.length = 11 ∧ IntAt l 0 ∧ IntAt l 1 ∧ IntAt l 2 ∧ IntAt l 3 ∧ IntAt l 4 ∧ IntAt l 5 ∧ IntAt l 6 ∧ IntAt l 7 ∧ IntAt l 8 ∧ IntAt l 9 ∧ IntAt l 10 ∧ True) : ∃ o : O, l = o.cells := by
  obtain ⟨hl, ⟨x0, e0, -⟩, ⟨x1, e1, -⟩, ⟨x2, e2, -⟩, ⟨x3, e3, -⟩, ⟨x4, e4, -⟩, ⟨x5, e5, -⟩, ⟨x6, e6, -⟩, ⟨x7, e7, -⟩, ⟨x8, e8, -⟩, ⟨x9, e9, -⟩, ⟨x10, e10, -⟩, -⟩ := h
  match l, hl with
  | [c0, c1, c2, c3, c4, c5, c6, c7, c8, c9, c10], _ =>
    simp at e0 e1 e2 e3 e4 e5 e6 e7 e8 e9 e10
    subst e0 e1 e2 e3 e4 e5 e6 e7 e8 e9 e10
    exact ⟨⟨x0, x1, x2, x3, x4, x5, x6, x7, x8, x9, x10⟩, rfl⟩
theorem openO {P : Program} {W : World} {base : Nat} {r : Reach} {v : Value} {fs : Array Field} (hs : P.underlying 23 = some (.struct fs)) (hv : Value.okWide P W r base 23 v) (hP : P = Try.prog)
    {H : Type} {enc : TypeId × Value → H} {b0 : Nat} {spare : Nat → Bool} {held : Bool} {d : DataW H} {p : List MemPlace} (h : DataW.Trod enc P W b0 spare held 23 v d p) : ∃ o : O, v = o.val := by
  obtain ⟨cs, rfl, hsz⟩ := okWide_struct hs hv
  subst hP
  obtain ⟨o, ho⟩ := ofO (fitO _ _ 0 (fit_of_Trod 2 h))
  refine ⟨o, ?_⟩
  have : cs.toList = o.cells := ho
  show Value.agg cs = Value.agg _
  congr 1
  exact Array.toList_inj.mp this
theorem openInts {P : Program} {W : World} {t e : TypeId} (ht : P.underlying t = some (.slice e)) (he : P.underlying e = some (.int .i64)) (hc : P.cellsOf e = 1)
    {H : Type} {enc : TypeId × Value → H} {b0 : Nat} {spare : Nat → Bool} {held : Bool} {d : DataW H} {p : List MemPlace} {A : Option Addr} {n c : Nat} (h : DataW.Trod enc P W b0 spare held t (.slice A n c) d p) : ∃ l : List Int, Ints (hp W) A n l := by
  have f := fit_of_Trod 2 h
  unfold Fit at f
  rw [ht] at f
  obtain ⟨A', n', c', e1, h1, h2, h3, h4⟩ := f
  simp [Value.cells] at e1
  obtain ⟨rfl, rfl, rfl⟩ := e1
  obtain ⟨l, hl, hp⟩ := list_of (p := fun i x => ∃ a, A = some a ∧ At (hp W) (a.add i) [.int .i64 x]) n fun i hi => by
    cases hA : A with
    | none => have := h3 hA; omega
    | some a =>
      obtain ⟨cs', hl, hat, hf⟩ := h4 a hA i hi
      unfold Fit at hf
      rw [he] at hf
      obtain ⟨x, hx, _⟩ := hf
      rw [hc] at hat
      subst hx
      exact ⟨x, a, rfl, by simpa using hat (by decide)⟩
  exact ⟨l, hl.symm, hp, by unfold maxLen at h2; omega⟩
end Go.Proofs.Ytanahoejlnmfiaa
