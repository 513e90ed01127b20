/- Events: how the arguments of the laws are opened. Conditions: none. -/
import Derived.Test.YtbojjcmhdklhbaaE1
import Derived.Test.YtbojjcmhdklhbaaAxR
import Derived.Test.YtbojjcmhdklhbaaRows
set_option maxRecDepth 100000
namespace Go.Proofs.Ytbojjcmhdklhbaa
open Go.Ax Go.RowKit Go.ChangeShapes Go.WideShapes Go.ChangeAt

def IntAt (l : List Value) (k : Nat) : Prop := ∃ x, (l.drop k).take 1 = [.int .i64 x] ∧ (Lit.int .i64 x).wf = true
theorem fitEv (H : Heap) (l : List Value) (n : Nat) (h : Fit Try.prog H (n + 2) 23 l) :
    l.length = 9 ∧ IntAt l 0 ∧ IntAt l 1 ∧ IntAt l 2 ∧ IntAt l 3 ∧ IntAt l 4 ∧ IntAt l 5 ∧ IntAt l 6 ∧ IntAt l 7 ∧ IntAt l 8 ∧ True :=
  Eq.mp (show Fit Try.prog H (n + 2) 23 l = (l.length = 9 ∧ IntAt l 0 ∧ IntAt l 1 ∧ IntAt l 2 ∧ IntAt l 3 ∧ IntAt l 4 ∧ IntAt l 5 ∧ IntAt l 6 ∧ IntAt l 7 ∧ IntAt l 8 ∧ True) by kernel_rfl) h
theorem ofEv {l : List Value} (h : l.length = 9 ∧ IntAt l 0 ∧ IntAt l 1 ∧ IntAt l 2 ∧ IntAt l 3 ∧ IntAt l 4 ∧ IntAt l 5 ∧ IntAt l 6 ∧ IntAt l 7 ∧ IntAt l 8 ∧ True) : ∃ x : Ev, x.Wf ∧ l = x.cells := by
  obtain ⟨hl, ⟨x0, e0, w0⟩, ⟨x1, e1, w1⟩, ⟨x2, e2, w2⟩, ⟨x3, e3, w3⟩, ⟨x4, e4, w4⟩, ⟨x5, e5, w5⟩, ⟨x6, e6, w6⟩, ⟨x7, e7, w7⟩, ⟨x8, e8, w8⟩, -⟩ := h
  match l, hl with
  | [c0, c1, c2, c3, c4, c5, c6, c7, c8], _ =>
    simp at e0 e1 e2 e3 e4 e5 e6 e7 e8
    subst e0 e1 e2 e3 e4 e5 e6 e7 e8
    refine ⟨⟨x0, x1, x2, x3, x4, x5, x6, x7, x8⟩, ⟨wf_i64 w0, wf_i64 w1, wf_i64 w2, fun v hv => ?_⟩, rfl⟩
    simp [Ev.nums] at hv
    rcases hv with rfl | rfl | rfl | rfl | rfl | rfl
    · exact wf_i64 w3
    · exact wf_i64 w4
    · exact wf_i64 w5
    · exact wf_i64 w6
    · exact wf_i64 w7
    · exact wf_i64 w8
theorem openEv {P : Program} {W : World} {base : Nat} {r : Reach} {v : Value} {fs : Array Field} (hs : P.underlying 23 = some (.struct fs)) (hv : Value.okWide P W r base 23 v) (hP : P = Try.prog)
    {H : Type} {enc : TypeId × Value → H} {b0 : Nat} {spare : Nat → Bool} {held : Bool} {d : DataW H} {p : List MemPlace} (h : DataW.Trod enc P W b0 spare held 23 v d p) : ∃ x : Ev, x.Wf ∧ v = x.val := by
  obtain ⟨cs, rfl, hsz⟩ := okWide_struct hs hv
  subst hP
  obtain ⟨x, w, ho⟩ := ofEv (fitEv _ _ 0 (fit_of_Trod 2 h))
  refine ⟨x, w, ?_⟩
  have : cs.toList = x.cells := ho
  show Value.agg cs = Value.agg _
  congr 1
  exact Array.toList_inj.mp this
end Go.Proofs.Ytbojjcmhdklhbaa
