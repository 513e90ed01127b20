/- Events: how a list of events that came in is opened, and what the bound of the statement's second form gives. Conditions: none. -/
import Derived.Test.YtbojjcmhdklhbaaE5
import Derived.Test.YtbojjcmhdklhbaaE6
import Derived.Test.YtbojjcmhdklhbaaAxL
set_option maxRecDepth 100000
namespace Go.Proofs.Ytbojjcmhdklhbaa
open Go.Ax Go.RowKit Go.ChangeShapes Go.WideShapes Go.ChangeAt

theorem openEvs {P : Program} {W : World} {t : TypeId} (ht : P.underlying t = some (.slice 23)) (hP : P = Try.prog)
    {H : Type} {enc : TypeId × Value → H} {b0 : Nat} {spare : Nat → Bool} {held : Bool} {d : DataW H} {p : List MemPlace} {A : Option Addr} {n c : Nat} (h : DataW.Trod enc P W b0 spare held t (.slice A n c) d p) :
    ∃ l : List Ev, HasEvs (hp W) A n l ∧ ∀ x ∈ l, x.Wf := by
  subst hP
  have f := fit_of_Trod 3 h
  unfold Fit at f
  rw [ht] at f
  obtain ⟨A', n', c', e1, h1, h2, h3, h4⟩ := f
  simp [Value.cells] at e1
  obtain ⟨rfl, rfl, rfl⟩ := e1
  have hc : Try.prog.cellsOf 23 = 9 := by kernel_rfl
  obtain ⟨l, hl, hp'⟩ := list_of (p := fun i (x : Ev) => x.Wf ∧ ∃ a, A = some a ∧ At (hp W) (a.add (i * 9)) x.cells) n fun i hi => by
    cases hA : A with
    | none => have := h3 hA; omega
    | some a =>
      obtain ⟨cs', hl, hat, hf⟩ := h4 a hA i hi
      obtain ⟨x, w, hx⟩ := ofEv (fitEv _ _ 0 hf)
      rw [hc] at hat
      subst hx
      exact ⟨x, w, a, rfl, hat (by decide)⟩
  refine ⟨l, ⟨hl.symm, fun i x hx => (hp' i x hx).2⟩, fun x hx => ?_⟩
  obtain ⟨i, hi, rfl⟩ := List.getElem_of_mem hx
  exact (hp' i _ (List.getElem?_eq_getElem hi)).1
theorem bytesEv : Try.prog.bytesOf 23 = 72 := by kernel_rfl
/-- the bound: a text's length -/
theorem upto_string {H : Type} {ds : List (DataW H)} {s : ByteArray} (hk : Rows.uptoSmall H ds = true) (hm : DataW.lit (.string s.data.toList) ∈ ds) : s.size ≤ 1048576 := by
  have h : Rows.uptoBulkAll ds ≤ 1048576 := of_decide_eq_true hk
  have aux : ∀ l : List (DataW H), DataW.lit (.string s.data.toList) ∈ l → s.size + 1 ≤ Rows.uptoBulkAll l := by
    intro l
    induction l with
    | nil => intro h; cases h
    | cons x l ih =>
      intro hm
      rcases List.mem_cons.1 hm with e | e
      · subst e; simp [Rows.uptoBulkAll, Rows.uptoBulk]
      · have := ih e; simp only [Rows.uptoBulkAll]; omega
  have := aux ds hm
  omega
/-- the bound: a list's length -/
theorem upto_slice {H : Type} {enc : TypeId × Value → H} {P : Program} {w : World} {base : Nat} {spare : Nat → Bool} {held : Bool} {t e : TypeId} {A : Option Addr} {n c : Nat} {d : DataW H} {p : List MemPlace} {ds : List (DataW H)}
    (hk : Rows.uptoSmall H ds = true) (hm : d ∈ ds) (hu : P.underlying t = some (.slice e)) (h : DataW.Trod enc P w base spare held t (.slice A n c) d p) : n ≤ 1048576 := by
  have hb : Rows.uptoBulkAll ds ≤ 1048576 := of_decide_eq_true hk
  have one : ∀ d : DataW H, 1 ≤ Rows.uptoBulk d := by
    intro d
    cases d with
    | lit l => cases l <;> simp [Rows.uptoBulk]
    | nil => simp [Rows.uptoBulk]
    | ptr d => simp [Rows.uptoBulk]
    | slice a b => simp [Rows.uptoBulk]
    | agg a => simp [Rows.uptoBulk]
    | iface t d => simp [Rows.uptoBulk]
    | map a => simp [Rows.uptoBulk]
    | held h => simp [Rows.uptoBulk]
  have len : ∀ l : List (DataW H), l.length ≤ Rows.uptoBulkAll l := by
    intro l
    induction l with
    | nil => simp [Rows.uptoBulkAll]
    | cons x l ih => have := one x; simp only [Rows.uptoBulkAll, List.length_cons]; omega
  have aux : ∀ l : List (DataW H), d ∈ l → Rows.uptoBulk d ≤ Rows.uptoBulkAll l := by
    intro l
    induction l with
    | nil => intro h; cases h
    | cons x l ih =>
      intro hm
      rcases List.mem_cons.1 hm with e | e
      · subst e; simp only [Rows.uptoBulkAll]; omega
      · have := ih e; simp only [Rows.uptoBulkAll]; omega
  have hd := aux ds hm
  rcases trod_slice_len hu h with ⟨rfl, _⟩ | ⟨elems, sp, rfl, rfl⟩
  · omega
  · have := len elems
    simp only [Rows.uptoBulk] at hd
    omega
end Go.Proofs.Ytbojjcmhdklhbaa
