/- Grammar: the laws GrammarOpens: what is open is the document's. Conditions: the list in memory, each event well formed. -/
import Derived.Test.YtbojjcmhdklhbaaG7
set_option maxRecDepth 100000
namespace Go.Proofs.Ytbojjcmhdklhbaa
open Go.Ax

theorem openN_len (l : List Ev) : (openN l).length ≤ l.length := by
  have := List.length_filter_le (fun i => opK l i && opX l i) (List.range l.length)
  simpa [openN] using this
theorem openL_len (l : List Ev) : (if stand l < l.length then [] else openG l).length ≤ l.length := by
  split
  · simp
  · have := openN_len l; simpa [openG] using this
theorem t10 {l : List Ev} (hw : ∀ x ∈ l, x.Wf) (hb : l.length * 72 ≤ 140737488355328) {H : Heap} {A : Option Addr} {n c : Nat} (h : HasEvs H A n l) : Tr Try.prog 10 #[.slice A n c] H (fun v H' => v = .bool true ∧ Sub H H') := by
  apply v10; unfold F10
  refine ⟨_, t33 H, (t36 hw hb h).mono fun v H1 => ?_⟩
  rintro ⟨A1, n1, c1, rfl, i1, s1⟩
  refine ⟨_, _, _, _, rfl, (t37 hb (h.sub s1)).mono fun v H2 => ?_⟩
  rintro ⟨A2, n2, c2, rfl, i2, s2⟩
  have hl := openL_len l
  refine ⟨_, _, _, _, rfl, _, _, t38 hw hb (h.sub (s1.trans s2)), _, _, t39 (by omega) (h.sub (s1.trans s2)), _, t40 (by omega) (i1.sub s2) i2, ?_, s1.trans s2⟩
  simp
end Go.Proofs.Ytbojjcmhdklhbaa
