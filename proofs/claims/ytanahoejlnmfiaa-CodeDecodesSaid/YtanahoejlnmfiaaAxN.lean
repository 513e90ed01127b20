/- Ax, the row's frame: what an argument's reading tells of the heap, with the form's own reach on each slice in it ('FitS'). Conditions: none. -/
import Derived.Test.YtanahoejlnmfiaaAxL
namespace Go.Ax
open Go.RowKit Go.ChangeShapes Go.WideShapes Go.ChangeAt

/-- As 'Fit'; and a slice's elements are of bounded bulk. -/
def FitS (P : Program) (H : Heap) : Nat → TypeId → List Value → Prop
  | 0, _, _ => True
  | n + 1, t, cs => match P.underlying t with
    | some .bool => ∃ b, cs = [.bool b]
    | some (.int k) => ∃ x, cs = [.int k x] ∧ (Lit.int k x).wf = true
    | some .string => ∃ s, cs = [.string s] ∧ s.size ≤ 140737488351232
    | some (.slice e) => ∃ A len cap, cs = [.slice A len cap] ∧ len ≤ cap ∧ cap ≤ maxLen ∧ len * P.bytesOf e ≤ 140737488351232 ∧ (A = none → len = 0 ∧ cap = 0) ∧
        ∀ a, A = some a → ∀ i, i < len → ∃ cs', cs'.length = P.cellsOf e ∧ (0 < P.cellsOf e → At H (a.add (i * P.cellsOf e)) cs') ∧ FitS P H n e cs'
    | some (.struct fs) => cs.length = P.cellsOf t ∧ FitFs (FitS P H n) P cs fs.toList
    | _ => True
theorem weights_all {H : Type} {P : Program} {e : TypeId} : ∀ {l : List (DataW H)} {d : DataW H}, d ∈ l → ∀ n ∈ d.weights P e, n ∈ DataW.weightsAll P e l
  | x :: l, d, h, n, hn => by
    simp only [DataW.weightsAll, List.mem_append]
    rcases List.mem_cons.1 h with rfl | h
    · exact .inl hn
    · exact .inr (weights_all h n hn)
theorem fits_of_trod {H : Type} {enc : TypeId × Value → H} {P : Program} {w : World} {base : Nat} {spare : Nat → Bool} {held : Bool} : ∀ (n fuel : Nat) (t : TypeId) (cs : List Value) (x : DataW H × List MemPlace),
    DataW.trod enc P w base spare held fuel t cs = some x → (∀ m ∈ x.1.weights P t, m ≤ 140737488351232) → FitS P (hp w) n t cs := by
  intro n
  induction n with
  | zero => intro _ _ _ _ _ _; trivial
  | succ n ih =>
    intro fuel t cs x h hw
    unfold FitS
    cases hu : P.underlying t with
    | none => trivial
    | some ti =>
      cases ti with
      | bool => obtain ⟨b, e, _⟩ := DataW.trod_bool hu h; exact ⟨b, e⟩
      | int k => obtain ⟨b, e, _, wf⟩ := DataW.trod_int hu h; exact ⟨b, e, wf⟩
      | string =>
        obtain ⟨b, e, hx, wf⟩ := DataW.trod_string hu h
        refine ⟨b, e, ?_⟩
        have := hw b.data.toList.length (by rw [hx]; simp [DataW.weights])
        have e2 : b.data.toList.length = b.size := by simp
        omega
      | slice e =>
        rcases Deep.open_slice hu h with ⟨rfl, _⟩ | ⟨a, len, cap, m, k, D, Pl, rfl, hb, hl, hm, hmm, hx0, hx⟩
        · exact ⟨none, 0, 0, rfl, Nat.le_refl _, Nat.zero_le _, by omega, fun _ => ⟨rfl, rfl⟩, fun a ha => nomatch ha⟩
        · subst hx0
          refine ⟨some a, len, cap, rfl, hl, hm, ?_, (fun ha => nomatch ha), fun a' ha i hi => ?_⟩
          · have := hw ((((List.range len).map D).length + ((List.range (m - len)).map fun j => D (len + j)).length) * P.bytesOf e) (by simp [DataW.weights, hu])
            refine Nat.le_trans (Nat.mul_le_mul_right _ ?_) this
            simp
          · cases ha
            obtain ⟨cs', h1, h2⟩ := hx i (by rw [hmm]; split <;> omega)
            refine ⟨cs', (World.cells?_some h1).2.1, fun hp => at_of_cells hp h1, ih _ _ _ _ h2 fun q hq => hw q ?_⟩
            simp only [DataW.weights, hu, List.mem_cons, List.mem_append]
            exact .inr (.inl (weights_all (l := (List.range len).map D) (List.mem_map.2 ⟨i, by simpa using hi, rfl⟩) q hq))
      | struct fs =>
        obtain ⟨xs, k, _, hxe, hl, hlen, hf⟩ := DataW.trod_struct hu h
        subst hxe
        refine ⟨hl, ?_⟩
        have aux : ∀ (l : List Field), (∀ f ∈ l, ∃ i : Nat, fs[i]? = some f) → FitFs (FitS P (hp w) n) P cs l := by
          intro l
          induction l with
          | nil => intro _; trivial
          | cons f l il =>
            intro hm
            refine ⟨?_, il fun g hg => hm g (List.mem_cons_of_mem _ hg)⟩
            obtain ⟨i, hi⟩ := hm f (List.mem_cons_self ..)
            have hi' : i < xs.length := by
              have : i < fs.size := by
                rcases Nat.lt_or_ge i fs.size with h | h
                · exact h
                · rw [Array.getElem?_eq_none h] at hi; cases hi
              omega
            have hq := hf i f hi
            rw [List.getElem?_eq_getElem hi'] at hq
            refine ih _ _ _ _ hq fun q hq2 => hw q ?_
            simp only [DataW.weights, hu]
            exact DataW.weights_mem_each (j := i) (t := f.type) (d := xs[i].1) (by simp [hi]) (by simp [List.getElem?_eq_getElem hi']) q hq2
        exact aux _ fun f hf => by
          obtain ⟨i, hi, rfl⟩ := List.getElem_of_mem hf
          exact ⟨i, by simp at hi ⊢⟩
      | _ => trivial
theorem fits_of_Trod {H : Type} {enc : TypeId × Value → H} {P : Program} {w : World} {base : Nat} {spare : Nat → Bool} {held : Bool} {t : TypeId} {v : Value} {d : DataW H} {p : List MemPlace} (n : Nat)
    {ts : List TypeId} {ds : List (DataW H)} (hsz : (DataW.weightsEach P ts ds).all (· ≤ reachBytes) = true) {j : Nat} (ht : ts[j]? = some t) (hd : ds[j]? = some d)
    (h : DataW.Trod enc P w base spare held t v d p) : FitS P (hp w) n t v.cells.toList := by
  obtain ⟨fuel, hf⟩ := h
  refine fits_of_trod n fuel t _ _ hf fun m hm => ?_
  have := List.all_eq_true.1 hsz _ (DataW.weights_mem_each ht hd m hm)
  have hr : reachBytes = 140737488351232 := by decide
  rw [hr] at this
  simpa using this
end Go.Ax
