/- Ax, the row's frame: what an argument's reading tells of the heap ('Fit'), and how a contract becomes the call's outcome. Conditions: none. -/
import Derived.Test.YtanahoejlnmfiaaAx
import Derived.WalkKit
import Derived.ProofKit
import Derived.OpenShut
import Derived.ShutString
import Derived.ChangeOld
import Derived.Below
import Derived.Deep.Slices
namespace Go.Ax
open Go.RowKit Go.ChangeShapes Go.WideShapes Go.ChangeAt

/-- What is known of a variable's cells: their kinds, and what lies behind slices and pointers, 'n' levels deep. -/
def FitFs (F : TypeId → List Value → Prop) (P : Program) (cs : List Value) : List Field → Prop
  | [] => True
  | f :: l => F f.type ((cs.drop f.offset).take (P.cellsOf f.type)) ∧ FitFs F P cs l
def Fit (P : Program) (H : Heap) : Nat → TypeId → List Value → Prop
  | 0, _, _ => True
  | n + 1, t, cs => match P.underlying t with
    | some .bool => ∃ b, cs = [.bool b]
    | some (.int k) => ∃ x, cs = [.int k x] ∧ (Lit.int k x).wf = true
    | some .string => ∃ s, cs = [.string s] ∧ s.size ≤ maxLen
    | some (.slice e) => ∃ A len cap, cs = [.slice A len cap] ∧ len ≤ cap ∧ cap ≤ maxLen ∧ (A = none → len = 0 ∧ cap = 0) ∧
        ∀ a, A = some a → ∀ i, i < len → ∃ cs', cs'.length = P.cellsOf e ∧ (0 < P.cellsOf e → At H (a.add (i * P.cellsOf e)) cs') ∧ Fit P H n e cs'
    | some (.struct fs) => cs.length = P.cellsOf t ∧ FitFs (Fit P H n) P cs fs.toList
    | some (.array m e) => cs.length = P.cellsOf t ∧ ∀ i, i < m → Fit P H n e ((cs.drop (i * P.cellsOf e)).take (P.cellsOf e))
    | _ => True

/-- The heap of a world, as a fragment. -/
def hp (w : World) : Heap := fun b => w.heap[b]?
theorem hp_holds (w : World) : Holds (hp w) w := fun _ _ h => h

theorem add_add (a : Addr) (i j : Nat) : (a.add i).add j = a.add (i + j) := by
  unfold Addr.add
  by_cases hi : i = 0
  · subst hi; simp
  · by_cases hj : j = 0
    · subst hj; simp [hi]
    · rw [if_neg hi, if_neg hj, if_neg (by omega)]; simp [Nat.add_assoc]

theorem at_of_cells {w : World} {base : Nat} {a : Addr} {n : Nat} {cs : List Value} (hn : 0 < n) (h : w.cells? base a n = some cs) : At (hp w) a cs := by
  obtain ⟨_, hl, hc⟩ := World.cells?_some h
  have h0 := hc 0 hn
  have hne : cs[0]? = some cs[0] := by simp
  rw [hne] at h0
  rw [show a.add 0 = a from rfl] at h0
  have hs := World.cell?_spot h0
  unfold World.cell? at h0
  split at h0
  · rename_i c t fz hb
    refine ⟨⟨c, t, fz, hb, hs, fun j v hv => ?_⟩⟩
    have hj : j < n := by
      have : j < cs.length := by
        rcases Nat.lt_or_ge j cs.length with h | h
        · exact h
        · rw [List.getElem?_eq_none h] at hv; cases hv
      omega
    have := hc j hj
    rw [hv] at this
    unfold World.cell? Addr.add at this
    by_cases hj0 : j = 0
    · subst hj0; simpa [hb, hs] using this
    · simpa [hj0, hb] using this
  · cases h0

theorem fit_of_trod {H : Type} {enc : TypeId × Value → H} {P : Program} {w : World} {base : Nat} {spare : Nat → Bool} {held : Bool} : ∀ (n fuel : Nat) (t : TypeId) (cs : List Value) (x : DataW H × List MemPlace),
    DataW.trod enc P w base spare held fuel t cs = some x → Fit P (hp w) n t cs := by
  intro n
  induction n with
  | zero => intro _ _ _ _ _; trivial
  | succ n ih =>
    intro fuel t cs x h
    unfold Fit
    cases hu : P.underlying t with
    | none => trivial
    | some ti =>
      cases ti with
      | bool => obtain ⟨b, e, _⟩ := DataW.trod_bool hu h; exact ⟨b, e⟩
      | int k => obtain ⟨b, e, _, wf⟩ := DataW.trod_int hu h; exact ⟨b, e, wf⟩
      | string => obtain ⟨b, e, _, wf⟩ := DataW.trod_string hu h; exact ⟨b, e, wf⟩
      | slice e =>
        rcases Deep.open_slice hu h with ⟨rfl, _⟩ | ⟨a, len, cap, m, k, D, Pl, rfl, hb, hl, hm, hmm, _, hx⟩
        · exact ⟨none, 0, 0, rfl, Nat.le_refl _, Nat.zero_le _, fun _ => ⟨rfl, rfl⟩, fun a ha => nomatch ha⟩
        · refine ⟨some a, len, cap, rfl, hl, hm, (fun ha => nomatch ha), fun a' ha i hi => ?_⟩
          cases ha
          obtain ⟨cs', h1, h2⟩ := hx i (by rw [hmm]; split <;> omega)
          exact ⟨cs', (World.cells?_some h1).2.1, fun hp => at_of_cells hp h1, ih _ _ _ _ h2⟩
      | struct fs =>
        obtain ⟨xs, k, _, _, hl, hlen, hf⟩ := DataW.trod_struct hu h
        refine ⟨hl, ?_⟩
        have aux : ∀ (l : List Field), (∀ f ∈ l, ∃ i : Nat, fs[i]? = some f) → FitFs (Fit P (hp w) n) P cs l := by
          intro l
          induction l with
          | nil => intro _; trivial
          | cons f l il =>
            intro hm
            refine ⟨?_, il fun g hg => hm g (List.mem_cons_of_mem _ hg)⟩
            obtain ⟨i, hi⟩ := hm f (List.mem_cons_self ..)
            have hi' : i < xs.length := by
              have : i < fs.size := by
                rcases Nat.lt_or_ge i fs.size with h | h
                · exact h
                · rw [Array.getElem?_eq_none h] at hi; cases hi
              omega
            have := hf i f hi
            rw [List.getElem?_eq_getElem hi'] at this
            exact ih _ _ _ _ this
        exact aux _ fun f hf => by
          obtain ⟨i, hi, rfl⟩ := List.getElem_of_mem hf
          exact ⟨i, by simp at hi ⊢⟩
      | array m e =>
        obtain ⟨xs, k, _, _, hl, hlen, hf⟩ := DataW.trod_array hu h
        refine ⟨hl, fun i hi => ?_⟩
        have := hf i hi
        rw [List.getElem?_eq_getElem (by omega)] at this
        exact ih _ _ _ _ this
      | _ => trivial

theorem fit_of_Trod {H : Type} {enc : TypeId × Value → H} {P : Program} {w : World} {base : Nat} {spare : Nat → Bool} {held : Bool} {t : TypeId} {v : Value} {d : DataW H} {p : List MemPlace} (n : Nat)
    (h : DataW.Trod enc P w base spare held t v d p) : Fit P (hp w) n t v.cells.toList := by
  obtain ⟨fuel, hf⟩ := h
  exact fit_of_trod n fuel t _ _ hf

theorem below_of_tr {P : Program} {f : FuncId} {args : Array Value} {w : World} {r : Value} (h : Tr P f args (hp w) fun v H' => v = r ∧ Sub (hp w) H') :
    Calls P f args w fun e w' => e = .returned r ∧ Below w.heap.size w w' := by
  refine (h.run w (hp_holds w)).mono fun e w' ⟨v, H', he, k, hv, hs⟩ => ?_
  subst hv
  refine ⟨he, k.os, k.tape, k.output, k.size, fun b hb => ?_⟩
  have : w.heap[b]? = some w.heap[b] := Array.getElem?_eq_getElem hb
  rw [this]
  exact k.holds b _ (hs.sub b _ this)

/-- a list out of its elements -/
theorem list_of {α : Type} {p : Nat → α → Prop} : ∀ n : Nat, (∀ i, i < n → ∃ x, p i x) → ∃ l : List α, l.length = n ∧ ∀ i x, l[i]? = some x → p i x
  | 0, _ => ⟨[], rfl, fun i x h => by simp at h⟩
  | n + 1, h => by
    obtain ⟨l, hl, hp⟩ := list_of n fun i hi => h i (by omega)
    obtain ⟨x, hx⟩ := h n (by omega)
    refine ⟨l ++ [x], by simp [hl], fun i y hy => ?_⟩
    by_cases hi : i < n
    · rw [List.getElem?_append_left (by omega)] at hy; exact hp i y hy
    · rw [List.getElem?_append_right (by omega)] at hy
      have : i = n := by
        rcases Nat.lt_or_ge (i - l.length) 1 with h | h
        · omega
        · rw [List.getElem?_eq_none (by simpa using h)] at hy; cases hy
      subst this
      simp [hl] at hy
      subst hy; exact hx
theorem wf_i64 {x : Int} (h : (Lit.int .i64 x).wf = true) : -9223372036854775808 ≤ x ∧ x ≤ 9223372036854775807 := by
  simp [Lit.wf, IntKind.min, IntKind.max, IntKind.signed, IntKind.bits] at h; omega
theorem wf_u64 {x : Int} (h : (Lit.int .u64 x).wf = true) : 0 ≤ x ∧ x < 18446744073709551616 := by
  simp [Lit.wf, IntKind.min, IntKind.max, IntKind.signed, IntKind.bits] at h; omega
end Go.Ax
