/- Ax, fourth part: slices, calls that leave memory alone, and all of 'valA'. Conditions: those of each lemma. -/
import Derived.Test.YtanahoejlnmfiaaAxT
namespace Go.Ax
open Go.RowKit

section
variable {P : Program} {bs : List Nat} {G : Option Bool}

theorem bound_ok (w : World) (k : IntKind) (i : Int) (y : Nat) (code : BoundsCode) (h : 0 ≤ i ∧ i ≤ y) : (Instr.sliceBound (.int k i) y code).run P w = .ok i.toNat w := by
  simp [Instr.sliceBound, asIntOf, h]

theorem sliceA_sound (hG : ∀ g, G = some g → g = true) {t : TypeId} {x : AV} {y : Value} (hx : BRel bs x y) {lo hi : Option AV} {vlo vhi : Option Value}
    (hlo : match lo, vlo with | none, none => True | some u, some v => BRel bs u v | _, _ => False)
    (hhi : match hi, vhi with | none, none => True | some u, some v => BRel bs u v | _, _ => False) {K : AV → Prop} (h : sliceA P G t x lo hi K) (hi' : ∀ e, P.underlying t = some (.slice e) → (P.info? e).isSome = true) :
    Yl P bs (Instr.sliceAt t y vlo vhi none) K := by
  unfold sliceA at h
  split at h
  · rename_i s hu
    have hy : y = .string s := hx
    subst hy
    cases vlo <;> cases vhi <;> simp only at hlo hhi
    refine .mk _ h fun w => ?_
    simp [Instr.sliceAt, Instr.slice, Instr.sliceBounds, run_underlying hu]
  · rename_i s k l hu
    have hy : y = .string s := hx
    subst hy
    cases vlo <;> cases vhi <;> simp only at hlo hhi
    rename_i v
    have hv : v = .int k l := hlo
    subst hv
    have h0 := ob_of hG h.1
    refine .mk _ h.2 fun w => ?_
    simp [Instr.sliceAt, Instr.slice, Instr.sliceBounds, run_underlying hu, bound_ok w k l s.size _ h0]
  · rename_i s k l hu
    have hy : y = .string s := hx
    subst hy
    cases vlo <;> cases vhi <;> simp only at hlo hhi
    rename_i v
    have hv : v = .int k l := hhi
    subst hv
    have h0 := ob_of hG h.1
    refine .mk _ h.2 fun w => ?_
    simp [Instr.sliceAt, Instr.slice, Instr.sliceBounds, run_underlying hu, bound_ok w k l s.size _ h0]
  · rename_i s k l k' l' hu
    have hy : y = .string s := hx
    subst hy
    cases vlo <;> cases vhi <;> simp only at hlo hhi
    rename_i v v'
    have hv : v = .int k l := hlo
    have hv' : v' = .int k' l' := hhi
    subst hv; subst hv'
    have h0 := ob_of hG h.1
    refine .mk _ h.2 fun w => ?_
    simp [Instr.sliceAt, Instr.slice, Instr.sliceBounds, run_underlying hu, bound_ok w k' l' s.size _ ⟨h0.1, h0.2.1⟩, bound_ok w k l l'.toNat _ ⟨h0.2.2.1, by omega⟩]
  · rename_i e A n c hu
    have hy : y = .slice A n c := hx
    subst hy
    cases vlo <;> cases vhi <;> simp only at hlo hhi
    refine .mk _ h fun w => ?_
    simp [Instr.sliceAt, Instr.slice, Instr.sliceBounds, run_underlying hu, size_run (hi' e hu) w]
  · rename_i e A n c k l hu
    have hy : y = .slice A n c := hx
    subst hy
    cases vlo <;> cases vhi <;> simp only at hlo hhi
    rename_i v
    have hv : v = .int k l := hlo
    subst hv
    have h0 := ob_of hG h.1
    refine .mk _ h.2 fun w => ?_
    simp [Instr.sliceAt, Instr.slice, Instr.sliceBounds, run_underlying hu, size_run (hi' e hu) w, bound_ok w k l n _ h0]
  · rename_i e A n c k l hu
    have hy : y = .slice A n c := hx
    subst hy
    cases vlo <;> cases vhi <;> simp only at hlo hhi
    rename_i v
    have hv : v = .int k l := hhi
    subst hv
    have h0 := ob_of hG h.1
    refine .mk _ h.2 fun w => ?_
    simp [Instr.sliceAt, Instr.slice, Instr.sliceBounds, run_underlying hu, size_run (hi' e hu) w, bound_ok w k l c _ h0]
  · rename_i e A n c k l k' l' hu
    have hy : y = .slice A n c := hx
    subst hy
    cases vlo <;> cases vhi <;> simp only at hlo hhi
    rename_i v v'
    have hv : v = .int k l := hlo
    have hv' : v' = .int k' l' := hhi
    subst hv; subst hv'
    have h0 := ob_of hG h.1
    refine .mk _ h.2 fun w => ?_
    simp [Instr.sliceAt, Instr.slice, Instr.sliceBounds, run_underlying hu, size_run (hi' e hu) w, bound_ok w k' l' c _ ⟨h0.1, h0.2.1⟩, bound_ok w k l l'.toNat _ ⟨h0.2.2.1, by omega⟩]
  · exact h.elim

theorem canCall_run {f : FuncId} (h : canCall P f = true) (args : Array Value) (w : World) : (callFunc f args).run P w = .ok (.enter f args) w := by
  unfold canCall at h
  split at h
  · rename_i fn hfn
    split at h
    · rename_i c hc
      have h1 : fn.name ≠ "runtime.NumGoroutine" := by simpa using h
      simp [callFunc, hfn, h1, hc]
    · cases h
  · cases h

theorem target_run {ρ : Operand → Value} {c : Call} {fo : Operand} (hc : c.callee = .value fo) {fa : AV} (hf : BRel bs fa (ρ fo)) {l : List Value} (hl : c.args.toList.map ρ = l) {g : FuncId} {l' : List Value}
    (ht : target fa l = some (g, l')) (hcall : canCall P g = true) (ty : TypeId) (w : World) :
    (do let d ← resolve ρ c ty; invoke d.target d.args : Sem Next).run P w = .ok (.enter g ⟨l'⟩) w := by
  unfold target at ht
  split at ht
  · rename_i g' first cap
    simp only [Option.some.injEq, Prod.mk.injEq] at ht
    obtain ⟨rfl, rfl⟩ := ht
    have hf : ρ fo = .func (.func g') first cap := hf
    have ha : c.args.map ρ = ⟨l⟩ := by apply Array.ext'; simpa using hl
    simp only [resolve, hc, hf, Deferred.ofValue, Sem.run_bind, Sem.run_pure, Result.andThen_ok, invoke, ha]
    rw [canCall_run hcall]
    congr 2
    apply Array.ext'
    simp
  · cases ht
end

section
variable {C : Cx} {ds : List Nat} {p : Pro} {z : Nat → Value} {zb : ZB} {H0 : Heap} {w0 : World} {bs : List Nat} {S : AS} {a : Act} {G : Option Bool}

/-- A call that kept 'H' and told nothing new that matters. -/
theorem WC.quiet {w w' : World} {H' : Heap} (h : WC ds p zb H0 w0 bs S.bx S.H w) (k : Keeps S.H w H' w') (hs : Sub S.H H') : WC ds p zb H0 w0 bs S.bx S.H w' := by
  refine ⟨h.blen, h.nodup, fun i b cs hb hc => ?_, h.okf, h.lnf, ?_, fun D hD => ?_, h.dn, h.bk⟩
  · obtain ⟨h1, h2, c, T, h3, h4⟩ := h.boxes i b cs hb hc
    have hlt : b < w.heap.size := by
      rcases Nat.lt_or_ge b w.heap.size with hh | hh
      · exact hh
      · rw [Array.getElem?_eq_none hh] at h3; cases h3
    exact ⟨h1, h2, c, T, (k.old b hlt h2).1.trans h3, h4⟩
  · exact ⟨k.holds.sub hs, fun b hb e => by
      obtain ⟨a1, a2⟩ := h.keeps.old b hb e
      exact ⟨(k.old b (Nat.lt_of_lt_of_le hb h.keeps.size) a2).1.trans a1, a2⟩, Nat.le_trans h.keeps.size k.size, k.tape.trans h.keeps.tape, k.os.trans h.keeps.os, k.output.trans h.keeps.output⟩
  · obtain ⟨d1, d2, d3⟩ := h.dq D hD
    exact ⟨d1, d2, (k.old D (Array.getElem?_eq_some_iff.1 d3).1 d2).1.trans d3⟩

theorem parts_sound (hF : FC ds p z bs S a) {anc : List (Nat × Bool)} (ha : ∀ q ∈ anc, a.tmps.getD q.1 undef = .bool q.2) : ∀ (l : List (Nat × Operand)) (r : List (Nat × Value)), partsA S anc l = some r → l.map (fun q => (q.1, a.eval q.2)) = r
  | [], r, h => by simp [partsA] at h; simp [h]
  | q :: l, r, h => by
    have hx := evA_sound hF ha q.2
    simp only [partsA] at h
    split at h
    · rename_i x r' h1 h2
      simp only [Option.some.injEq] at h
      subst h
      rw [h1] at hx
      rw [List.map_cons, parts_sound hF ha l r' h2, show a.eval q.2 = x from hx]
    · rename_i b r' h1 h2
      simp only [Option.some.injEq] at h
      subst h
      rw [h1] at hx
      rw [List.map_cons, parts_sound hF ha l r' h2, show a.eval q.2 = .bool b from hx]
    · cases h

/-- What an operation that leaves memory alone does: in every world of the class it yields one value. -/
def Quiet (C : Cx) (W : World → Prop) (bs : List Nat) (o : Oper) (a : Act) (K : AV → Prop) : Prop := ∃ x v, BRel bs x v ∧ K x ∧ ∀ w, W w → o.quietAt C.P a W w v

theorem Quiet.of_run {W : World → Prop} {o : Oper} {K : AV → Prop} (h : ∃ x v, BRel bs x v ∧ K x ∧ ∀ w, W w → (execOp a.eval o).run C.P w = .ok (.value v) w) : Quiet C W bs o a K := by
  obtain ⟨x, v, h1, h2, h3⟩ := h
  exact ⟨x, v, h1, h2, fun w hw => by unfold Oper.quietAt; rw [h3 w hw]; exact ⟨rfl, rfl⟩⟩
theorem Quiet.of_yl {W : World → Prop} {o : Oper} {K : AV → Prop} {s : Sem Value} (he : execOp a.eval o = (do pure (.value (← s)))) (h : YlC C.P bs W s K) : Quiet C W bs o a K := by
  obtain ⟨x, v, h1, h2, h3⟩ := h
  refine .of_run ⟨x, v, h1, h2, fun w hw => ?_⟩
  rw [he]
  simp [h3 w hw]
theorem Quiet.of_val {W : World → Prop} {o : Oper} {K : AV → Prop} (v : Value) (hk : K (.v v)) (he : ∀ w, (execOp a.eval o).run C.P w = .ok (.value v) w) : Quiet C W bs o a K := .of_run ⟨.v v, v, rfl, hk, fun w _ => he w⟩

theorem callQ_sound (hG : ∀ g, G = some g → g = true) {o : Oper} {g : FuncId} {l : List Value} {K : AV → Prop} (h : callQ C G S.H g l K)
    (he : canCall C.P g = true → ∀ w, (execOp a.eval o).run C.P w = .ok (.enter g ⟨l⟩) w) : Quiet C (WC ds p zb H0 w0 bs S.bx S.H) bs o a K := by
  unfold callQ at h
  split at h
  · rename_i fn hcall hfn
    split at h
    · rename_i sh hsh
      obtain ⟨r, h1, h2⟩ := (exV_iff _ _).1 h
      have hT := ob_of hG h1
      refine ⟨.v (mkRes C.P fn.resultTypes.toList (enc sh r)), mkRes C.P fn.resultTypes.toList (enc sh r), rfl, h2, fun w hw => ?_⟩
      unfold Oper.quietAt
      rw [he hcall w]
      refine ⟨rfl, (hT.run w hw.keeps.holds).mono ?_⟩
      rintro e w' ⟨v, H', rfl, hk, rfl, hs⟩
      exact ⟨rfl, hw.quiet hk hs⟩
    · exact h.elim
  · exact h.elim
end
end Go.Ax
