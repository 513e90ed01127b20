/- Ax, ninth part: regions. Conditions: those of each lemma. -/
import Derived.Test.YtbojjcmhdklhbaaAxY
namespace Go.Ax
open Go.RowKit

section
variable {C : Cx} {p : Pro} {z : Nat → Value} {zb : ZB} {H0 : Heap} {w0 : World} {bs : List Nat} {S : AS} {a : Act} {Q : Exit → Act → World → Prop}

theorem getD_put {tm : Array Value} {d t : Nat} {v : Value} (hd : d < tm.size) : (tm.setIfInBounds d v).getD t undef = if d = t then v else tm.getD t undef := by
  by_cases h : d = t
  · subst h; simp [hd]
  · simp [Array.getElem?_setIfInBounds_ne h, h]

theorem noI_brel {x : AV} {v : Value} (h : BRel bs x v) : BRel bs (noI x) v := by cases x <;> first | exact h | trivial

theorem FC.put (hF : FC p z bs S a) {d : Nat} {x : AV} {v : Value} (hd : p.ok d = true) (hg : hasN S.gs d = false) (h : BRel bs x v) : FC p z bs (S.put d (noI x)) (a.put (some d) v) := by
  have hlt : d < a.tmps.size := by rw [hF.size]; exact hF.okn d hd
  refine ⟨by simpa [Act.put] using hF.size, hF.defers, fun t => ?_, fun t e s w y hy => ?_, fun t ht => ?_, hF.okn⟩
  · show SRel bs (a.tmps.setIfInBounds d v) S.ep (look ((d, noI x) :: S.fr) t) ((a.tmps.setIfInBounds d v).getD t undef)
    rw [look_put, getD_put hlt]
    by_cases hdt : d = t
    · rw [if_pos hdt, if_pos hdt]
      have := noI_brel h
      cases x <;> exact this
    · rw [if_neg hdt, if_neg hdt]
      have hs := hF.slots t
      cases hl : look S.fr t with
      | ifs e s w y =>
        rw [hl] at hs
        intro he
        have hsg := (hF.eps t e s w y hl).2 he
        have hne : d ≠ s := fun e => by subst e; rw [hg] at hsg; cases hsg
        have := hs he
        rw [getD_put hlt, if_neg hne]
        exact this
      | _ => rw [hl] at hs; exact hs
  · have hy : look ((d, noI x) :: S.fr) t = .ifs e s w y := hy
    rw [look_put] at hy
    by_cases hdt : d = t
    · rw [if_pos hdt] at hy
      cases x <;> simp [noI] at hy
    · rw [if_neg hdt] at hy
      exact hF.eps t e s w y hy
  · have hdt : d ≠ t := fun e => by subst e; rw [hd] at ht; cases ht
    show (a.tmps.setIfInBounds d v).getD t undef = z t
    rw [getD_put hlt, if_neg hdt]
    exact hF.zs t ht

theorem FC.putG (hF : FC p z bs S a) {d s : Nat} {w : Bool} {x : AV} {v : Value} (hd : p.ok d = true) (hg : hasN (s :: S.gs) d = false) (h : (a.tmps.getD s undef = .bool w → BRel bs x v) ∧ (a.tmps.getD s undef ≠ .bool w → v = undef)) :
    FC p z bs { S with fr := (d, .ifs S.ep s w x) :: S.fr, gs := s :: S.gs } (a.put (some d) v) := by
  have hlt : d < a.tmps.size := by rw [hF.size]; exact hF.okn d hd
  have hng : ∀ t, hasN (s :: S.gs) t = true → d ≠ t := fun t ht e => by subst e; rw [hg] at ht; cases ht
  have hds : d ≠ s := hng s ((hasN_iff _ _).2 (by simp))
  refine ⟨by simpa [Act.put] using hF.size, hF.defers, fun t => ?_, fun t e s' w' y hy => ?_, fun t ht => ?_, hF.okn⟩
  · show SRel bs (a.tmps.setIfInBounds d v) S.ep (look ((d, .ifs S.ep s w x) :: S.fr) t) ((a.tmps.setIfInBounds d v).getD t undef)
    rw [look_put, getD_put hlt]
    by_cases hdt : d = t
    · rw [if_pos hdt, if_pos hdt]
      intro _
      rw [getD_put hlt, if_neg hds]
      exact h
    · rw [if_neg hdt, if_neg hdt]
      have hs := hF.slots t
      cases hl : look S.fr t with
      | ifs e s' w' y =>
        rw [hl] at hs
        intro he
        have hsg := (hF.eps t e s' w' y hl).2 he
        have hne : d ≠ s' := hng s' ((hasN_iff _ _).2 (List.mem_cons_of_mem _ ((hasN_iff _ _).1 hsg)))
        have := hs he
        rw [getD_put hlt, if_neg hne]
        exact this
      | _ => rw [hl] at hs; exact hs
  · have hy : look ((d, .ifs S.ep s w x) :: S.fr) t = .ifs e s' w' y := hy
    rw [look_put] at hy
    by_cases hdt : d = t
    · rw [if_pos hdt] at hy
      injection hy with h1 h2 h3 h4
      subst h1; subst h2
      exact ⟨Nat.le_refl _, fun _ => (hasN_iff _ _).2 (by simp)⟩
    · rw [if_neg hdt] at hy
      have := hF.eps t e s' w' y hy
      exact ⟨this.1, fun he => (hasN_iff _ _).2 (List.mem_cons_of_mem _ ((hasN_iff _ _).1 (this.2 he)))⟩
  · have hdt : d ≠ t := fun e => by subst e; rw [hd] at ht; cases ht
    show (a.tmps.setIfInBounds d v).getD t undef = z t
    rw [getD_put hlt, if_neg hdt]
    exact hF.zs t ht

theorem finish_sound {x : AV} {v : Value} {o : Oper} {K : AS → Prop} {S' : AS} {bs' : List Nat} (hF : FC p z bs' S' a) (h : BRel bs' x v) (hk : finish p o x S' K) :
    ∃ S'', FC p z bs' S'' (a.put o.dst v) ∧ S''.bx = S'.bx ∧ S''.H = S'.H ∧ K S'' := by
  unfold finish at hk
  split at hk
  · rename_i hd
    rw [hd]
    exact ⟨S', hF, rfl, rfl, hk⟩
  · rename_i d hd
    rw [hd]
    split at hk
    · rename_i hb
      rw [Bool.and_eq_true] at hb
      exact ⟨_, hF.put hb.1 (by simpa using hb.2) h, rfl, rfl, hk⟩
    · exact hk.elim

theorem finishG_sound {x : AV} {v : Value} {o : Oper} {K : AS → Prop} {s : Nat} {w : Bool} (hF : FC p z bs S a) (h : (a.tmps.getD s undef = .bool w → BRel bs x v) ∧ (a.tmps.getD s undef ≠ .bool w → v = undef)) (hk : finishG p s w o x S K) :
    ∃ S'', FC p z bs S'' (a.put o.dst v) ∧ S''.bx = S.bx ∧ S''.H = S.H ∧ K S'' := by
  unfold finishG at hk
  split at hk
  · exact hk.elim
  · rename_i d hd
    rw [hd]
    split at hk
    · rename_i hb
      rw [Bool.and_eq_true] at hb
      exact ⟨_, hF.putG hb.1 (by simpa using hb.2) h, rfl, rfl, hk⟩
    · exact hk.elim

theorem dstAt_eq : ∀ (l : List Oper) (j : Nat), dstAt l j = (l[j]?).bind (·.dst)
  | [], j => by simp [dstAt]
  | o :: l, 0 => by simp [dstAt]
  | o :: l, j + 1 => by simp [dstAt, dstAt_eq l j]

theorem wanted_iff {ops : Array Oper} {o : Oper} {jw : Nat × Bool} (hg : o.guard = some jw) {s : Nat} (hs : dstAt ops.toList jw.1 = some s) (tm : Array Value) :
    Region.wanted o (yielded ops tm) = true ↔ tm.getD s undef = .bool jw.2 := by
  rw [dstAt_eq] at hs
  have hs' : (ops[jw.1]?).bind (·.dst) = some s := by simpa using hs
  unfold Region.wanted
  rw [hg]
  show (yielded ops tm jw.1 == some jw.2) = true ↔ _
  unfold yielded
  rw [hs']
  simp only [Option.bind_some]
  have hD : tm.getD s undef = (tm[s]?).getD undef := by simp
  rw [hD]
  cases ht : tm[s]? with
  | none => simp [undef]
  | some v => cases v <;> simp

theorem binInt_any {G : Option Bool} {op : BinOp} {k k' : IntKind} {x y : Int} {K : AV → Prop} (h : binInt G op k x k' y K) : ∃ x, K x := by
  cases op <;> simp only [binInt] at h
  case shl => exact ⟨_, h.2⟩
  case shr => exact ⟨_, h.2⟩
  all_goals (obtain ⟨_, h2⟩ := kk_of h; clear h)
  case quo => exact ⟨_, h2.2⟩
  case rem => exact ⟨_, h2.2⟩
  all_goals exact ⟨_, h2⟩
theorem binA_any {P : Program} {G : Option Bool} {op : BinOp} {t : TypeId} {x y : AV} {K : AV → Prop} (h : binA P G op t x y K) : ∃ x, K x := by
  unfold binA at h
  split at h
  · exact binInt_any h
  all_goals (repeat' split at h)
  all_goals first
    | exact h.elim
    | exact ⟨_, h.2⟩
    | exact ⟨_, h⟩
theorem pickA_any {anc : List (Nat × Bool)} {c x y : Operand} {K : AV → Prop} (h : pickA S anc c x y K) : ∃ x, K x := by
  unfold pickA at h
  repeat' split at h
  all_goals first
    | exact h.elim
    | exact ⟨_, h⟩
theorem loadA_any {G : Option Bool} {x : AV} {t : TypeId} {K : AV → Prop} (h : loadA C G S x t K) : ∃ x, K x := by
  unfold loadA at h
  repeat' split at h
  all_goals first
    | exact h.elim
    | exact ⟨_, h⟩
    | (obtain ⟨r, _, hr⟩ := (exV_iff _ _).1 h; exact ⟨_, hr⟩)
theorem sliceA_any {P : Program} {G : Option Bool} {t : TypeId} {x : AV} {lo hi : Option AV} {K : AV → Prop} (h : sliceA P G t x lo hi K) : ∃ x, K x := by
  unfold sliceA at h
  split at h
  all_goals first
    | exact h.elim
    | exact ⟨_, h.2⟩
    | exact ⟨_, h⟩
theorem callQ_any {G : Option Bool} {H : Heap} {f : FuncId} {l : List Value} {K : AV → Prop} (h : callQ C G H f l K) : ∃ x, K x := by
  unfold callQ at h
  repeat' split at h
  all_goals first
    | exact h.elim
    | (obtain ⟨r, _, hr⟩ := (exV_iff _ _).1 h; exact ⟨_, hr⟩)
theorem bltA_any {P : Program} {b : Builtin} {ts : List TypeId} {xs : List AV} {K : AV → Prop} (h : bltA P b ts xs K) : ∃ x, K x := by
  unfold bltA at h
  repeat' split at h
  all_goals first
    | exact h.elim
    | exact ⟨_, h⟩
theorem valA_any {G : Option Bool} {anc : List (Nat × Bool)} {o : Oper} {K : AV → Prop} (h : valA C G S anc o K) : ∃ x, K x := by
  unfold valA at h
  split at h
  · exact ⟨_, h⟩
  · exact ⟨_, h⟩
  · exact pickA_any h
  · exact binA_any h
  · split at h <;> first | exact ⟨_, h⟩ | exact h.elim
  · split at h <;> first | exact ⟨_, h⟩ | exact h.elim
  · (repeat' split at h) <;> first | exact ⟨_, h⟩ | (obtain ⟨s, _, h2⟩ := h; exact ⟨_, h2⟩) | exact h.elim
  · (repeat' split at h) <;> first | exact ⟨_, h⟩ | exact h.elim
  · (repeat' split at h) <;> first | exact ⟨_, h⟩ | exact h.elim
  · (repeat' split at h) <;> first | exact h.elim | exact ⟨_, h.2⟩ | (obtain ⟨ad, _, h2⟩ := h; exact ⟨_, h2⟩)
  · (repeat' split at h) <;> first | exact h.elim | (obtain ⟨r, _, hr⟩ := (exV_iff _ _).1 h; exact ⟨_, hr⟩) | (obtain ⟨ad, _, h2⟩ := h; exact ⟨_, h2⟩)
  · split at h <;> first | exact h.elim | exact sliceA_any h
  · (repeat' split at h) <;> first | exact ⟨_, h⟩ | exact h.elim
  · exact loadA_any h
  · (repeat' split at h) <;> first | exact h.elim | exact ⟨_, h⟩ | (obtain ⟨ad, _, h2⟩ := h; exact ⟨_, h2⟩)
  · (repeat' split at h) <;> first | exact ⟨_, h⟩ | exact h.elim
  · (repeat' split at h) <;> first | exact ⟨_, h⟩ | exact h.elim
  · exact bltA_any h
  · (repeat' split at h) <;> first | exact callQ_any h | exact h.elim
  · exact h.elim

/-- The next operation that leaves memory alone. -/
theorem val_step (hF : FC p z bs S a) {w : World} (hW : WC p zb H0 w0 bs S.bx S.H w) {ops : Array Oper} {o : Oper} {K : AS → Prop} (he : isEff C o = false) (h : vcOp C p ops.toList o K S) :
    (Region.wanted o (yielded ops a.tmps) = true → ∃ v, (∀ w', WC p zb H0 w0 bs S.bx S.H w' → o.quietAt C.P a (WC p zb H0 w0 bs S.bx S.H) w' v) ∧ ∃ S', FC p z bs S' (a.put o.dst v) ∧ S'.bx = S.bx ∧ S'.H = S.H ∧ K S') ∧
    (Region.wanted o (yielded ops a.tmps) = false → ∃ S', FC p z bs S' (a.put o.dst undef) ∧ S'.bx = S.bx ∧ S'.H = S.H ∧ K S') := by
  unfold vcOp at h
  split at h
  · rename_i hg
    rw [he] at h
    refine ⟨fun _ => ?_, fun hn => by simp [Region.wanted, hg] at hn⟩
    obtain ⟨x, v, h1, h2, h3⟩ := valA_sound (anc := []) hF (by simp) (by simp) hW h
    exact ⟨v, h3, finish_sound hF h1 h2⟩
  · rename_i jw hg
    split at h
    · rename_i s hs _
      have hw := wanted_iff hg hs a.tmps
      refine ⟨fun hwant => ?_, fun hn => ?_⟩
      · have hsv := hw.1 hwant
        obtain ⟨x, v, h1, h2, h3⟩ := valA_sound hF (ancs_sound hF 8 s jw.2 hsv) (fun g hgg => gB_sound hF 8 s jw.2 g hgg hsv) hW h
        exact ⟨v, h3, finishG_sound hF ⟨fun _ => h1, fun hne => absurd hsv hne⟩ h2⟩
      · have hsv : a.tmps.getD s undef ≠ .bool jw.2 := fun e => by rw [hw.2 e] at hn; cases hn
        obtain ⟨x, hx⟩ := valA_any h
        exact finishG_sound hF ⟨fun e => absurd e hsv, fun _ => rfl⟩ hx
    · exact h.elim

/-- The next operation that turns memory. -/
theorem eff_step (hF : FC p z bs S a) {w : World} (hW : WC p zb H0 w0 bs S.bx S.H w) {ops : Array Oper} {o : Oper} {K : AS → Prop} (he : isEff C o = true) (h : vcOp C p ops.toList o K S) {next : Act → World → Prop}
    (hn : ∀ v w' bs' S', bs <+: bs' → FC p z bs' S' (a.put o.dst v) → WC p zb H0 w0 bs' S'.bx S'.H w' → K S' → next (a.put o.dst v) w') :
    o.guard = none ∧ o.wp C.P a w next Q := by
  unfold vcOp at h
  split at h
  · rename_i hg
    rw [he] at h
    refine ⟨hg, effA_sound hF hW h fun v w' hgo => ?_⟩
    obtain ⟨x, S', bs', hp, e1, e2, e3, hb, hw', hk⟩ := hgo
    obtain ⟨S'', f1, f2, f3, f4⟩ := finish_sound (hF.mono hp e1 e2 e3) hb hk
    exact hn v w' bs' S'' hp f1 (by rw [f2, f3]; exact hw') f4
  · rename_i jw hg
    split at h
    · rename_i hn'; rw [he] at hn'; cases hn'
    · exact h.elim

theorem vcOps_sound {ops : Array Oper} {K : AS → Prop} : ∀ (l : List Oper) {bs : List Nat} {S : AS} {a : Act} {w : World}, vcOps C p ops.toList l K S → FC p z bs S a → WC p zb H0 w0 bs S.bx S.H w →
    (∀ bs' S' a' w', bs <+: bs' → FC p z bs' S' a' → WC p zb H0 w0 bs' S'.bx S'.H w' → K S' → Q .normal a' w') → wpList C.P ops Q l a w
  | [], bs, S, a, w, h, hF, hW, hQ => hQ bs S a w List.prefix_rfl hF hW h
  | o :: l, bs, S, a, w, h, hF, hW, hQ => by
    have h : vcOp C p ops.toList o (vcOps C p ops.toList l K) S := h
    refine wpList_step fun K' hK' => ?_
    cases he : isEff C o with
    | true =>
      obtain ⟨hg, hwp⟩ := eff_step (Q := Q) (next := K') hF hW he h (fun v w' bs' S' hp f1 f2 f3 => hK' _ _ (vcOps_sound l f3 f1 f2 fun bs'' S'' a'' w'' hp' => hQ bs'' S'' a'' w'' (hp.trans hp')))
      rw [if_pos (by simp [Region.wanted, hg])]
      exact hwp
    | false =>
      obtain ⟨h1, h2⟩ := val_step hF hW he h
      split
      · rename_i hw
        obtain ⟨v, q1, S', f1, f2, f3, f4⟩ := h1 hw
        refine Oper.wp_of_quiet (C := WC p zb H0 w0 bs S.bx S.H) (K := fun a' => a' = a.put o.dst v) hW ?_ ⟨v, q1, rfl⟩
        rintro a' w' hw' rfl
        exact hK' _ _ (vcOps_sound l f4 f1 (by rw [f2, f3]; exact hw') hQ)
      · rename_i hw
        obtain ⟨S', f1, f2, f3, f4⟩ := h2 (by simpa using hw)
        exact hK' _ _ (vcOps_sound l f4 f1 (by rw [f2, f3]; exact hW) hQ)

theorem vcQ_sound {ops : Array Oper} {K : AS → Prop} {bx : List (List AV)} {H : Heap} {w : World} (hW : WC p zb H0 w0 bs bx H w) {Qf : Act → Prop} : ∀ (l : List Oper) {S : AS} {a : Act}, noEff C l = true → vcOps C p ops.toList l K S → FC p z bs S a → S.bx = bx → S.H = H →
    (∀ S' a', FC p z bs S' a' → S'.bx = bx → S'.H = H → K S' → Qf a') → wpQuiet C.P ops (WC p zb H0 w0 bs bx H) Qf l a
  | [], S, a, _, h, hF, e1, e2, hQ => hQ S a hF e1 e2 h
  | o :: l, S, a, hn, h, hF, e1, e2, hQ => by
    simp only [noEff, Bool.and_eq_true] at hn
    have h : vcOp C p ops.toList o (vcOps C p ops.toList l K) S := h
    subst e1; subst e2
    obtain ⟨h1, h2⟩ := val_step hF hW (by simpa using hn.1) h
    unfold wpQuiet
    split
    · rename_i hw
      obtain ⟨v, q1, S', f1, f2, f3, f4⟩ := h1 hw
      exact ⟨v, q1, vcQ_sound hW l hn.2 f4 f1 f2 f3 hQ⟩
    · rename_i hw
      obtain ⟨S', f1, f2, f3, f4⟩ := h2 (by simpa using hw)
      exact vcQ_sound hW l hn.2 f4 f1 f2 f3 hQ
end
end Go.Ax
