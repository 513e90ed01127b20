/- Ax, ninth part: regions. Conditions: those of each lemma. -/
import Derived.Test.YtanahoejlnmfiaaAxY
namespace Go.Ax
open Go.RowKit

section
variable {C : Cx} {ds : List Nat} {p : Pro} {z : Nat → Value} {zb : ZB} {H0 : Heap} {w0 : World} {bs : List Nat} {S : AS} {a : Act} {Q : Exit → Act → World → Prop}

theorem getD_put {tm : Array Value} {d t : Nat} {v : Value} (hd : d < tm.size) : (tm.setIfInBounds d v).getD t undef = if d = t then v else tm.getD t undef := by
  by_cases h : d = t
  · subst h; simp [hd]
  · simp [Array.getElem?_setIfInBounds_ne h, h]

theorem noI_brel {x : AV} {v : Value} (h : BRel bs x v) : BRel bs (noI x) v := by cases x <;> first | exact h | trivial

theorem FC.put (hF : FC ds p z bs S a) {d : Nat} {x : AV} {v : Value} (hd : p.ok d = true) (hg : hasN S.gs d = false) (h : BRel bs x v) : FC ds p z bs (S.put d (noI x)) (a.put (some d) v) := by
  have hlt : d < a.tmps.size := by rw [hF.size]; exact hF.okn d hd
  refine ⟨by simpa [Act.put] using hF.size, hF.defers, fun t => ?_, fun t e s w y hy => ?_, fun t ht => ?_, hF.okn⟩
  · show SRel bs (a.tmps.setIfInBounds d v) S.ep (look ((d, noI x) :: S.fr) t) ((a.tmps.setIfInBounds d v).getD t undef)
    rw [look_put, getD_put hlt]
    by_cases hdt : d = t
    · rw [if_pos hdt, if_pos hdt]
      have := noI_brel h
      cases x <;> exact this
    · rw [if_neg hdt, if_neg hdt]
      have hs := hF.slots t
      cases hl : look S.fr t with
      | ifs e s w y =>
        rw [hl] at hs
        intro he
        have hsg := (hF.eps t e s w y hl).2 he
        have hne : d ≠ s := fun e => by subst e; rw [hg] at hsg; cases hsg
        have := hs he
        rw [getD_put hlt, if_neg hne]
        exact this
      | _ => rw [hl] at hs; exact hs
  · have hy : look ((d, noI x) :: S.fr) t = .ifs e s w y := hy
    rw [look_put] at hy
    by_cases hdt : d = t
    · rw [if_pos hdt] at hy
      cases x <;> simp [noI] at hy
    · rw [if_neg hdt] at hy
      exact hF.eps t e s w y hy
  · have hdt : d ≠ t := fun e => by subst e; rw [hd] at ht; cases ht
    show (a.tmps.setIfInBounds d v).getD t undef = z t
    rw [getD_put hlt, if_neg hdt]
    exact hF.zs t ht

theorem FC.putG (hF : FC ds p z bs S a) {d s : Nat} {w : Bool} {x : AV} {v : Value} (hd : p.ok d = true) (hg : hasN (s :: S.gs) d = false) (h : (a.tmps.getD s undef = .bool w → BRel bs x v) ∧ (a.tmps.getD s undef ≠ .bool w → v = undef)) :
    FC ds p z bs { S with fr := (d, .ifs S.ep s w x) :: S.fr, gs := s :: S.gs } (a.put (some d) v) := by
  have hlt : d < a.tmps.size := by rw [hF.size]; exact hF.okn d hd
  have hng : ∀ t, hasN (s :: S.gs) t = true → d ≠ t := fun t ht e => by subst e; rw [hg] at ht; cases ht
  have hds : d ≠ s := hng s ((hasN_iff _ _).2 (by simp))
  refine ⟨by simpa [Act.put] using hF.size, hF.defers, fun t => ?_, fun t e s' w' y hy => ?_, fun t ht => ?_, hF.okn⟩
  · show SRel bs (a.tmps.setIfInBounds d v) S.ep (look ((d, .ifs S.ep s w x) :: S.fr) t) ((a.tmps.setIfInBounds d v).getD t undef)
    rw [look_put, getD_put hlt]
    by_cases hdt : d = t
    · rw [if_pos hdt, if_pos hdt]
      intro _
      rw [getD_put hlt, if_neg hds]
      exact h
    · rw [if_neg hdt, if_neg hdt]
      have hs := hF.slots t
      cases hl : look S.fr t with
      | ifs e s' w' y =>
        rw [hl] at hs
        intro he
        have hsg := (hF.eps t e s' w' y hl).2 he
        have hne : d ≠ s' := hng s' ((hasN_iff _ _).2 (List.mem_cons_of_mem _ ((hasN_iff _ _).1 hsg)))
        have := hs he
        rw [getD_put hlt, if_neg hne]
        exact this
      | _ => rw [hl] at hs; exact hs
  · have hy : look ((d, .ifs S.ep s w x) :: S.fr) t = .ifs e s' w' y := hy
    rw [look_put] at hy
    by_cases hdt : d = t
    · rw [if_pos hdt] at hy
      injection hy with h1 h2 h3 h4
      subst h1; subst h2
      exact ⟨Nat.le_refl _, fun _ => (hasN_iff _ _).2 (by simp)⟩
    · rw [if_neg hdt] at hy
      have := hF.eps t e s' w' y hy
      exact ⟨this.1, fun he => (hasN_iff _ _).2 (List.mem_cons_of_mem _ ((hasN_iff _ _).1 (this.2 he)))⟩
  · have hdt : d ≠ t := fun e => by subst e; rw [hd] at ht; cases ht
    show (a.tmps.setIfInBounds d v).getD t undef = z t
    rw [getD_put hlt, if_neg hdt]
    exact hF.zs t ht

theorem finish_sound {x : AV} {v : Value} {o : Oper} {K : AS → Prop} {S' : AS} {bs' : List Nat} (hF : FC ds p z bs' S' a) (h : BRel bs' x v) (hk : finish p o x S' K) :
    ∃ S'', FC ds p z bs' S'' (a.put o.dst v) ∧ S''.bx = S'.bx ∧ S''.H = S'.H ∧ K S'' := by
  unfold finish at hk
  split at hk
  · rename_i hd
    rw [hd]
    exact ⟨S', hF, rfl, rfl, hk⟩
  · rename_i d hd
    rw [hd]
    split at hk
    · rename_i hb
      rw [Bool.and_eq_true] at hb
      exact ⟨_, hF.put hb.1 (by simpa using hb.2) h, rfl, rfl, hk⟩
    · exact hk.elim

theorem finishG_sound {x : AV} {v : Value} {o : Oper} {K : AS → Prop} {s : Nat} {w : Bool} (hF : FC ds p z bs S a) (h : (a.tmps.getD s undef = .bool w → BRel bs x v) ∧ (a.tmps.getD s undef ≠ .bool w → v = undef)) (hk : finishG p s w o x S K) :
    ∃ S'', FC ds p z bs S'' (a.put o.dst v) ∧ S''.bx = S.bx ∧ S''.H = S.H ∧ K S'' := by
  unfold finishG at hk
  split at hk
  · exact hk.elim
  · rename_i d hd
    rw [hd]
    split at hk
    · rename_i hb
      rw [Bool.and_eq_true] at hb
      exact ⟨_, hF.putG hb.1 (by simpa using hb.2) h, rfl, rfl, hk⟩
    · exact hk.elim

theorem dstAt_eq : ∀ (l : List Oper) (j : Nat), dstAt l j = (l[j]?).bind (·.dst)
  | [], j => by simp [dstAt]
  | o :: l, 0 => by simp [dstAt]
  | o :: l, j + 1 => by simp [dstAt, dstAt_eq l j]

theorem wanted_iff {ops : Array Oper} {o : Oper} {jw : Nat × Bool} (hg : o.guard = some jw) {s : Nat} (hs : dstAt ops.toList jw.1 = some s) (tm : Array Value) :
    Region.wanted o (yielded ops tm) = true ↔ tm.getD s undef = .bool jw.2 := by
  rw [dstAt_eq] at hs
  have hs' : (ops[jw.1]?).bind (·.dst) = some s := by simpa using hs
  unfold Region.wanted
  rw [hg]
  show (yielded ops tm jw.1 == some jw.2) = true ↔ _
  unfold yielded
  rw [hs']
  simp only [Option.bind_some]
  have hD : tm.getD s undef = (tm[s]?).getD undef := by simp
  rw [hD]
  cases ht : tm[s]? with
  | none => simp [undef]
  | some v => cases v <;> simp

theorem binInt_any {G : Option Bool} {op : BinOp} {k k' : IntKind} {x y : Int} {K : AV → Prop} (h : binInt G op k x k' y K) : ∃ x, K x := by
  cases op <;> simp only [binInt] at h
  case shl => exact ⟨_, h.2⟩
  case shr => exact ⟨_, h.2⟩
  all_goals (obtain ⟨_, h2⟩ := kk_of h; clear h)
  case quo => exact ⟨_, h2.2⟩
  case rem => exact ⟨_, h2.2⟩
  all_goals exact ⟨_, h2⟩
theorem binA_any {P : Program} {G : Option Bool} {op : BinOp} {t : TypeId} {x y : AV} {K : AV → Prop} (h : binA P G op t x y K) : ∃ x, K x := by
  unfold binA at h
  split at h
  · exact binInt_any h
  all_goals (repeat' split at h)
  all_goals first
    | exact h.elim
    | exact ⟨_, h.2⟩
    | exact ⟨_, h⟩
theorem pickA_any {anc : List (Nat × Bool)} {c x y : Operand} {K : AV → Prop} (h : pickA S anc c x y K) : ∃ x, K x := by
  unfold pickA at h
  repeat' split at h
  all_goals first
    | exact h.elim
    | exact ⟨_, h⟩
theorem loadA_any {G : Option Bool} {x : AV} {t : TypeId} {K : AV → Prop} (h : loadA C G S x t K) : ∃ x, K x := by
  unfold loadA at h
  repeat' split at h
  all_goals first
    | exact h.elim
    | exact ⟨_, h⟩
    | (obtain ⟨r, _, hr⟩ := (exV_iff _ _).1 h; exact ⟨_, hr⟩)
theorem sliceA_any {P : Program} {G : Option Bool} {t : TypeId} {x : AV} {lo hi : Option AV} {K : AV → Prop} (h : sliceA P G t x lo hi K) : ∃ x, K x := by
  unfold sliceA at h
  split at h
  all_goals first
    | exact h.elim
    | exact ⟨_, h.2⟩
    | exact ⟨_, h⟩
theorem callQ_any {G : Option Bool} {H : Heap} {f : FuncId} {l : List Value} {K : AV → Prop} (h : callQ C G H f l K) : ∃ x, K x := by
  unfold callQ at h
  repeat' split at h
  all_goals first
    | exact h.elim
    | (obtain ⟨r, _, hr⟩ := (exV_iff _ _).1 h; exact ⟨_, hr⟩)
theorem bltA_any {P : Program} {b : Builtin} {ts : List TypeId} {xs : List AV} {K : AV → Prop} (h : bltA P b ts xs K) : ∃ x, K x := by
  unfold bltA at h
  repeat' split at h
  all_goals first
    | exact h.elim
    | exact ⟨_, h⟩
theorem valA_any {G : Option Bool} {anc : List (Nat × Bool)} {o : Oper} {K : AV → Prop} (h : valA C G S anc o K) : ∃ x, K x := by
  unfold valA at h
  split at h
  · exact ⟨_, h⟩
  · exact ⟨_, h⟩
  · exact pickA_any h
  · exact binA_any h
  · split at h <;> first | exact ⟨_, h⟩ | exact h.elim
  · split at h <;> first | exact ⟨_, h⟩ | exact h.elim
  · (repeat' split at h) <;> first | exact ⟨_, h⟩ | (obtain ⟨s, _, h2⟩ := h; exact ⟨_, h2⟩) | exact h.elim
  · (repeat' split at h) <;> first | exact ⟨_, h⟩ | exact h.elim
  · (repeat' split at h) <;> first | exact ⟨_, h⟩ | exact h.elim
  · (repeat' split at h) <;> first | exact h.elim | exact ⟨_, h.2⟩ | (obtain ⟨ad, _, h2⟩ := h; exact ⟨_, h2⟩)
  · (repeat' split at h) <;> first | exact h.elim | (obtain ⟨r, _, hr⟩ := (exV_iff _ _).1 h; exact ⟨_, hr⟩) | (obtain ⟨ad, _, h2⟩ := h; exact ⟨_, h2⟩)
  · split at h <;> first | exact h.elim | exact sliceA_any h
  · (repeat' split at h) <;> first | exact ⟨_, h⟩ | exact h.elim
  · exact loadA_any h
  · (repeat' split at h) <;> first | exact h.elim | exact ⟨_, h⟩ | (obtain ⟨ad, _, h2⟩ := h; exact ⟨_, h2⟩)
  · (repeat' split at h) <;> first | exact ⟨_, h⟩ | exact h.elim
  · (repeat' split at h) <;> first | exact ⟨_, h⟩ | exact h.elim
  · exact bltA_any h
  · (repeat' split at h) <;> first | exact callQ_any h | exact h.elim
  · exact h.elim

theorem look_resF (ep s : Nat) (w : Bool) : ∀ (l : List (Nat × AV)) (t : Nat), look (resF ep s w l) t = res ep s w (look l t)
  | [], t => by simp [resF, look, res]
  | q :: l, t => by
    simp only [resF, look]
    cases Nat.beq q.1 t with
    | true => rfl
    | false => exact look_resF ep s w l t
theorem res_rel {tm : Array Value} {ep s : Nat} {w : Bool} (h : tm.getD s undef = .bool w) {x : AV} {y : Value} (hx : SRel bs tm ep x y) : SRel bs tm ep (res ep s w x) y := by
  cases x with
  | ifs e s' w' x =>
    simp only [res]
    cases hb : Nat.beq e ep && Nat.beq s' s with
    | false => exact hx
    | true =>
      simp only [Bool.and_eq_true] at hb
      have e1 := Nat.eq_of_beq_eq_true hb.1
      have e2 := Nat.eq_of_beq_eq_true hb.2
      subst e1; subst e2
      cases hq : bq w' w with
      | false => trivial
      | true =>
        have : w' = w := by cases w' <;> cases w <;> simp_all [bq]
        subst this
        have hb := (hx rfl).1 h
        cases x <;> first | exact hb | trivial
  | _ => exact hx
theorem res_ifs {ep s : Nat} {w : Bool} {x : AV} {e s' : Nat} {w' : Bool} {x' : AV} (h : res ep s w x = .ifs e s' w' x') : x = .ifs e s' w' x' := by
  cases x with
  | ifs e2 s2 w2 x2 =>
    simp only [res] at h
    split at h
    · split at h
      · split at h
        · cases h
        · rename_i hne; exact absurd h (hne _ _ _ _)
      · cases h
    · exact h
  | _ => simp [res] at h
theorem FC.assume (hF : FC ds p z bs S a) {s : Nat} {w : Bool} (h : a.tmps.getD s undef = .bool w) : FC ds p z bs (S.assume s w) a := by
  have hl : ∀ t, look (S.assume s w).fr t = if s = t then .bl w else res S.ep s w (look S.fr t) := fun t => by
    show look ((s, .bl w) :: resF S.ep s w S.fr) t = _
    simp only [look]
    cases hk : Nat.beq s t with
    | true => rw [if_pos (Nat.eq_of_beq_eq_true hk)]
    | false => rw [if_neg (fun e => by subst e; simp at hk)]; exact look_resF ..
  refine ⟨hF.size, hF.defers, fun t => ?_, fun t e s' w' x ht => ?_, hF.zs, hF.okn⟩
  · rw [hl]
    split
    · rename_i e; subst e; exact h
    · exact res_rel h (hF.slots t)
  · rw [hl] at ht
    split at ht
    · cases ht
    · exact hF.eps t e s' w' x (res_ifs ht)
theorem spl_sound : ∀ (f : Nat) {S : AS} {s : Nat} {w : Bool} {T Fl : AS → Prop}, FC ds p z bs S a → spl f S s w T Fl →
    (a.tmps.getD s undef = .bool w ∧ ∃ S', FC ds p z bs S' a ∧ S'.bx = S.bx ∧ S'.H = S.H ∧ S'.ep = S.ep ∧ S'.gs = S.gs ∧ T S') ∨
    (a.tmps.getD s undef ≠ .bool w ∧ ∃ S', FC ds p z bs S' a ∧ S'.bx = S.bx ∧ S'.H = S.H ∧ S'.ep = S.ep ∧ S'.gs = S.gs ∧ Fl S')
  | 0, _, _, _, _, _, _, h => h.elim
  | f + 1, S, s, w, T, Fl, hF, h => by
    have hs := hF.slots s
    unfold spl at h
    split at h
    · rename_i b hb
      rw [hb] at hs
      have hs : a.tmps.getD s undef = .bool b := hs
      split at h
      · rename_i hq
        have : w = b := by cases w <;> cases b <;> simp_all [bq]
        subst this
        exact .inl ⟨hs, S, hF, rfl, rfl, rfl, rfl, h⟩
      · rename_i hq
        refine .inr ⟨fun e => ?_, S, hF, rfl, rfl, rfl, rfl, h⟩
        rw [hs] at e; injection e with e; subst e; cases b <;> simp [bq] at hq
    · rename_i g hb
      rw [hb] at hs
      have hs : a.tmps.getD s undef = .bool g := hs
      by_cases e : g = w
      · subst e
        exact .inl ⟨hs, _, hF.assume hs, rfl, rfl, rfl, rfl, h.1 (by cases g <;> rfl)⟩
      · have e2 : g = !w := by cases g <;> cases w <;> simp_all
        subst e2
        exact .inr ⟨by rw [hs]; cases w <;> simp, _, hF.assume hs, rfl, rfl, rfl, rfl, h.2 (by cases w <;> rfl)⟩
    · rename_i e s' w' x hb
      rw [hb] at hs
      split at h
      · rename_i he
        have he := Nat.eq_of_beq_eq_true he
        have hs := hs he
        rcases spl_sound f hF h with ⟨h1, S', f1, f2, f3, f4, f5, h2⟩ | ⟨h1, S', f1, f2, f3, f4, f5, h2⟩
        · rcases spl_sound f f1 h2 with ⟨k1, S2, g1, g2, g3, g4, g5, k2⟩ | ⟨k1, S2, g1, g2, g3, g4, g5, k2⟩
          · exact .inl ⟨k1, S2, g1, g2.trans f2, g3.trans f3, g4.trans f4, g5.trans f5, k2⟩
          · exact .inr ⟨k1, S2, g1, g2.trans f2, g3.trans f3, g4.trans f4, g5.trans f5, k2⟩
        · exact .inr ⟨by rw [hs.2 h1]; exact undef_ne_bool, S', f1, f2, f3, f4, f5, h2⟩
      · exact h.elim
    · exact h.elim

/-- The next operation that leaves memory alone. -/
theorem val_step (hF : FC ds p z bs S a) {w : World} (hW : WC ds p zb H0 w0 bs S.bx S.H w) {ops : Array Oper} {o : Oper} {K : AS → Prop} (he : isEff C o = false) (h : vcOp C p ops.toList o K S) :
    (Region.wanted o (yielded ops a.tmps) = true → ∃ v, (∀ w', WC ds p zb H0 w0 bs S.bx S.H w' → o.quietAt C.P a (WC ds p zb H0 w0 bs S.bx S.H) w' v) ∧ ∃ S', FC ds p z bs S' (a.put o.dst v) ∧ S'.bx = S.bx ∧ S'.H = S.H ∧ K S') ∧
    (Region.wanted o (yielded ops a.tmps) = false → ∃ S', FC ds p z bs S' (a.put o.dst undef) ∧ S'.bx = S.bx ∧ S'.H = S.H ∧ K S') := by
  unfold vcOp at h
  split at h
  · rename_i hg
    unfold vcRun at h
    rw [he] at h
    refine ⟨fun _ => ?_, fun hn => by simp [Region.wanted, hg] at hn⟩
    obtain ⟨x, v, h1, h2, h3⟩ := valA_sound (anc := []) hF (by simp) (by simp) hW h
    exact ⟨v, h3, finish_sound hF h1 h2⟩
  · rename_i jw hg
    split at h
    · rename_i s hs
      have hw := wanted_iff hg hs a.tmps
      split at h
      · rename_i b hb
        have hsl := hF.slots s
        rw [hb] at hsl
        have hsl : a.tmps.getD s undef = .bool b := hsl
        split at h
        · rename_i hq
          have : jw.2 = b := by cases h1 : jw.2 <;> cases b <;> simp_all [bq]
          subst this
          unfold vcRun at h
          rw [he] at h
          refine ⟨fun _ => ?_, fun hn => by rw [hw.2 hsl] at hn; cases hn⟩
          obtain ⟨x, v, h1, h2, h3⟩ := valA_sound hF (ancs_sound hF 8 s jw.2 hsl) (by simp) hW h
          exact ⟨v, h3, finish_sound hF h1 h2⟩
        · rename_i hq
          refine ⟨fun hwant => ?_, fun _ => finish_sound hF (x := .any) trivial h⟩
          have := hw.1 hwant
          rw [hsl] at this; injection this with this; subst this
          cases h1 : jw.2 <;> rw [h1] at hq <;> cases hq
      · split at h
        · refine ⟨fun hwant => ?_, fun hn => ?_⟩
          · have hsv := hw.1 hwant
            obtain ⟨x, v, h1, h2, h3⟩ := valA_sound hF (ancs_sound hF 8 s jw.2 hsv) (fun g hgg => gB_sound hF 8 s jw.2 g hgg hsv) hW h
            exact ⟨v, h3, finishG_sound hF ⟨fun _ => h1, fun hne => absurd hsv hne⟩ h2⟩
          · have hsv : a.tmps.getD s undef ≠ .bool jw.2 := fun e => by rw [hw.2 e] at hn; cases hn
            obtain ⟨x, hx⟩ := valA_any h
            exact finishG_sound hF ⟨fun e => absurd e hsv, fun _ => rfl⟩ hx
        · rename_i h1 _; rw [he] at h1; cases h1
        · rename_i h1 _; rw [he] at h1; cases h1
    · exact h.elim

/-- The next operation that turns memory. -/
theorem eff_step (hF : FC ds p z bs S a) {w : World} (hW : WC ds p zb H0 w0 bs S.bx S.H w) {ops : Array Oper} {o : Oper} {K : AS → Prop} (he : isEff C o = true) (h : vcOp C p ops.toList o K S) {next : Act → World → Prop}
    (hn : ∀ v w' bs' S', bs <+: bs' → FC ds p z bs' S' (a.put o.dst v) → WC ds p zb H0 w0 bs' S'.bx S'.H w' → K S' → next (a.put o.dst v) w') :
    (Region.wanted o (yielded ops a.tmps) = true → o.wp C.P a w next Q) ∧ (Region.wanted o (yielded ops a.tmps) = false → next (a.put o.dst undef) w) := by
  have run : ∀ S1, FC ds p z bs S1 a → S1.bx = S.bx → S1.H = S.H → (effA C p S1 o fun x S' => finish p o x S' K) → o.wp C.P a w next Q := fun S1 hF1 e1 e2 h =>
    effA_sound hF1 (by rw [e1, e2]; exact hW) h fun v w' hgo => by
      obtain ⟨x, S', bs', hp, e1, e2, e3, hb, hw', hk⟩ := hgo
      obtain ⟨S'', f1, f2, f3, f4⟩ := finish_sound (hF1.mono hp e1 e2 e3) hb hk
      exact hn v w' bs' S'' hp f1 (by rw [f2, f3]; exact hw') f4
  have skip : ∀ S1, FC ds p z bs S1 a → S1.bx = S.bx → S1.H = S.H → finish p o .any S1 K → next (a.put o.dst undef) w := fun S1 hF1 e1 e2 h => by
    obtain ⟨S'', f1, f2, f3, f4⟩ := finish_sound (v := undef) hF1 (x := .any) trivial h
    exact hn undef w bs S'' List.prefix_rfl f1 (by rw [f2, f3, e1, e2]; exact hW) f4
  unfold vcOp at h
  split at h
  · rename_i hg
    unfold vcRun at h
    rw [he] at h
    exact ⟨fun _ => run S hF rfl rfl h, fun hw => by simp [Region.wanted, hg] at hw⟩
  · rename_i jw hg
    split at h
    · rename_i s hs
      have hw := wanted_iff hg hs a.tmps
      split at h
      · rename_i b hb
        have hsl := hF.slots s
        rw [hb] at hsl
        have hsl : a.tmps.getD s undef = .bool b := hsl
        split at h
        · rename_i hq
          have : jw.2 = b := by cases h1 : jw.2 <;> cases b <;> simp_all [bq]
          subst this
          unfold vcRun at h
          rw [he] at h
          exact ⟨fun _ => run S hF rfl rfl h, fun hn => by rw [hw.2 hsl] at hn; cases hn⟩
        · rename_i hq
          refine ⟨fun hwant => ?_, fun _ => skip S hF rfl rfl h⟩
          have := hw.1 hwant
          rw [hsl] at this; injection this with this; subst this
          cases h1 : jw.2 <;> rw [h1] at hq <;> cases hq
      · split at h
        · rename_i h1; rw [he] at h1; cases h1
        · rcases spl_sound 4 hF h with ⟨h1, S', f1, f2, f3, f4, f5, h2⟩ | ⟨h1, S', f1, f2, f3, f4, f5, h2⟩
          · exact ⟨fun _ => run S' f1 f2 f3 h2, fun hn => by rw [hw.2 h1] at hn; cases hn⟩
          · exact ⟨fun hwant => absurd (hw.1 hwant) h1, fun _ => skip S' f1 f2 f3 h2⟩
        · exact h.elim
    · exact h.elim

theorem vcOps_sound {ops : Array Oper} {K : AS → Prop} : ∀ (l : List Oper) {bs : List Nat} {S : AS} {a : Act} {w : World}, vcOps C p ops.toList l K S → FC ds p z bs S a → WC ds p zb H0 w0 bs S.bx S.H w →
    (∀ bs' S' a' w', bs <+: bs' → FC ds p z bs' S' a' → WC ds p zb H0 w0 bs' S'.bx S'.H w' → K S' → Q .normal a' w') → wpList C.P ops Q l a w
  | [], bs, S, a, w, h, hF, hW, hQ => hQ bs S a w List.prefix_rfl hF hW h
  | o :: l, bs, S, a, w, h, hF, hW, hQ => by
    have h : vcOp C p ops.toList o (vcOps C p ops.toList l K) S := h
    refine wpList_step fun K' hK' => ?_
    cases he : isEff C o with
    | true =>
      obtain ⟨hwp, hsk⟩ := eff_step (Q := Q) (next := K') hF hW he h (fun v w' bs' S' hp f1 f2 f3 => hK' _ _ (vcOps_sound l f3 f1 f2 fun bs'' S'' a'' w'' hp' => hQ bs'' S'' a'' w'' (hp.trans hp')))
      split
      · rename_i hw; exact hwp hw
      · rename_i hw; exact hsk (by simpa using hw)
    | false =>
      obtain ⟨h1, h2⟩ := val_step hF hW he h
      split
      · rename_i hw
        obtain ⟨v, q1, S', f1, f2, f3, f4⟩ := h1 hw
        refine Oper.wp_of_quiet (C := WC ds p zb H0 w0 bs S.bx S.H) (K := fun a' => a' = a.put o.dst v) hW ?_ ⟨v, q1, rfl⟩
        rintro a' w' hw' rfl
        exact hK' _ _ (vcOps_sound l f4 f1 (by rw [f2, f3]; exact hw') hQ)
      · rename_i hw
        obtain ⟨S', f1, f2, f3, f4⟩ := h2 (by simpa using hw)
        exact hK' _ _ (vcOps_sound l f4 f1 (by rw [f2, f3]; exact hW) hQ)

theorem vcQ_sound {ops : Array Oper} {K : AS → Prop} {bx : List (List AV)} {H : Heap} {w : World} (hW : WC ds p zb H0 w0 bs bx H w) {Qf : Act → Prop} : ∀ (l : List Oper) {S : AS} {a : Act}, noEff C l = true → vcOps C p ops.toList l K S → FC ds p z bs S a → S.bx = bx → S.H = H →
    (∀ S' a', FC ds p z bs S' a' → S'.bx = bx → S'.H = H → K S' → Qf a') → wpQuiet C.P ops (WC ds p zb H0 w0 bs bx H) Qf l a
  | [], S, a, _, h, hF, e1, e2, hQ => hQ S a hF e1 e2 h
  | o :: l, S, a, hn, h, hF, e1, e2, hQ => by
    simp only [noEff, Bool.and_eq_true] at hn
    have h : vcOp C p ops.toList o (vcOps C p ops.toList l K) S := h
    subst e1; subst e2
    obtain ⟨h1, h2⟩ := val_step hF hW (by simpa using hn.1) h
    unfold wpQuiet
    split
    · rename_i hw
      obtain ⟨v, q1, S', f1, f2, f3, f4⟩ := h1 hw
      exact ⟨v, q1, vcQ_sound hW l hn.2 f4 f1 f2 f3 hQ⟩
    · rename_i hw
      obtain ⟨S', f1, f2, f3, f4⟩ := h2 (by simpa using hw)
      exact vcQ_sound hW l hn.2 f4 f1 f2 f3 hQ
end
end Go.Ax
