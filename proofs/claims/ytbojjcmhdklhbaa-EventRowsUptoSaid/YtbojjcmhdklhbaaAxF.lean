/- Ax, eleventh part: the walk of code and of functions is sound: 'tr_of_vc': if the formula of a function holds, its contract holds. Conditions: none beyond the lemmas'. -/
import Derived.Test.YtbojjcmhdklhbaaAxC
import Derived.Test.YtbojjcmhdklhbaaAxG
namespace Go.Ax
open Go.RowKit

section
variable {C : Cx} {H0 : Heap} {w0 : World}

theorem post_then {p : Pro} {z : Nat → Value} {zb : ZB} {bs : List Nat} {K : AS → Prop} {Q : AE → AS → Prop} {k : Act → World → Prop}
    (hk : ∀ bs' S' a' w', bs <+: bs' → FC p z bs' S' a' → WC p zb H0 w0 bs' S'.bx S'.H w' → K S' → k a' w') : ∀ e a w, Post p z zb H0 w0 bs (thenA K Q) e a w → Exit.then k (Post p z zb H0 w0 bs Q) e a w := by
  rintro e a w ⟨bs', S', e', hp, hF, hW, he, hq⟩
  cases e with
  | normal => simp only [toA, Option.some.injEq] at he; subst he; exact hk bs' S' a w hp hF hW hq
  | exit id => simp only [toA, Option.some.injEq] at he; subst he; exact ⟨bs', S', _, hp, hF, hW, rfl, hq⟩
  | ret => simp only [toA, Option.some.injEq] at he; subst he; exact ⟨bs', S', _, hp, hF, hW, rfl, hq⟩
  | goto l => simp [toA] at he
  | panic c => simp [toA] at he
  | outgrown => simp [toA] at he

theorem vc_sound : ∀ (c : Code) (p : Pro) (Q : AE → AS → Prop) (S : AS), vc C c p Q S → ∀ (z : Nat → Value) (zb : ZB) (bs : List Nat) (a : Act) (w : World), FC p z bs S a → WC p zb H0 w0 bs S.bx S.H w →
    c.wp C.P (Post p z zb H0 w0 bs Q) a w
  | .skip, p, Q, S, h, z, zb, bs, a, w, hF, hW => wp_skip ⟨bs, S, _, List.prefix_rfl, hF, hW, rfl, h⟩
  | .label l, p, Q, S, h, z, zb, bs, a, w, hF, hW => wp_label ⟨bs, S, _, List.prefix_rfl, hF, hW, rfl, h⟩
  | .exit id, p, Q, S, h, z, zb, bs, a, w, hF, hW => wp_exit ⟨bs, S, _, List.prefix_rfl, hF, hW, rfl, h⟩
  | .ret, p, Q, S, h, z, zb, bs, a, w, hF, hW => wp_ret ⟨bs, S, _, List.prefix_rfl, hF, hW, rfl, h⟩
  | .goto l, p, Q, S, h, _, _, _, _, _, _, _ => by simp [vc] at h
  | .refuse s, p, Q, S, h, _, _, _, _, _, _, _ => by simp [vc] at h
  | .rangeFunc f ps x y, p, Q, S, h, _, _, _, _, _, _, _ => by simp [vc] at h
  | .region id ops d, p, Q, S, h, z, zb, bs, a, w, hF, hW => by
    cases d with
    | false =>
      simp only [vc] at h
      exact wp_region_list (vcOps_sound ops.toList h hF.enter hW fun bs' S' a' w' hp f1 f2 f3 => ⟨bs', S', _, hp, f1, f2, rfl, f3⟩)
    | true =>
      simp only [vc] at h
      split at h
      · rename_i hb
        rw [Bool.and_eq_true] at hb
        have hd := hb.2
        simp only [drawOk, Bool.and_eq_true] at hd
        refine wp_region_quiet (C := WC p zb H0 w0 bs S.bx S.H) hd.1 hd.2 hW.drew ?_
        refine vcQ_sound (S := S.enter) hW ops.toList hb.1 h hF.enter rfl rfl ?_
        intro S' a' f1 f2 f3 f4 w' hw'
        exact ⟨bs, S', _, List.prefix_rfl, f1, by rw [f2, f3]; exact hw', rfl, f4⟩
      · exact draw_sound (S := S.enter) h hF.enter hW (fun c a w ⟨_, _, e, _, _, _, he, _⟩ => by simp [toA] at he) (fun bs' S' a' w' hp f1 f2 f3 => ⟨bs', S', _, hp, f1, f2, rfl, f3⟩)
  | .seq x y, p, Q, S, h, z, zb, bs, a, w, hF, hW => by
    simp only [vc] at h
    exact wp_seq (wp_mono (vc_sound x p _ S h z zb bs a w hF hW) (post_then fun bs' S' a' w' hp f1 f2 f3 => wp_mono (vc_sound y p Q S' f3 z zb bs' a' w' f1 f2) fun _ _ _ q => q.up hp))
  | .cond c x y, p, Q, S, h, z, zb, bs, a, w, hF, hW => by
    have ev := evA_sound (anc := []) hF (by simp) c
    simp only [vc] at h
    split at h
    · rename_i he
      rw [he] at ev
      exact wp_cond_true ev (vc_sound x p Q S h z zb bs a w hF hW)
    · rename_i he
      rw [he] at ev
      exact wp_cond_false ev (vc_sound y p Q S h z zb bs a w hF hW)
    · rename_i g he
      rw [he] at ev
      exact wp_cond_split ev (fun hg => vc_sound x p Q S (h.1 hg) z zb bs a w hF hW) (fun hg => vc_sound y p Q S (h.2 hg) z zb bs a w hF hW)
    · exact h.elim
  | .block id b, p, Q, S, h, z, zb, bs, a, w, hF, hW => by
    simp only [vc] at h
    refine wp_block (wp_mono (vc_sound b p _ S h z zb bs a w hF hW) ?_)
    rintro e a' w' ⟨bs', S', e', hp, f1, f2, he, hq⟩
    cases e with
    | normal => simp only [toA, Option.some.injEq] at he; subst he; exact ⟨bs', S', _, hp, f1, f2, rfl, hq⟩
    | ret => simp only [toA, Option.some.injEq] at he; subst he; exact ⟨bs', S', _, hp, f1, f2, rfl, hq⟩
    | exit i =>
      simp only [toA, Option.some.injEq] at he
      subst he
      simp only [blockA] at hq
      cases hb : Nat.beq i id with
      | true =>
        rw [hb] at hq
        have := Nat.eq_of_beq_eq_true hb
        show if i = id then _ else _
        rw [if_pos this]
        exact ⟨bs', S', _, hp, f1, f2, rfl, hq⟩
      | false =>
        rw [hb] at hq
        show if i = id then _ else _
        rw [if_neg (fun e => by subst e; simp at hb)]
        exact ⟨bs', S', _, hp, f1, f2, rfl, hq⟩
    | goto l => simp [toA] at he
    | panic c => simp [toA] at he
    | outgrown => simp [toA] at he
  | .scope b, p, Q, S, h, z, zb, bs, a, w, hF, hW => by
    simp only [vc] at h
    refine wp_scope_straight (wp_mono (vc_sound b p _ S h z zb bs a w hF hW) ?_)
    rintro e a' w' ⟨bs', S', e', hp, f1, f2, he, hq⟩
    cases e with
    | goto l => simp [toA] at he
    | _ => exact ⟨bs', S', e', hp, f1, f2, he, hq⟩
  | .loop b, p, Q, S, h, z, zb, bs, a, w, hF, hW => by
    simp only [vc] at h
    split at h
    · rename_i k hk
      split at h
      · rename_i L hL
        split at h
        · rename_i v0 hok hv0
          rw [Bool.and_eq_true] at hok
          obtain ⟨hok1, hok2⟩ := hok
          obtain ⟨Rel, mu, hrel0, hround⟩ := h
          rw [allV_iff] at hround
          let I : Nat → Act → World → Prop := fun n a' w' => ∃ v H, unc _ L.shapes Rel v H ∧ unc _ L.shapes mu v H = n ∧
            FC (L.pro p S.bx.length) (fun t => a.tmps.getD t undef) bs (L.head S (enc L.shapes v) H) a' ∧ WC (L.pro p S.bx.length) (zbAt w bs S.bx) H0 w0 bs (L.head S (enc L.shapes v) H).bx H w'
          have hin := hW.inner L
          have first : I (unc _ L.shapes mu v0 S.H) a w := by
            have hsl : ∀ t, BRel bs (look S.fr t) (a.tmps.getD t undef) := fun t => (hF.slots t).brel
            refine ⟨v0, S.H, hrel0, rfl, ?_, ?_⟩
            · exact FC.head L hF hok1 (S2 := S) (bs2 := bs) hF.size hF.defers hsl hv0 (cells := fun j => match L.cells[j]? with | some q => (Ax.cellV w bs q.1 q.2.1).getD undef | none => undef)
                (fun j q hq => by rw [hq]; exact hW.cellV _ _) (fun t _ => rfl) _
            · exact WC.head (S := S) (S2 := S) L hW List.prefix_rfl hin hv0 hsl
          refine wp_loop_ghost I _ first ?_
          rintro n a' w' ⟨v, H, hrel, rfl, hF', hW'⟩
          have hb := vc_sound b (L.pro p S.bx.length) _ _ (hround v H hrel) (fun t => a.tmps.getD t undef) (zbAt w bs S.bx) bs a' w' hF' hW'
          refine wp_mono hb ?_
          rintro e a2 w2 ⟨bs2, S2, e', hp, f1, f2, he, hq⟩
          have out : ∀ e'', Q e'' S2 → toA e = some e'' → Post p z zb H0 w0 bs Q e a2 w2 := by
            intro e'' hq'' he''
            refine ⟨bs2, S2, e'', hp, ⟨f1.size, f1.defers, f1.slots, f1.eps, fun t ht => ?_, hF.okn⟩, WC.outer L hW hok2 hp f2, he'', hq''⟩
            have : hasN L.slots t = false := by
              cases hh : hasN L.slots t with
              | false => rfl
              | true => rw [allOk_mem _ hok1 t ((hasN_iff _ _).1 hh)] at ht; cases ht
            exact (f1.zs t this).trans (hF.zs t ht)
          cases e with
          | normal =>
            simp only [toA, Option.some.injEq] at he
            subst he
            simp only [thenA] at hq
            split at hq
            · rename_i v' hv'
              obtain ⟨hr', hlt⟩ := hq
              have hsl : ∀ t, BRel bs2 (look S2.fr t) (a2.tmps.getD t undef) := fun t => (f1.slots t).brel
              refine ⟨unc _ L.shapes mu v' S2.H, hlt, v', S2.H, hr', rfl, ?_, ?_⟩
              · exact FC.head L hF hok1 (S2 := S2) (bs2 := bs2) f1.size f1.defers hsl hv' (cells := fun j => match L.cells[j]? with | some q => (Ax.cellV w2 bs2 q.1 q.2.1).getD undef | none => undef)
                  (fun j q hq => by rw [hq]; exact f2.cellV _ _) (fun t ht => f1.zs t ht) _
              · exact WC.head (S := S) (S2 := S2) L hW hp f2 hv' hsl
            · exact hq.elim
          | exit id => simp only [toA, Option.some.injEq] at he; subst he; exact out _ hq rfl
          | ret => simp only [toA, Option.some.injEq] at he; subst he; exact out _ hq rfl
          | goto l => simp [toA] at he
          | panic c => simp [toA] at he
          | outgrown => simp [toA] at he
        · exact h.elim
      · exact h.elim
    · exact h.elim

def resOne (tm : Array Value) : ResultVar → Sem Value
  | .tmp t => pure (tm.getD t undef)
  | .cell b t => do loadVar t (← asAddr (tm.getD b undef))

/-- What a function hands back. -/
theorem retVal_sound {p : Pro} {z : Nat → Value} {zb : ZB} {bs : List Nat} {S : AS} {a : Act} {w : World} (hF : FC p z bs S a) (hW : WC p zb H0 w0 bs S.bx S.H w) : ∀ (l : List ResultVar) (K : List Value → Prop), retVal C S l K →
    ∃ vs, (l.mapM (resOne a.tmps)).run C.P w = .ok vs w ∧ K vs
  | [], K, h => ⟨[], by simp, h⟩
  | .tmp t :: l, K, h => by
    simp only [retVal] at h
    have hs := (hF.slots t).brel
    split at h
    · rename_i x hx
      rw [hx] at hs
      have hs : a.tmps.getD t undef = x := hs
      obtain ⟨vs, h1, h2⟩ := retVal_sound hF hW l _ h
      exact ⟨x :: vs, by rw [List.mapM_cons]; simp only [resOne, Sem.run_bind, Sem.run_pure, Result.andThen_ok, h1, hs], h2⟩
    · rename_i x hx
      rw [hx] at hs
      have hs : a.tmps.getD t undef = .bool x := hs
      obtain ⟨vs, h1, h2⟩ := retVal_sound hF hW l _ h
      exact ⟨.bool x :: vs, by rw [List.mapM_cons]; simp only [resOne, Sem.run_bind, Sem.run_pure, Result.andThen_ok, h1, hs], h2⟩
    · exact h.elim
  | .cell b t :: l, K, h => by
    simp only [retVal] at h
    have hx := pe_sound (anc := []) hF (by simp) (hF.slots b)
    obtain ⟨ad, e1, x, v, h1, h2, h3⟩ := loadA_sound (by simp) hW hx h
    have e2 : (asAddr (a.tmps.getD b undef)).run C.P w = .ok ad w := by rw [e1]; rfl
    split at h2
    · rename_i y
      have h1 : v = y := h1
      obtain ⟨vs, g1, g2⟩ := retVal_sound hF hW l _ h2
      exact ⟨y :: vs, by rw [List.mapM_cons]; simp only [resOne, Sem.run_bind, Sem.run_pure, Result.andThen_ok, e2, h3 w hW, g1, h1], g2⟩
    · rename_i y
      have h1 : v = .bool y := h1
      obtain ⟨vs, g1, g2⟩ := retVal_sound hF hW l _ h2
      exact ⟨.bool y :: vs, by rw [List.mapM_cons]; simp only [resOne, Sem.run_bind, Sem.run_pure, Result.andThen_ok, e2, h3 w hW, g1, h1], g2⟩
    · exact h2.elim

theorem args0_look : ∀ (l : List Value) (k t : Nat), look (args0 k l) t = .v (if k ≤ t then l.getD (t - k) undef else undef)
  | [], k, t => by simp [args0, look]
  | x :: l, k, t => by
    simp only [args0, look]
    cases hk : Nat.beq k t with
    | true => have := Nat.eq_of_beq_eq_true hk; subst this; simp
    | false =>
      have hne : k ≠ t := fun e => by subst e; simp at hk
      simp only [args0_look l (k + 1) t]
      by_cases h : k ≤ t
      · rw [if_pos (by omega), if_pos h]
        have : t - k = (t - (k + 1)) + 1 := by omega
        rw [this]
        simp
      · rw [if_neg (by omega), if_neg h]

theorem tr_of_vc {f : FuncId} {fn : Func} (hf : C.P.funcs[f]? = some fn) {args : List Value} {H : Heap} {K : Value → Heap → Prop} (h : vcFn C fn args H K) : Tr C.P f ⟨args⟩ H K := by
  refine ⟨fun w hw => ?_⟩
  unfold vcFn at h
  split at h
  · rename_i c hb hn
    have hn := Nat.le_of_ble_eq_true hn
    let a0 : Act := { tmps := (⟨args⟩ : Array Value) ++ Array.replicate (fn.ntmps - args.length) undef, defers := [] }
    let S0 : AS := { fr := args0 0 args, bx := [], H := H, ep := 0, gs := [] }
    have hget : ∀ t, a0.tmps.getD t undef = args.getD t undef := by
      intro t
      simp only [a0, Array.getD_eq_getD_getElem?, List.getD_eq_getElem?_getD]
      by_cases ht : t < args.length
      · rw [Array.getElem?_append_left (by simpa using ht)]; simp
      · rw [Array.getElem?_append_right (by simpa using Nat.le_of_not_lt ht), List.getElem?_eq_none (Nat.le_of_not_lt ht)]
        simp only [Array.getElem?_replicate]
        split <;> rfl
    have hF : FC (pro0 fn.ntmps) (fun t => a0.tmps.getD t undef) [] S0 a0 := by
      refine ⟨by simp [a0, pro0]; omega, rfl, fun t => ?_, fun t e s w x hx => ?_, fun _ _ => rfl, fun t ht => Nat.le_of_ble_eq_true ht⟩
      · show SRel [] _ 0 (look (args0 0 args) t) _
        rw [args0_look, hget]
        show _ = _
        simp
      · have hx : look (args0 0 args) t = _ := hx
        rw [args0_look] at hx
        cases hx
    have hW : WC (pro0 fn.ntmps) ⟨fun _ _ => none, fun _ => none⟩ H w [] S0.bx S0.H w :=
      ⟨rfl, List.nodup_nil, fun i b cs hb => by simp at hb, fun _ _ _ => rfl, fun _ _ => rfl, Keeps.refl hw⟩
    have hwp := vc_sound (H0 := H) (w0 := w) c (pro0 fn.ntmps) _ S0 h _ _ [] a0 w hF hW
    refine calls_of_wp hf hb (wp_mono hwp ?_)
    rintro e a' w' ⟨bs', S', e', _, f1, f2, he, hq⟩
    have fin : retVal { C with res := fn.results.toList } S' fn.results.toList (fun vs => K (match vs with | [x] => x | l => .tuple ⟨l⟩) S'.H) →
        a'.defers = [] ∧ ∃ v, (results fn a'.tmps).run C.P w' = .ok v w' ∧ ∃ v' H', Ending.returned v = .returned v' ∧ Keeps H w H' w' ∧ K v' H' := by
      intro hr
      obtain ⟨vs, g1, g2⟩ := retVal_sound f1 f2 fn.results.toList _ hr
      refine ⟨f1.defers, _, ?_, _, S'.H, rfl, f2.keeps, g2⟩
      have : (results fn a'.tmps).run C.P w' = .ok (if h : vs.toArray.size = 1 then vs.toArray[0] else .tuple vs.toArray) w' := by
        have he : results fn a'.tmps = (do let vs ← fn.results.mapM (resOne a'.tmps); pure (if h : vs.size = 1 then vs[0] else .tuple vs)) := by
          have hfun : (fun r : ResultVar => match r with | .tmp t => pure (a'.tmps.getD t undef) | .cell b t => do loadVar t (← asAddr (a'.tmps.getD b undef))) = resOne a'.tmps := by
            funext r
            cases r <;> rfl
          unfold results
          rw [← hfun]
          rfl
        rw [he, Array.mapM_eq_mapM_toList]
        simp only [map_eq_pure_bind, Sem.run_bind, g1, Result.andThen_ok, Sem.run_pure]
      rw [this]
      congr 1
      match vs with
      | [] => rfl
      | [x] => rfl
      | x :: y :: l => simp
    cases e with
    | normal => simp only [toA, Option.some.injEq] at he; subst he; exact fin hq
    | ret => simp only [toA, Option.some.injEq] at he; subst he; exact fin hq
    | exit id => simp only [toA, Option.some.injEq] at he; subst he; exact hq.elim
    | goto l => simp [toA] at he
    | panic c => simp [toA] at he
    | outgrown => simp [toA] at he
  · exact h.elim
theorem tr_of_eq {f : FuncId} {fn : Func} (hf : C.P.funcs[f]? = some fn) {args : List Value} {H : Heap} {K : Value → Heap → Prop} {F : Prop} (e : vcFn C fn args H K = F) (h : F) : Tr C.P f ⟨args⟩ H K := tr_of_vc hf (Eq.mpr e h)
end
end Go.Ax
