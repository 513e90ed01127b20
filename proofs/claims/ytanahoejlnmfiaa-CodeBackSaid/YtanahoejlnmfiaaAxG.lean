/- Ax, regions that draw their order and turn memory. Conditions: those of each lemma. -/
import Derived.Test.YtanahoejlnmfiaaAxZ
import Derived.OrdersHeld
namespace Go.Ax
open Go.RowKit

section
variable {C : Cx} {ds : List Nat} {p : Pro} {z : Nat → Value} {zb : ZB} {H0 : Heap} {w0 : World} {bs : List Nat} {S : AS} {a : Act} {G : Option Bool} {Q : Exit → Act → World → Prop}

def QRun (C : Cx) (W : World → Prop) (bs : List Nat) (o : Oper) (a : Act) (K : AV → Prop) : Prop := ∃ x v, BRel bs x v ∧ K x ∧ ∀ w, W w → (execOp a.eval o).run C.P w = .ok (.value v) w
theorem QRun.of_run {W : World → Prop} {o : Oper} {K : AV → Prop} (h : ∃ x v, BRel bs x v ∧ K x ∧ ∀ w, W w → (execOp a.eval o).run C.P w = .ok (.value v) w) : QRun C W bs o a K := h
theorem QRun.of_yl {W : World → Prop} {o : Oper} {K : AV → Prop} {s : Sem Value} (he : execOp a.eval o = (do pure (.value (← s)))) (h : YlC C.P bs W s K) : QRun C W bs o a K := by
  obtain ⟨x, v, h1, h2, h3⟩ := h
  refine ⟨x, v, h1, h2, fun w hw => ?_⟩
  rw [he]
  simp [h3 w hw]
theorem QRun.of_val {W : World → Prop} {o : Oper} {K : AV → Prop} (v : Value) (hk : K (.v v)) (he : ∀ w, (execOp a.eval o).run C.P w = .ok (.value v) w) : QRun C W bs o a K := ⟨.v v, v, rfl, hk, fun w _ => he w⟩

theorem valR_sound (hF : FC ds p z bs S a) {anc : List (Nat × Bool)} (ha : ∀ q ∈ anc, a.tmps.getD q.1 undef = .bool q.2) (hG : ∀ g, G = some g → g = true) {o : Oper} {w : World} (hW : loadO C o = true → WC ds p zb H0 w0 bs S.bx S.H w)
    {K : AV → Prop} (hc : callO o = false) (h : valA C G S anc o K) : QRun C (fun w => loadO C o = true → WC ds p zb H0 w0 bs S.bx S.H w) bs o a K := by
  have ev := evA_sound hF ha
  obtain ⟨dst, op, type, pos, after, guard⟩ := o
  unfold valA at h
  split at h
  · rename_i x heq
    simp only at heq; subst heq
    exact .of_run ⟨_, _, ev x, h, fun w _ => by simp [execOp]⟩
  · rename_i x heq
    simp only at heq; subst heq
    exact .of_run ⟨_, _, ev x, h, fun w _ => by simp [execOp]⟩
  · rename_i c x y heq
    simp only at heq; subst heq
    obtain ⟨av, v, h1, h2, g, h3, h4⟩ := pickA_sound hF ha h
    exact .of_run ⟨av, v, h1, h2, fun w _ => by subst h4; cases g <;> simp [execOp, h3, asBool]⟩
  · rename_i op t x y yt heq
    simp only at heq; subst heq
    exact .of_yl rfl (binA_sound hG (ev x) (ev y) h).c
  · rename_i t x heq
    simp only at heq; subst heq
    split at h
    · rename_i b hb
      have hv := asB_some hb (ev x)
      exact .of_val _ h fun w => by simp [execOp, hv, Op.unary]
    · exact h.elim
  · rename_i t x heq
    simp only at heq; subst heq
    split at h
    · rename_i k n hx
      have hv := ev x
      rw [hx] at hv
      have hv : a.eval x = .int k n := hv
      exact .of_val _ h fun w => by simp [execOp, hv, Op.unary, Op.intArith]
    · exact h.elim
  · rename_i src dst' x heq
    simp only at heq; subst heq
    have hv := ev x
    split at h
    · rename_i d k k' n h1 h2 hx
      rw [hx] at hv
      have hv : a.eval x = .int k' n := hv
      exact .of_val _ h fun w => by
        simp [execOp, hv, convert, run_underlying h1, run_underlying h2, Conv.intToInt]
    · rename_i s h1 h2 hx
      rw [hx] at hv
      have hv : a.eval x = .string s := hv
      exact .of_val _ h fun w => by simp [execOp, hv, convert, run_underlying h1, run_underlying h2]
    · rename_i e A n c h1 h2 hx
      rw [hx] at hv
      have hv : a.eval x = .slice A n c := hv
      split at h
      · rename_i hu
        obtain ⟨st, g1, g2⟩ := h
        have g1 := ob_of hG g1
        refine .of_run ⟨.v (.string st), .string st, rfl, g2, fun w' hw' => ?_⟩
        have hw' := hw' (by simp [loadO, isSlT, h1])
        have hr := bytes_run (src := src) (dst := dst') (c := c) hw'.keeps.holds h1 hu h2 g1
        simp only [execOp, hv]
        rw [Sem.run_bind, hr]
        simp only [Result.andThen_ok, Sem.run_pure]
      · exact h.elim
    · exact h.elim
  · rename_i st x f heq
    simp only at heq; subst heq
    have hv := ev x
    split at h
    · rename_i fd hfd
      have hst : ∃ fs, C.P.underlying st = some (.struct fs) ∧ fs[f]? = some fd := by
        unfold fieldOf at hfd
        split at hfd
        · exact ⟨_, by assumption, hfd⟩
        · cases hfd
      obtain ⟨fs, hu, hf⟩ := hst
      split at h
      · exact h.elim
      · rename_i hsz
        have hsz : C.P.cellsOf fd.type ≠ 0 := fun e => by rw [e] at hsz; cases hsz
        have hinfo : (C.P.info? fd.type).isSome = true := by
          cases hi : C.P.info? fd.type with
          | none => exact absurd (by simp [Program.cellsOf, hi]) hsz
          | some i => rfl
        have hfp : ∀ (ad : Addr) (w : World), (fieldPlace ad fd).run C.P w = .ok (ad.add fd.offset) w := fun ad w => by simp [fieldPlace, size_run hinfo w, hsz]
        split at h
        · rename_i i off hx
          rw [hx] at hv
          obtain ⟨b, hb, hv⟩ := hv
          refine .of_run ⟨.loc i (off + fd.offset), .pointer (some ⟨b, off + fd.offset, none⟩), ⟨b, hb, rfl⟩, h, fun w _ => ?_⟩
          simp [execOp, Instr.fieldAt, run_underlying hu, hf, hv, Instr.sureAddr, hfp, addr_add]
        · rename_i ad hx
          rw [hx] at hv
          have hv : a.eval x = .pointer (some ad) := hv
          exact .of_val _ h fun w => by simp [execOp, Instr.fieldAt, run_underlying hu, hf, hv, Instr.sureAddr, hfp]
        · exact h.elim
    · exact h.elim
  · rename_i st x f heq
    simp only at heq; subst heq
    have hv := ev x
    split at h
    · rename_i fd cs hfd hx
      rw [hx] at hv
      have hv : a.eval x = .agg cs := hv
      have hst : ∃ fs, C.P.underlying st = some (.struct fs) ∧ fs[f]? = some fd := by
        unfold fieldOf at hfd
        split at hfd
        · exact ⟨_, by assumption, hfd⟩
        · cases hfd
      obtain ⟨fs, hu, hf⟩ := hst
      split at h
      · rename_i hag hinfo
        rw [Bool.and_eq_true] at hinfo
        obtain ⟨hinfo, hd⟩ := hinfo
        obtain ⟨d, hd⟩ := Option.isSome_iff_exists.1 hd
        refine .of_val _ h fun w => ?_
        have e1 := isAgg_run hd w
        rw [hag] at e1
        simp [execOp, Instr.field, run_underlying hu, hf, hv, asAgg, part, e1, size_run hinfo w]
        apply Array.ext'
        simp [List.take_drop]
      · rename_i hag hinfo
        split at h
        · rename_i y hy
          rw [nthO_eq] at hy
          have hy' : cs[fd.offset]? = some y := by simpa using hy
          rw [Bool.and_eq_true] at hinfo
          obtain ⟨d, hd⟩ := Option.isSome_iff_exists.1 hinfo.2
          refine .of_val _ h fun w => ?_
          have e1 := isAgg_run hd w
          rw [hag] at e1
          simp [execOp, Instr.field, run_underlying hu, hf, hv, asAgg, part, e1, hy']
        · exact h.elim
      · exact h.elim
    · exact h.elim
  · rename_i t x i heq
    simp only at heq; subst heq
    have hv := ev x
    have hvi := ev i
    split at h
    · rename_i e A n c k ix hu hx hi
      rw [hx] at hv
      rw [hi] at hvi
      have hv : a.eval x = .slice A n c := hv
      have hvi : a.eval i = .int k ix := hvi
      split at h
      · rename_i hinfo
        obtain ⟨ad, h1, h2⟩ := h
        obtain ⟨h1, h3, h4⟩ := ob_of hG h1
        exact .of_val _ h2 fun w => by simp [execOp, Instr.indexAt, hvi, hv, asIntOf, run_underlying hu, h1, h3, h4, size_run hinfo w]
      · exact h.elim
    · rename_i n e ad k ix hu hx hi
      rw [hx] at hv
      rw [hi] at hvi
      have hv : a.eval x = .pointer (some ad) := hv
      have hvi : a.eval i = .int k ix := hvi
      split at h
      · rename_i hinfo
        obtain ⟨h1, h2⟩ := h
        obtain ⟨h3, h4⟩ := ob_of hG h1
        exact .of_val _ h2 fun w => by simp [execOp, Instr.indexAt, hvi, hv, asIntOf, run_underlying hu, Instr.sureAddr, h3, h4, size_run hinfo w]
      · exact h.elim
    · exact h.elim
  · rename_i t x i heq
    simp only at heq; subst heq
    have hv := ev x
    have hvi := ev i
    split at h
    · rename_i s k ix hu hx hi
      rw [hx] at hv
      rw [hi] at hvi
      have hv : a.eval x = .string s := hv
      have hvi : a.eval i = .int k ix := hvi
      obtain ⟨b, h1, h2⟩ := h
      obtain ⟨h3, h4⟩ := ob_of hG h1
      refine .of_val _ h2 fun w => ?_
      have hlt : ix.toNat < s.size := by
        rcases Nat.lt_or_ge ix.toNat s.data.toList.length with hh | hh
        · simpa using hh
        · rw [List.getElem?_eq_none hh] at h4; cases h4
      have hr := run_index_string (P := C.P) w t s k ix hu
      rw [dif_pos ⟨h3, by omega⟩] at hr
      have hb : s[ix.toNat]'hlt = b := by
        have h5 : s.data.toList[ix.toNat]? = some (s.data.toList[ix.toNat]'(by simpa using hlt)) := List.getElem?_eq_getElem _
        rw [h5] at h4
        exact Option.some.inj h4
      rw [hb] at hr
      simp only [execOp, hv, hvi]
      rw [Sem.run_bind, hr]
      simp only [Result.andThen_ok, Sem.run_pure]
    · rename_i n e cs k ix hu hx hi
      rw [hx] at hv
      rw [hi] at hvi
      have hv : a.eval x = .agg cs := hv
      have hvi : a.eval i = .int k ix := hvi
      split at h
      · rename_i l hl hinfo h2
        rw [Bool.and_eq_true] at hinfo
        obtain ⟨d, hd⟩ := Option.isSome_iff_exists.1 hinfo.2
        have h2 : aggT C.P e = true ∨ C.P.cellsOf e = 1 := by
          rw [Bool.or_eq_true] at h2
          exact h2.imp id Nat.eq_of_beq_eq_true
        obtain ⟨r, h3, h4⟩ := (exV_iff _ _).1 h
        have h3 := ob_of hG h3
        refine .of_val _ h4 fun w => ?_
        have hr := index_arr_run (k := k) hu hd hinfo.1 h2 h3 (by rw [enc_length, shp_length hl]) w
        simp only [execOp, hv, hvi]
        rw [Sem.run_bind, hr]
        simp only [Result.andThen_ok, Sem.run_pure]
      · exact h.elim
    · exact h.elim
  · rename_i t x lo hi heq
    simp only at heq; subst heq
    split at h
    · rename_i hok
      refine .of_yl rfl (sliceA_sound hG (ev x) (vlo := lo.map a.eval) (vhi := hi.map a.eval) (opt_sound hF ha lo) (opt_sound hF ha hi) h (fun e he => ?_)).c
      simpa [sliceOk, he] using hok
    · exact h.elim
  · rename_i x i heq
    simp only at heq; subst heq
    have hv := ev x
    split at h
    · rename_i vs hx
      rw [hx] at hv
      have hv : a.eval x = .tuple vs := hv
      split at h
      · rename_i y hy
        rw [nthO_eq] at hy
        have hy' : vs[i]? = some y := by simpa using hy
        exact .of_val _ h fun w => by simp [execOp, Instr.extract, hv, hy']
      · exact h.elim
    · exact h.elim
  · rename_i t x heq
    simp only at heq; subst heq
    obtain ⟨ad, h1, h2⟩ := loadA_sound hG (hW rfl) (ev x) h
    refine .of_yl (s := loadVar t ad) ?_ (let ⟨x, v, q1, q2, q3⟩ := h2; ⟨x, v, q1, q2, fun w hw => q3 w (hw rfl)⟩)
    simp [execOp, h1, Instr.loadAt, Instr.sureAddr]
  · rename_i x heq
    simp only at heq; subst heq
    have hv := ev x
    split at h
    · rename_i i off hx
      rw [hx] at hv
      obtain ⟨b, hb, hv⟩ := hv
      exact .of_run ⟨.loc i off, .pointer (some ⟨b, off, none⟩), ⟨b, hb, rfl⟩, h, fun w _ => by simp [execOp, hv]⟩
    · rename_i q hx
      rw [hx] at hv
      have hv : a.eval x = .pointer q := hv
      obtain ⟨ad, h1, h2⟩ := h
      have h1 := ob_of hG h1
      subst h1
      exact .of_val _ h2 fun w => by simp [execOp, hv]
    · rename_i g first cap hx
      rw [hx] at hv
      have hv : a.eval x = .func (.func g) first cap := hv
      exact .of_val _ h fun w => by simp [execOp, hv]
    · exact h.elim
  · rename_i t ps heq
    simp only at heq; subst heq
    split at h
    · rename_i l hl
      have hp := parts_sound hF ha ps.toList l hl
      split at h
      · rename_i cs hcs
        refine .of_val _ h fun w => ?_
        have hr := run_build (P := C.P) w t (ps.map fun (i, x) => (i, a.eval x)) cs (by
          have : (ps.map fun (i, x) => (i, a.eval x)).toList = l := by rw [← hp]; simp
          rw [this]; exact hcs)
        simp only [execOp]
        rw [Sem.run_bind, hr]
        rfl
      · exact h.elim
    · exact h.elim
  · rename_i fn first cap heq
    simp only at heq; subst heq
    split at h
    · rename_i l1 l2 h1 h2
      have e1 := evAll_sound hF ha first.toList l1 h1
      have e2 := evAll_sound hF ha cap.toList l2 h2
      have e1' : first.map a.eval = ⟨l1⟩ := by apply Array.ext'; simpa using e1
      have e2' : cap.map a.eval = ⟨l2⟩ := by apply Array.ext'; simpa using e2
      exact .of_val _ h fun w => by simp [execOp, Instr.makeFunc, e1', e2']
    · exact h.elim
  · rename_i b args ats heq
    simp only at heq; subst heq
    obtain ⟨hlen, hget⟩ := evAll_get hF ha args.toList
    refine .of_run ?_
    obtain ⟨x, v, h1, h2, h3⟩ := bltA_sound (bs := bs) (ats := ats) (ty := type) (cs := args.map fun | .const _ => true | _ => false) (vs := args.map a.eval) (xs := evAll S anc args.toList) (fun j x hx => by
      obtain ⟨y, hy, hb⟩ := hget j x hx
      exact ⟨y, by simpa using hy, hb⟩) (by simp [hlen]) h
    exact ⟨x, v, h1, h2, fun w _ => by rw [BigFrame.execOp_builtin]; exact h3 w⟩
  · rename_i fo args ats heq
    simp only at heq; subst heq
    simp [callO] at hc
  · exact h.elim

theorem val_stepR (hF : FC ds p z bs S a) {ops : Array Oper} {o : Oper} {K : AS → Prop} (he : isEff C o = false) (hc : callO o = false) {w : World} (hW : loadO C o = true → WC ds p zb H0 w0 bs S.bx S.H w) (h : vcOp C p ops.toList o K S) :
    ∃ v S', YieldsIf C.P ops (fun w => loadO C o = true → WC ds p zb H0 w0 bs S.bx S.H w) o v a ∧ FC ds p z bs S' (a.put o.dst v) ∧ S'.bx = S.bx ∧ S'.H = S.H ∧ K S' := by
  unfold vcOp at h
  split at h
  · rename_i hg
    unfold vcRun at h
    rw [he] at h
    obtain ⟨x, v, h1, h2, h3⟩ := valR_sound (anc := []) hF (by simp) (by simp) hW hc h
    obtain ⟨S', f⟩ := finish_sound hF h1 h2
    exact ⟨v, S', .inl ⟨by simp [Region.wanted, hg], h3⟩, f⟩
  · rename_i jw hg
    split at h
    · rename_i s hs
      have hw := wanted_iff hg hs a.tmps
      split at h
      · rename_i b hb
        have hsl := hF.slots s
        rw [hb] at hsl
        have hsl : a.tmps.getD s undef = .bool b := hsl
        split at h
        · rename_i hq
          have : jw.2 = b := by cases h1 : jw.2 <;> cases b <;> simp_all [bq]
          subst this
          unfold vcRun at h
          rw [he] at h
          obtain ⟨x, v, h1, h2, h3⟩ := valR_sound hF (ancs_sound hF 8 s jw.2 hsl) (by simp) hW hc h
          obtain ⟨S', f⟩ := finish_sound hF h1 h2
          exact ⟨v, S', .inl ⟨hw.2 hsl, h3⟩, f⟩
        · rename_i hq
          obtain ⟨S', f⟩ := finish_sound (v := undef) hF (x := .any) trivial h
          refine ⟨undef, S', .inr ⟨?_, rfl⟩, f⟩
          cases hww : Region.wanted o (yielded ops a.tmps) with
          | true =>
            have := hw.1 hww
            rw [hsl] at this; injection this with this; subst this
            cases h1 : jw.2 <;> rw [h1] at hq <;> cases hq
          | false => rfl
      · split at h
        · by_cases hsv : a.tmps.getD s undef = .bool jw.2
          · obtain ⟨x, v, h1, h2, h3⟩ := valR_sound hF (ancs_sound hF 8 s jw.2 hsv) (fun g hgg => gB_sound hF 8 s jw.2 g hgg hsv) hW hc h
            obtain ⟨S', f⟩ := finishG_sound hF ⟨fun _ => h1, fun hne => absurd hsv hne⟩ h2
            exact ⟨v, S', .inl ⟨hw.2 hsv, h3⟩, f⟩
          · obtain ⟨x, hx⟩ := valA_any h
            obtain ⟨S', f⟩ := finishG_sound hF ⟨fun e => absurd e hsv, fun _ => rfl⟩ hx
            refine ⟨undef, S', .inr ⟨?_, rfl⟩, f⟩
            cases hww : Region.wanted o (yielded ops a.tmps) with
            | true => exact absurd (hw.1 hww) hsv
            | false => rfl
        · rename_i h1 _; rw [he] at h1; cases h1
        · rename_i h1 _; rw [he] at h1; cases h1
    · exact h.elim

/-! ### what an operation does to the boxes -/
def storedAt (S : AS) (o : Oper) (i : Nat) : Bool := match o.op with
  | .store _ a _ => (match evA S [] a with | .loc k _ => Nat.beq k i | _ => false)
  | _ => false
def KeepB (o : Oper) (S : AS) (bx : List (List AV)) : Prop := ∀ i cs, S.bx[i]? = some cs → ∃ cs', bx[i]? = some cs' ∧ cs'.length = cs.length ∧ (storedAt S o i = false → cs' = cs)
theorem KeepB.same {o : Oper} {bx : List (List AV)} (h : bx = S.bx) : KeepB o S bx := fun i cs hi => ⟨cs, by rw [h]; exact hi, rfl, fun _ => rfl⟩
theorem KeepB.app {o : Oper} {bx l : List (List AV)} (h : bx = S.bx ++ l) : KeepB o S bx := fun i cs hi => ⟨cs, by
  rw [h, List.getElem?_append_left (by
    rcases Nat.lt_or_ge i S.bx.length with h | h
    · exact h
    · rw [List.getElem?_eq_none h] at hi; cases hi)]
  exact hi, rfl, fun _ => rfl⟩
theorem appC.mono {e : TypeId} {sz bytes : Nat} {H : Heap} {A : Option Addr} {n c : Nat} {new : List Value} {m : Nat} {K K' : Option Addr → Nat → Nat → Heap → Prop} (k : ∀ A n c H, K A n c H → K' A n c H)
    (h : appC e sz bytes H A n c new m K) : appC e sz bytes H A n c new m K' := by
  obtain ⟨old, h1, h2, h3, h4, h5, h6, h7, h8⟩ := h.out
  refine ⟨⟨old, h1, h2, h3, h4, h5, h6, fun hc => ?_, fun hc b cap rest x1 x2 x3 => k _ _ _ _ (h8 hc b cap rest x1 x2 x3)⟩⟩
  rcases h7 hc with ⟨q1, q2⟩ | ⟨ad, cur, T, q1, q2, q3, q4, q5⟩
  · exact .inl ⟨q1, k _ _ _ _ q2⟩
  · exact .inr ⟨ad, cur, T, q1, q2, q3, q4, k _ _ _ _ q5⟩
theorem appS.mono {e : TypeId} {sz bytes : Nat} {H : Heap} {A : Option Addr} {n c : Nat} {B : Option Addr} {m : Nat} {K K' : Option Addr → Nat → Nat → Heap → Prop} (k : ∀ A n c H, K A n c H → K' A n c H)
    (h : appS e sz bytes H A n c B m K) : appS e sz bytes H A n c B m K' := by
  obtain ⟨new, h1, h2, h3⟩ := h.out
  exact ⟨⟨new, h1, h2, h3.mono k⟩⟩
theorem newBox_mono {o : Oper} {d t : Nat} {l : List AV} {K K' : AV → AS → Prop} (k : ∀ x S', K x S' → KeepB o S S'.bx → K' x S') (h : newBox C S d t l K) : newBox C S d t l K' := by
  unfold newBox at h ⊢
  split at h
  · split at h
    · exact fun b hb => hup_mono (fun _ h => k _ _ h (.same rfl)) (h b hb)
    · exact h.elim
  · exact k _ _ h (.app rfl)
theorem effA_mono {o : Oper} {K K' : AV → AS → Prop} (k : ∀ x S', K x S' → KeepB o S S'.bx → K' x S') (h : effA C p S o K) : effA C p S o K' := by
  obtain ⟨dst, op, type, pos, after, guard⟩ := o
  have sem : ∀ {t : TypeId} {s : Sem Value}, semE C S t s K → semE C S t s K' := by
    intro t s h
    unfold semE at h ⊢
    split at h
    · refine ⟨fun w hw => ?_⟩
      obtain ⟨v, H', w', hr, hk, hv⟩ := h.run w hw
      obtain ⟨r, e1, e2⟩ := (exV_iff _ _).1 hv
      exact ⟨v, H', w', hr, hk, (exV_iff _ _).2 ⟨r, e1, k _ _ e2 (.same rfl)⟩⟩
    · exact h.elim
  have semu : ∀ {s : Sem Unit}, semU C S s K → semU C S s K' := by
    intro s h
    refine ⟨fun w hw => ?_⟩
    obtain ⟨v, H', w', hr, hk, hv⟩ := Sm.run h w hw
    exact ⟨v, H', w', hr, hk, k _ _ hv (.same rfl)⟩
  unfold effA at h ⊢
  split at h
  · exact fun b hb => hup_mono (fun _ h => k _ _ h (.same rfl)) (h b hb)
  · split at h
    · exact sem h
    · exact h.elim
  · split at h
    · exact sem h
    · exact h.elim
  · split at h
    · exact semu h
    · exact h.elim
  · split at h
    · exact semu h
    · exact h.elim
  · split at h
    · exact sem h
    · exact h.elim
  · split at h
    · exact newBox_mono k h
    · exact h.elim
  · split at h
    · split at h
      · exact newBox_mono k h
      · exact h.elim
    · exact h.elim
  · rename_i t x y heq
    simp only at heq; subst heq
    unfold storeA at h ⊢
    split at h
    · split at h
      · split at h
        · rename_i i off ha
          split at h
          · rename_i old ho
            split at h
            · rename_i hb _
              refine k _ _ h fun j cs hj => ?_
              by_cases hij : i = j
              · subst hij
                rw [ho] at hj; cases hj
                have hlt := (List.getElem?_eq_some_iff.1 ho).1
                refine ⟨_, by simp [hlt]; rfl, ?_, fun hs => ?_⟩
                · have := Nat.le_of_ble_eq_true hb
                  simp [spliceL]; omega
                · have : Nat.beq i i = true := Nat.beq_refl i
                  simp [storedAt, ha] at hs
              · exact ⟨cs, by simp [hij, hj], rfl, fun _ => rfl⟩
            · exact h.elim
          · exact h.elim
        · split at h
          · obtain ⟨c, T, h1, h2, h3, h4⟩ := h
            exact ⟨c, T, h1, h2, h3, hup_mono (fun _ h => k _ _ h (.same rfl)) h4⟩
          · exact h.elim
        · exact h.elim
      · exact h.elim
    · exact h.elim
  · split at h
    · split at h
      · split at h
        · split at h
          · exact fun b hb => hup_mono (fun _ h => k _ _ h (.same rfl)) (h b hb)
          · exact k _ _ h (.app rfl)
        · exact h.elim
      · exact h.elim
    · exact h.elim
  · split at h
    · unfold appA at h ⊢
      split at h
      · split at h
        · split at h
          · split at h
            · split at h
              · split at h
                · split at h
                  · exact appC.mono (fun _ _ _ _ q => k _ _ q (.same rfl)) h
                  · exact h.elim
                · exact h.elim
              · split at h
                · exact appS.mono (fun _ _ _ _ q => k _ _ q (.same rfl)) h
                · exact h.elim
              · split at h
                · exact appC.mono (fun _ _ _ _ q => k _ _ q (.same rfl)) h
                · exact h.elim
              · exact h.elim
            · exact h.elim
          · exact h.elim
        · exact h.elim
      · exact h.elim
    · exact h.elim
  · split at h
    · split at h
      · unfold callE at h ⊢
        split at h
        · split at h
          · refine h.mono fun v H' hv => ?_
            obtain ⟨r, e1, e2⟩ := (exV_iff _ _).1 hv
            exact (exV_iff _ _).2 ⟨r, e1, k _ _ e2 (.same rfl)⟩
          · exact h.elim
        · exact h.elim
      · exact h.elim
    · exact h.elim
  · exact h.elim
theorem storedAt_ok {S : AS} {o : Oper} (h : gOk o = true) (i : Nat) : storedAt S o i = false := by
  unfold gOk at h; unfold storedAt
  split at h
  · cases h
  · rename_i hne
    split
    · rename_i t a x heq; exact absurd heq (hne t a x)
    · rfl
theorem spl_mono {bx0 : List (List AV)} {T T' Fl Fl' : AS → Prop} : ∀ (f : Nat) {S : AS} {s : Nat} {w : Bool}, S.bx = bx0 → (∀ S', S'.bx = bx0 → T S' → T' S') → (∀ S', S'.bx = bx0 → Fl S' → Fl' S') → spl f S s w T Fl → spl f S s w T' Fl'
  | 0, _, _, _, _, _, _, h => h.elim
  | f + 1, S, s, w, e, k1, k2, h => by
    unfold spl at h ⊢
    split at h
    · split at h
      · exact k1 _ e h
      · exact k2 _ e h
    · exact ⟨fun g => k1 _ e (h.1 g), fun g => k2 _ e (h.2 g)⟩
    · split at h
      · exact spl_mono (T := fun S' => spl f S' s w T Fl) (T' := fun S' => spl f S' s w T' Fl') f e (fun S' e' h' => spl_mono f e' k1 k2 h') k2 h
      · exact h.elim
    · exact h.elim
theorem finish_and {o : Oper} {x : AV} {K : AS → Prop} {R : List (List AV) → Prop} (h : finish p o x S K) (r : R S.bx) : finish p o x S (fun S' => K S' ∧ R S'.bx) := by
  unfold finish at h ⊢
  split at h
  · exact ⟨h, r⟩
  · split at h
    · exact ⟨h, r⟩
    · exact h.elim
theorem eff_step2 (hF : FC ds p z bs S a) {w : World} (hW : WC ds p zb H0 w0 bs S.bx S.H w) {ops : Array Oper} {o : Oper} {K : AS → Prop} (he : isEff C o = true) (h : vcOp C p ops.toList o K S) {next : Act → World → Prop}
    (hn : ∀ v w' bs' S', bs <+: bs' → FC ds p z bs' S' (a.put o.dst v) → WC ds p zb H0 w0 bs' S'.bx S'.H w' → K S' → KeepB o S S'.bx → next (a.put o.dst v) w') :
    (Region.wanted o (yielded ops a.tmps) = true → o.wp C.P a w next Q) ∧ (Region.wanted o (yielded ops a.tmps) = false → next (a.put o.dst undef) w) := by
  refine eff_step (ops := ops) (K := fun S' => K S' ∧ KeepB o S S'.bx) hF hW he ?_ fun v w' bs' S' h1 h2 h3 h4 => hn v w' bs' S' h1 h2 h3 h4.1 h4.2
  unfold vcOp at h ⊢
  split at h
  · unfold vcRun at h ⊢
    rw [he] at h ⊢
    exact effA_mono (fun x S' h1 h2 => finish_and h1 h2) h
  · split at h
    · split at h
      · split at h
        · unfold vcRun at h ⊢
          rw [he] at h ⊢
          exact effA_mono (fun x S' h1 h2 => finish_and h1 h2) h
        · exact finish_and h (.same rfl)
      · rw [he] at h ⊢
        split at h
        · rename_i hx; cases hx
        · rename_i hok
          refine spl_mono 4 rfl (fun S' e h => ?_) (fun S' e h => ?_) h
          · exact effA_mono (fun x S'' h1 h2 => finish_and h1 (fun i cs hi => by
              obtain ⟨cs', q1, q2, q3⟩ := h2 i cs (by rw [e]; exact hi)
              exact ⟨cs', q1, q2, fun _ => q3 (storedAt_ok hok i)⟩)) h
          · exact finish_and h (.same e)
        · exact h.elim
    · exact h.elim

/-! ### the class of worlds in which a load may be taken first -/
def Wk (bl : List Nat) (bx0 bx : List (List AV)) : Prop := ∀ i cs, bx0[i]? = some cs → ∃ cs', bx[i]? = some cs' ∧ cs'.length = cs.length ∧ (hasN bl i = false → cs' = cs)
theorem blank_get {bl : List Nat} : ∀ (l : List (List AV)) (k i : Nat), (blankB bl k l)[i]? = (l[i]?).map fun cs => match hasN bl (k + i) with | true => cs.map fun _ => .any | false => cs
  | [], k, i => by simp [blankB]
  | x :: l, k, 0 => by simp [blankB]; rfl
  | x :: l, k, i + 1 => by
    simp only [blankB, List.getElem?_cons_succ]
    rw [blank_get l (k + 1) i, show k + 1 + i = k + (i + 1) by omega]
theorem blank_len {bl : List Nat} (l : List (List AV)) (k : Nat) : (blankB bl k l).length = l.length := by
  induction l generalizing k with
  | nil => rfl
  | cons x l ih => simp [blankB, ih]
theorem BRel.weak {bs bs' : List Nat} (hp : bs <+: bs') {x : AV} {y : Value} (hx : ∀ j off, (x = .loc j off ∨ ∃ n c, x = .lsl j off n c) → j < bs.length) (h : BRel bs' x y) : BRel bs x y := by
  have get : ∀ j b, j < bs.length → bs'[j]? = some b → bs[j]? = some b := fun j b hj hb => by
    obtain ⟨t, rfl⟩ := hp
    rwa [List.getElem?_append_left hj] at hb
  cases x with
  | loc j off => obtain ⟨b, hb, e⟩ := h; exact ⟨b, get j b (hx j off (.inl rfl)) hb, e⟩
  | lsl j off n c => obtain ⟨b, hb, e⟩ := h; exact ⟨b, get j b (hx j off (.inr ⟨n, c, rfl⟩)) hb, e⟩
  | _ => exact h
theorem BRel.lt {bs : List Nat} {x : AV} {y : Value} (h : BRel bs x y) : ∀ j off, (x = .loc j off ∨ ∃ n c, x = .lsl j off n c) → j < bs.length := by
  rintro j off (rfl | ⟨n, c, rfl⟩)
  · obtain ⟨b, hb, _⟩ := h; exact (List.getElem?_eq_some_iff.1 hb).1
  · obtain ⟨b, hb, _⟩ := h; exact (List.getElem?_eq_some_iff.1 hb).1
theorem wc_weak {bs0 : List Nat} {bx0 bx : List (List AV)} {bl : List Nat} {H Hs Hst : Heap} {w wst : World} (hst : WC ds p zb H0 w0 bs0 bx0 Hst wst) (hW : WC ds p zb H0 w0 bs bx H w) (hp : bs0 <+: bs) (hk : Wk bl bx0 bx) (hs : Sub Hs H) :
    WC ds p zb H0 w0 bs0 (blankB bl 0 bx0) Hs w := by
  refine ⟨by rw [blank_len]; exact hst.blen, hst.nodup, fun i b cs hb hcs => ?_, fun i j hi => hst.okf i j (by rw [blank_len] at hi; exact hi), fun i hi => hst.lnf i (by rw [blank_len] at hi; exact hi), ?_, fun D hD => ?_, hW.dn, hW.bk⟩
  · rw [blank_get, Nat.zero_add] at hcs
    cases hx0 : bx0[i]? with
    | none => rw [hx0] at hcs; cases hcs
    | some cs0 =>
      rw [hx0] at hcs
      obtain ⟨cs', h1, h2, h3⟩ := hk i cs0 hx0
      have hb' : bs[i]? = some b := by
        obtain ⟨t, rfl⟩ := hp
        rw [List.getElem?_append_left (List.getElem?_eq_some_iff.1 hb).1]; exact hb
      obtain ⟨q1, q2, c, T, q3, q4, q5, q6, q7⟩ := hW.boxes i b cs' hb' h1
      obtain ⟨-, -, c0, T0, -, -, r5, -, -⟩ := hst.boxes i b cs0 hb hx0
      have hn : Hs b = none := by
        cases hh : Hs b with
        | none => rfl
        | some o => rw [hs.sub b o hh] at q2; cases q2
      refine ⟨q1, hn, c, T, q3, ?_, ?_, q6, q7⟩
      · simp only [Option.map_some, Option.some.injEq] at hcs
        subst hcs
        split
        · simp; omega
        · omega
      · simp only [Option.map_some, Option.some.injEq] at hcs
        subst hcs
        intro j x hx
        split at hx
        · rename_i hbl
          simp only [List.getElem?_map, Option.map_eq_some_iff] at hx
          obtain ⟨x0, hx0', rfl⟩ := hx
          have hj : j < c.size := by
            have := (List.getElem?_eq_some_iff.1 hx0').1
            omega
          exact ⟨c[j], Array.getElem?_eq_getElem hj, trivial⟩
        · rename_i hbl
          have hbl : hasN bl i = false := by simpa using hbl
          have e := h3 hbl
          subst e
          obtain ⟨y, y1, y2⟩ := q5 j x hx
          obtain ⟨y0, _, z2⟩ := r5 j x hx
          exact ⟨y, y1, y2.weak hp z2.lt⟩
  · refine ⟨hW.keeps.holds.sub hs, fun b hb e => ⟨(hW.keeps.old b hb e).1, ?_⟩, hW.keeps.size, hW.keeps.tape, hW.keeps.os, hW.keeps.output⟩
    cases hh : Hs b with
    | none => rfl
    | some o => have := (hW.keeps.old b hb e).2; rw [hs.sub b o hh] at this; cases this
  · obtain ⟨d1, d2, d3⟩ := hW.dq D hD
    refine ⟨d1, ?_, d3⟩
    cases hh : Hs D with
    | none => rfl
    | some o => rw [hs.sub D o hh] at d2; cases d2

/-! ### the walk of a region that draws its order -/
theorem nthL_eq : ∀ (l : List Oper) (i : Nat), nthL l i = l[i]?
  | [], i => by simp [nthL]
  | o :: l, 0 => by simp [nthL]
  | o :: l, i + 1 => by simp [nthL, nthL_eq l i]
theorem pickN_some {f : Nat → Bool} : ∀ {l : List Nat} {i : Nat}, pickN f l = some i → i ∈ l ∧ f i = true
  | [], i, h => by simp [pickN] at h
  | k :: l, i, h => by
    unfold pickN at h
    split at h
    · rename_i hk; cases h; exact ⟨List.mem_cons_self .., hk⟩
    · have := pickN_some h; exact ⟨List.mem_cons_of_mem _ this.1, this.2⟩
theorem allI_mem {q : Nat → Prop} : ∀ {l : List Nat}, allI l q → ∀ i ∈ l, q i
  | [], _, i, h => by cases h
  | [k], h, i, hi => by simp at hi; subst hi; exact h
  | k :: j :: l, h, i, hi => by
    have h : q k ∧ allI (j :: l) q := h
    rcases List.mem_cons.1 hi with rfl | hi
    · exact h.1
    · exact allI_mem h.2 i hi
theorem yields_weaken {P : Program} {ops : Array Oper} {T T' : World → Prop} {o : Oper} {v : Value} {a : Act} (h : YieldsIf P ops T o v a) (k : ∀ w, T' w → T w) : YieldsIf P ops T' o v a :=
  h.imp (fun ⟨h1, h2⟩ => ⟨h1, fun w hw => h2 w (k w hw)⟩) id
theorem FC.bxH (hF : FC ds p z bs S a) (bx : List (List AV)) (H : Heap) : FC ds p z bs { S with bx := bx, H := H } a := ⟨hF.size, hF.defers, hF.slots, hF.eps, hF.zs, hF.okn⟩

theorem restL_get : ∀ (l : List Oper) (bs : List Bool) (i : Nat) (o : Oper), restL C l bs = true → l[i]? = some o → bs[i]? = some false → isEff C o = false
  | [], _, i, o, _, h, _ => by simp at h
  | _ :: _, [], i, o, _, _, h => by simp at h
  | x :: l, b :: bs, 0, o, h, h1, h2 => by
    simp only [restL, Bool.and_eq_true] at h
    simp at h1 h2
    subst h1; subst h2
    simpa using h.1
  | x :: l, b :: bs, i + 1, o, h, h1, h2 => by
    simp only [restL, Bool.and_eq_true] at h
    exact restL_get l bs i o h.2 (by simpa using h1) (by simpa using h2)
theorem restL_set : ∀ (l : List Oper) (bs : List Bool) (i : Nat), restL C l bs = true → restL C l (bs.set i true) = true
  | [], _, i, _ => by simp [restL]
  | _ :: _, [], i, _ => by simp [restL]
  | x :: l, b :: bs, 0, h => by
    simp only [restL, Bool.and_eq_true] at h
    simp [restL, h.2]
  | x :: l, b :: bs, i + 1, h => by
    simp only [restL, Bool.and_eq_true] at h
    simp only [List.set_cons_succ, restL, Bool.and_eq_true]
    exact ⟨h.1, restL_set l bs i h.2⟩
theorem wpAnyH_of_quiet {P : Program} {md : Region.Mode} {ops : Array Oper} {CC S : World → Prop} {Qf : Act → Prop} {Q' : Exit → Act → World → Prop} (hS : ∀ w, CC w → S w) (hQ : ∀ a w, CC w → Qf a → Q' .normal a w) : ∀ (fuel : Nat) (listed : Array Bool) (a : Act) (w : World), CC w →
    wpAnyQ P md ops CC Qf fuel listed a → wpAnyH P md ops Q' S fuel listed a w
  | 0, _, _, _, hw, h => ⟨h.1, hQ _ _ hw h.2⟩
  | fuel + 1, _, _, _, hw, h => ⟨fun h0 => hQ _ _ hw (h.1 h0), fun i hi => wpOp_of_qOp hw (fun a' w' hw' h' => ⟨hS w' hw', wpAnyH_of_quiet hS hQ fuel _ a' w' hw' h'⟩) (h.2 i hi)⟩
theorem rest_sound {ops : Array Oper} {K : AS → Prop} {bs : List Nat} {bx : List (List AV)} {H : Heap} {w : World} (hW : WC ds p zb H0 w0 bs bx H w) {Qf : Act → Prop} (hsel : Region.noSelect ops = true) :
    ∀ (fuel : Nat) (listed : Array Bool) {S : AS} {a : Act}, vcRest C p ops K fuel listed S → restL C ops.toList listed.toList = true → FC ds p z bs S a → S.bx = bx → S.H = H →
      (∀ S' a', FC ds p z bs S' a' → S'.bx = bx → S'.H = H → K S' → Qf a') → wpAnyQ C.P .any ops (WC ds p zb H0 w0 bs bx H) Qf fuel listed a
  | 0, listed, S, a, h, hr, hF, e1, e2, hQ => by
    unfold vcRest at h
    split at h
    · rename_i hrd; exact ⟨hrd, hQ S a hF e1 e2 h⟩
    · exact h.elim
  | fuel + 1, listed, S, a, h, hr, hF, e1, e2, hQ => by
    unfold vcRest at h
    split at h
    · rename_i hrd; exact ⟨fun _ => hQ S a hF e1 e2 h, by rw [hrd]; simp⟩
    · rename_i r rs hrd
      split at h
      · rename_i i hi
        split at h
        · rename_i o ho
          have hoi : ops[i]? = some o := by rw [nthL_eq] at ho; simpa using ho
          have hm := (pickN_some hi)
          have hmf := hm.2
          simp only [mayFirst, Bool.and_eq_true] at hmf
          obtain ⟨⟨h4, h5⟩, h6⟩ := hmf
          have hrdy : i ∈ Region.ready .any ops listed := by simpa using h5
          have hun := (mem_ready.1 hrdy).1
          have hun' : listed.toList[i]? = some false := by
            rcases Nat.lt_or_ge i listed.size with h' | h'
            · simp [h'] at hun ⊢; exact hun
            · simp [Array.getD, Nat.not_lt.2 h'] at hun
          have he := restL_get ops.toList listed.toList i o hr (by simpa using hoi) hun'
          subst e1; subst e2
          obtain ⟨h1, h2⟩ := val_step hF hW he h
          have go : ∀ v S', YieldsIn C.P ops (WC ds p zb H0 w0 bs S.bx S.H) o v a → FC ds p z bs S' (a.put o.dst v) → S'.bx = S.bx → S'.H = S.H → vcRest C p ops K fuel (listed.setIfInBounds i true) S' → wpAnyQ C.P .any ops (WC ds p zb H0 w0 bs S.bx S.H) Qf (fuel + 1) listed a := by
            intro v S' hy f1 f2 f3 f4
            exact wpAnyQ_first hoi (Region.noSelect_spec hsel) fuel listed a (Region.free_spec hoi h4) hrdy hy
              (rest_sound hW hsel fuel _ f4 (by simpa using restL_set ops.toList listed.toList i hr) f1 f2 f3 hQ)
          cases hw : Region.wanted o (yielded ops a.tmps) with
          | true =>
            obtain ⟨v, q1, S', f1, f2, f3, f4⟩ := h1 hw
            exact go v S' (.inl ⟨hw, q1⟩) f1 f2 f3 f4
          | false =>
            obtain ⟨S', f1, f2, f3, f4⟩ := h2 hw
            exact go undef S' (.inr ⟨hw, rfl⟩) f1 f2 f3 f4
        · exact h.elim
      · exact h.elim
theorem canRest_sel {ops : Array Oper} {fuel : Nat} {listed : Array Bool} {r : Nat} {rs : List Nat} (hr : Region.ready .any ops listed = r :: rs) (h : canRest ops (fuel + 1) listed = true) : Region.noSelect ops = true := by
  unfold canRest at h
  rw [hr] at h
  simp only at h
  split at h
  · rename_i i hi
    have := (pickN_some hi).2
    simp only [mayFirst, Bool.and_eq_true] at this
    exact this.2
  · cases h

theorem any_sound {ops : Array Oper} {d : DS} {Hs Hst : Heap} {wst : World} {bs0 : List Nat} {bx0 : List (List AV)} {K : AS → Prop} (hst : WC ds p zb H0 w0 bs0 bx0 Hst wst) (hpub : d.pub = false → ∀ H, Sub Hs H)
    (hQp : ∀ c a w, ¬ Q (.panic c) a w) (hQ : ∀ bs' S' a' w', bs0 <+: bs' → FC ds p z bs' S' a' → WC ds p zb H0 w0 bs' S'.bx S'.H w' → K S' → Q .normal a' w') :
    ∀ (fuel : Nat) (ph : Bool) (listed : Array Bool) (S : AS) (a : Act) (w : World) (bs : List Nat), vcAny C p ops d Hs bx0.length K fuel ph listed S → FC ds p z bs S a → WC ds p zb H0 w0 bs S.bx S.H w → bs0 <+: bs → Wk d.bl bx0 S.bx → Sub Hs S.H →
      (ph = true → bs = bs0 ∧ S.bx = bx0) → wpAnyH C.P .any ops Q (WC ds p zb H0 w0 bs0 (blankB d.bl 0 bx0) Hs) fuel listed a w := by
  intro fuel
  induction fuel with
  | zero =>
    intro ph listed S a w bs h hF hW hp hk hs hph
    unfold vcAny at h
    split at h
    · rename_i hr
      exact ⟨hr, hQ bs S a w hp hF hW h⟩
    · exact h.elim
  | succ fuel ih =>
    intro ph listed S a w bs h hF hW hp hk hs hph
    have hS := wc_weak hst hW hp hk hs
    unfold vcAny at h
    split at h
    · rename_i hr
      exact wpAnyH_done hr (hQ bs S a w hp hF hW h) _
    · rename_i r rs hr
      split at h
      · rename_i hrest
        simp only [Bool.and_eq_true] at hrest
        refine wpAnyH_of_quiet (CC := WC ds p zb H0 w0 bs S.bx S.H) (Qf := fun a' => ∃ S', FC ds p z bs S' a' ∧ S'.bx = S.bx ∧ S'.H = S.H ∧ K S') (fun w' hw' => wc_weak hst hw' hp hk hs) ?_ (fuel + 1) listed a w hW
          (rest_sound hW (canRest_sel hr hrest.2) (fuel + 1) listed h hrest.1.2 hF rfl rfl (fun S' a' f1 f2 f3 f4 => ⟨S', f1, f2, f3, f4⟩))
        rintro a' w' hw' ⟨S', f1, f2, f3, f4⟩
        exact hQ bs S' a' w' hp f1 (by rw [f2, f3]; exact hw') f4
      split at h
      · rename_i i hi
        have hpi := (pickN_some hi).2
        unfold pureAt at hpi
        split at hpi
        · rename_i o ho
          rw [ho] at h
          simp only [Bool.and_eq_true, mayFirst] at hpi
          obtain ⟨⟨⟨h1, h2⟩, h3⟩, ⟨h4, h5⟩, h6⟩ := hpi
          have hoi : ops[i]? = some o := by rw [nthL_eq] at ho; simpa using ho
          have hlo : loadO C o = false := by simpa using h2
          obtain ⟨v, S', hy, f1, f2, f3, f4⟩ := val_stepR (zb := zb) (H0 := H0) (w0 := w0) hF (by simpa using h1) (by simpa using h3) (w := w) (fun e => by rw [hlo] at e; cases e) h
          exact wpAnyH_take hoi h6 h4 h5 (fun c a w hq => absurd hq (hQp _ _ _)) (yields_weaken hy fun w _ e => by rw [hlo] at e; cases e) hS
            (ih ph _ S' _ w bs f4 f1 (by rw [f2, f3]; exact hW) hp (by rw [f2]; exact hk) (by rw [f3]; exact hs) (fun e => by rw [f2]; exact hph e))
        · cases hpi
      · split at h
        · rename_i i hi
          have hpi := (pickN_some hi).2
          obtain ⟨e1, e2⟩ := hph rfl
          subst e1
          unfold loadAt at hpi
          split at hpi
          · rename_i o ho
            rw [ho] at h
            simp only [Bool.and_eq_true, mayFirst] at hpi
            obtain ⟨⟨⟨_, h1⟩, h3⟩, ⟨h4, h5⟩, h6⟩ := hpi
            have hoi : ops[i]? = some o := by rw [nthL_eq] at ho; simpa using ho
            rw [← e2] at hS
            obtain ⟨v, S', hy, f1, f2, f3, f4⟩ := val_stepR (hF.bxH (blankB d.bl 0 S.bx) Hs) (by simpa using h1) (by simpa using h3) (w := w) (fun _ => hS) h
            refine wpAnyH_take hoi h6 h4 h5 (fun c a w hq => absurd hq (hQp _ _ _)) (yields_weaken hy fun w hw _ => by rw [← e2] at hw; exact hw) (by rw [← e2]; exact hS)
              (ih true _ { S' with bx := S.bx, H := S.H } _ w bs f4 (f1.bxH _ _) hW hp hk hs (fun _ => ⟨rfl, e2⟩))
          · cases hpi
        · refine wpAnyH_all hr (by simp) fun i hi => ?_
          have h := allI_mem h i hi
          split at h
          · rename_i o ho
            split at h
            · rename_i hso
              have hoi : ops[i]? = some o := by rw [nthL_eq] at ho; simpa using ho
              have rc : ∀ (v : Value) (w' : World) (bs' : List Nat) (S' : AS), bs <+: bs' → FC ds p z bs' S' (a.put o.dst v) → WC ds p zb H0 w0 bs' S'.bx S'.H w' → subIf d.pub Hs S'.H (vcAny C p ops d Hs bx0.length K fuel false (listed.setIfInBounds i true) S') → KeepB o S S'.bx →
                  WC ds p zb H0 w0 bs0 (blankB d.bl 0 bx0) Hs w' ∧ wpAnyH C.P .any ops Q (WC ds p zb H0 w0 bs0 (blankB d.bl 0 bx0) Hs) fuel (listed.setIfInBounds i true) (a.put o.dst v) w' := by
                intro v w' bs' S' g1 g2 g3 g4 g5
                have g6 : Sub Hs S'.H ∧ vcAny C p ops d Hs bx0.length K fuel false (listed.setIfInBounds i true) S' := by
                  unfold subIf at g4
                  split at g4
                  · exact g4
                  · rename_i hp'; exact ⟨hpub hp' _, g4⟩
                have g7 : Wk d.bl bx0 S'.bx := by
                  intro j cs hj
                  obtain ⟨cs1, k1, k2, k3⟩ := hk j cs hj
                  obtain ⟨cs2, l1, l2, l3⟩ := g5 j cs1 k1
                  refine ⟨cs2, l1, l2.trans k2, fun hb => ?_⟩
                  rw [l3 ?_, k3 hb]
                  unfold storedAt
                  unfold storeOk at hso
                  split
                  · rename_i t ad x heq
                    rw [heq] at hso
                    simp only at hso
                    split
                    · rename_i k off hev
                      rw [hev] at hso
                      simp only [Bool.or_eq_true] at hso
                      cases hkj : Nat.beq k j with
                      | false => rfl
                      | true =>
                        have := Nat.eq_of_beq_eq_true hkj
                        subst this
                        rcases hso with hso | hso
                        · rw [hb] at hso; cases hso
                        · have := Nat.le_of_ble_eq_true hso
                          have := (List.getElem?_eq_some_iff.1 hj).1
                          omega
                    · rfl
                  · rfl
                exact ⟨wc_weak hst g3 (hp.trans g1) g7 g6.1, ih false _ S' _ w' bs' g6.2 g2 g3 (hp.trans g1) g7 g6.1 (fun e => by cases e)⟩
              unfold wpOp
              simp only [hoi]
              cases he : isEff C o with
              | true =>
                obtain ⟨hwp, hsk⟩ := eff_step2 (Q := Q) (next := fun a' w' => WC ds p zb H0 w0 bs0 (blankB d.bl 0 bx0) Hs w' ∧ wpAnyH C.P .any ops Q (WC ds p zb H0 w0 bs0 (blankB d.bl 0 bx0) Hs) fuel (listed.setIfInBounds i true) a' w') hF hW he h rc
                split
                · rename_i hw; exact .inl (hwp hw)
                · rename_i hw; exact hsk (by simpa using hw)
              | false =>
                obtain ⟨h1, h2⟩ := val_step hF hW he h
                split
                · rename_i hw
                  obtain ⟨v, q1, S', f1, f2, f3, f4⟩ := h1 hw
                  refine .inl (Oper.wp_of_quiet (C := WC ds p zb H0 w0 bs S.bx S.H) (K := fun a' => a' = a.put o.dst v) hW ?_ ⟨v, q1, rfl⟩)
                  rintro a' w' hw' rfl
                  exact rc v w' bs S' List.prefix_rfl f1 (by rw [f2, f3]; exact hw') f4 (.same f2)
                · rename_i hw
                  obtain ⟨S', f1, f2, f3, f4⟩ := h2 (by simpa using hw)
                  exact rc undef w bs S' List.prefix_rfl f1 (by rw [f2, f3]; exact hW) f4 (.same f2)
            · exact h.elim
          · exact h.elim

theorem draw_any {ops : Array Oper} {d : DS} {K : AS → Prop} {w : World} (h : vcDraw C p ops d K S) (hF : FC ds p z bs S a) (hW : WC ds p zb H0 w0 bs S.bx S.H w)
    (hQp : ∀ c a w, ¬ Q (.panic c) a w) (hQ : ∀ bs' S' a' w', bs <+: bs' → FC ds p z bs' S' a' → WC ds p zb H0 w0 bs' S'.bx S'.H w' → K S' → Q .normal a' w') :
    C.P.follows .mixedOrders = true ∧ wpAny C.P .any ops Q ops.size (Array.replicate ops.size false) a { w with drawn := w.drawn + 1 } := by
  unfold vcDraw at h
  split at h
  · rename_i hm hpub
    obtain ⟨Hs, hs, h⟩ := h
    exact ⟨hm, wpAny_of_held _ _ _ _ (any_sound hW (fun e => by rw [hpub] at e; cases e) hQp hQ _ _ _ S a _ bs h hF hW.drew List.prefix_rfl (fun i cs hi => ⟨cs, hi, rfl, fun _ => rfl⟩) hs (fun _ => ⟨rfl, rfl⟩))⟩
  · rename_i hm hpub
    exact ⟨hm, wpAny_of_held _ _ _ _ (any_sound (Hs := fun _ => none) hW (fun _ H => ⟨fun b o e => by cases e⟩) hQp hQ _ _ _ S a _ bs h hF hW.drew List.prefix_rfl (fun i cs hi => ⟨cs, hi, rfl, fun _ => rfl⟩) ⟨fun b o e => by cases e⟩ (fun _ => ⟨rfl, rfl⟩))⟩
  · exact h.elim
end
end Go.Ax
