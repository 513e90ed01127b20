/- Ax, fifth part: 'valA' is sound. Conditions: those of each lemma. -/
import Derived.Test.YtanahoejlnmfiaaAxU
import Derived.Laws.IdiomStrings
namespace Go.Ax
open Go.RowKit

section
variable {C : Cx} {ds : List Nat} {p : Pro} {z : Nat → Value} {zb : ZB} {H0 : Heap} {w0 : World} {bs : List Nat} {S : AS} {a : Act} {G : Option Bool}

theorem evAll_get (hF : FC ds p z bs S a) {anc : List (Nat × Bool)} (ha : ∀ q ∈ anc, a.tmps.getD q.1 undef = .bool q.2) : ∀ (l : List Operand), (evAll S anc l).length = l.length ∧
    ∀ (j : Nat) x, (evAll S anc l)[j]? = some x → ∃ y, (l.map a.eval)[j]? = some y ∧ BRel bs x y
  | [] => by simp [evAll]
  | o :: l => by
    obtain ⟨h1, h2⟩ := evAll_get hF ha l
    refine ⟨by simp [evAll, h1], fun j x hx => ?_⟩
    cases j with
    | zero => simp [evAll] at hx; subst hx; exact ⟨_, rfl, evA_sound hF ha o⟩
    | succ j => simp [evAll] at hx ⊢; simpa using h2 j x hx

theorem opt_sound (hF : FC ds p z bs S a) {anc : List (Nat × Bool)} (ha : ∀ q ∈ anc, a.tmps.getD q.1 undef = .bool q.2) (x : Option Operand) :
    match optA S anc x, x.map a.eval with | none, none => True | some u, some v => BRel bs u v | _, _ => False := by
  cases x with
  | none => trivial
  | some x => exact evA_sound hF ha x

theorem bytes_run {P : Program} {H : Heap} {w : World} {src dst e : TypeId} {A : Option Addr} {n c : Nat} {s : ByteArray} (hw : Holds H w) (hs : P.underlying src = some (.slice e)) (he : P.underlying e = some (.int .u8))
    (hd : P.underlying dst = some .string) (h : bytesAt H A n s) : (convert src dst (.slice A n c)).run P w = .ok (.string s) w := by
  have hn := h.len
  have hsz : s.size = s.data.toList.length := (Array.length_toList (xs := s.data)).symm
  cases A with
  | none =>
    have h0 : byteVals s = [] := h.src.resolve_right (fun ⟨a, e, _⟩ => nomatch e)
    have h1 : s.data.toList = [] := by
      unfold byteVals at h0
      simpa using h0
    have h2 : s = ByteArray.empty := by
      cases s with
      | mk d => simp at h1; subst h1; rfl
    rw [run_convert_bytes_string w src dst e none n c hs he hd, h2]
    rfl
  | some a =>
    have key := run_convert_bytes_back (P := P) w src dst e a c s.data.toList hs he hd (fun j hj => by
      have hv : (byteVals s)[j]? = some (.int .u8 (s.data.toList[j].toNat : Int)) := by
        unfold byteVals; rw [List.getElem?_map, List.getElem?_eq_getElem hj]; rfl
      rcases h.src with h0 | ⟨a', e1, hat⟩
      · rw [h0] at hv; simp at hv
      · cases e1; exact hat.cell hw j _ hv)
    rw [← hsz, ← hn] at key
    exact key

theorem index_arr_run {P : Program} {t e : TypeId} {d : TypeDesc} {n : Nat} {cs : Array Value} {k : IntKind} {ix : Int} {vs : List Value} (hu : P.underlying t = some (.array n e)) (hd : P.underlying e = some d) (hi : (P.info? e).isSome = true)
    (h2 : aggT P e = true ∨ P.cellsOf e = 1) (h : arrAt cs.toList n ix (P.cellsOf e) vs) (hlen : vs.length = P.cellsOf e) (w : World) :
    (Instr.index t (.agg cs) (.int k ix)).run P w = .ok (mkVal (aggT P e) vs) w := by
  have h1 := h.pos; have h3 := h.lt; have h4 := h.at_
  have e1 := isAgg_run hd w
  cases hag : aggT P e with
  | true =>
    rw [hag] at e1
    simp [Instr.index, asIntOf, run_underlying hu, h1, h3, size_run hi w, part, e1, mkVal]
    apply Array.ext'
    rw [← h4]
    simp [List.take_drop]
  | false =>
    rw [hag] at e1
    have h5 : P.cellsOf e = 1 := h2.resolve_left (by rw [hag]; simp)
    rw [h5] at h4 hlen
    match vs, hlen with
    | [v], _ =>
      have h6 : cs[ix.toNat]? = some v := by
        have : ((cs.toList.drop (ix.toNat * 1)).take 1)[0]? = some v := by rw [h4]; rfl
        simpa [List.getElem?_take] using this
      simp [Instr.index, asIntOf, run_underlying hu, h1, h3, size_run hi w, part, e1, mkVal, h5, h6]

theorem valA_sound (hF : FC ds p z bs S a) {anc : List (Nat × Bool)} (ha : ∀ q ∈ anc, a.tmps.getD q.1 undef = .bool q.2) (hG : ∀ g, G = some g → g = true) {w : World} (hW : WC ds p zb H0 w0 bs S.bx S.H w)
    {o : Oper} {K : AV → Prop} (h : valA C G S anc o K) : Quiet C (WC ds p zb H0 w0 bs S.bx S.H) bs o a K := by
  have ev := evA_sound hF ha
  obtain ⟨dst, op, type, pos, after, guard⟩ := o
  unfold valA at h
  split at h
  · rename_i x heq
    simp only at heq; subst heq
    exact .of_run ⟨_, _, ev x, h, fun w _ => by simp [execOp]⟩
  · rename_i x heq
    simp only at heq; subst heq
    exact .of_run ⟨_, _, ev x, h, fun w _ => by simp [execOp]⟩
  · rename_i c x y heq
    simp only at heq; subst heq
    obtain ⟨av, v, h1, h2, g, h3, h4⟩ := pickA_sound hF ha h
    exact .of_run ⟨av, v, h1, h2, fun w _ => by subst h4; cases g <;> simp [execOp, h3, asBool]⟩
  · rename_i op t x y yt heq
    simp only at heq; subst heq
    exact .of_yl rfl (binA_sound hG (ev x) (ev y) h).c
  · rename_i t x heq
    simp only at heq; subst heq
    split at h
    · rename_i b hb
      have hv := asB_some hb (ev x)
      exact .of_val _ h fun w => by simp [execOp, hv, Op.unary]
    · exact h.elim
  · rename_i t x heq
    simp only at heq; subst heq
    split at h
    · rename_i k n hx
      have hv := ev x
      rw [hx] at hv
      have hv : a.eval x = .int k n := hv
      exact .of_val _ h fun w => by simp [execOp, hv, Op.unary, Op.intArith]
    · exact h.elim
  · rename_i src dst' x heq
    simp only at heq; subst heq
    have hv := ev x
    split at h
    · rename_i d k k' n h1 h2 hx
      rw [hx] at hv
      have hv : a.eval x = .int k' n := hv
      exact .of_val _ h fun w => by
        simp [execOp, hv, convert, run_underlying h1, run_underlying h2, Conv.intToInt]
    · rename_i s h1 h2 hx
      rw [hx] at hv
      have hv : a.eval x = .string s := hv
      exact .of_val _ h fun w => by simp [execOp, hv, convert, run_underlying h1, run_underlying h2]
    · rename_i e A n c h1 h2 hx
      rw [hx] at hv
      have hv : a.eval x = .slice A n c := hv
      split at h
      · rename_i hu
        obtain ⟨st, g1, g2⟩ := h
        have g1 := ob_of hG g1
        refine .of_run ⟨.v (.string st), .string st, rfl, g2, fun w' hw' => ?_⟩
        have hr := bytes_run (src := src) (dst := dst') (c := c) hw'.keeps.holds h1 hu h2 g1
        simp only [execOp, hv]
        rw [Sem.run_bind, hr]
        simp only [Result.andThen_ok, Sem.run_pure]
      · exact h.elim
    · exact h.elim
  · rename_i st x f heq
    simp only at heq; subst heq
    have hv := ev x
    split at h
    · rename_i fd hfd
      have hst : ∃ fs, C.P.underlying st = some (.struct fs) ∧ fs[f]? = some fd := by
        unfold fieldOf at hfd
        split at hfd
        · exact ⟨_, by assumption, hfd⟩
        · cases hfd
      obtain ⟨fs, hu, hf⟩ := hst
      split at h
      · exact h.elim
      · rename_i hsz
        have hsz : C.P.cellsOf fd.type ≠ 0 := fun e => by rw [e] at hsz; cases hsz
        have hinfo : (C.P.info? fd.type).isSome = true := by
          cases hi : C.P.info? fd.type with
          | none => exact absurd (by simp [Program.cellsOf, hi]) hsz
          | some i => rfl
        have hfp : ∀ (ad : Addr) (w : World), (fieldPlace ad fd).run C.P w = .ok (ad.add fd.offset) w := fun ad w => by simp [fieldPlace, size_run hinfo w, hsz]
        split at h
        · rename_i i off hx
          rw [hx] at hv
          obtain ⟨b, hb, hv⟩ := hv
          refine .of_run ⟨.loc i (off + fd.offset), .pointer (some ⟨b, off + fd.offset, none⟩), ⟨b, hb, rfl⟩, h, fun w _ => ?_⟩
          simp [execOp, Instr.fieldAt, run_underlying hu, hf, hv, Instr.sureAddr, hfp, addr_add]
        · rename_i ad hx
          rw [hx] at hv
          have hv : a.eval x = .pointer (some ad) := hv
          exact .of_val _ h fun w => by simp [execOp, Instr.fieldAt, run_underlying hu, hf, hv, Instr.sureAddr, hfp]
        · exact h.elim
    · exact h.elim
  · rename_i st x f heq
    simp only at heq; subst heq
    have hv := ev x
    split at h
    · rename_i fd cs hfd hx
      rw [hx] at hv
      have hv : a.eval x = .agg cs := hv
      have hst : ∃ fs, C.P.underlying st = some (.struct fs) ∧ fs[f]? = some fd := by
        unfold fieldOf at hfd
        split at hfd
        · exact ⟨_, by assumption, hfd⟩
        · cases hfd
      obtain ⟨fs, hu, hf⟩ := hst
      split at h
      · rename_i hag hinfo
        rw [Bool.and_eq_true] at hinfo
        obtain ⟨hinfo, hd⟩ := hinfo
        obtain ⟨d, hd⟩ := Option.isSome_iff_exists.1 hd
        refine .of_val _ h fun w => ?_
        have e1 := isAgg_run hd w
        rw [hag] at e1
        simp [execOp, Instr.field, run_underlying hu, hf, hv, asAgg, part, e1, size_run hinfo w]
        apply Array.ext'
        simp [List.take_drop]
      · rename_i hag hinfo
        split at h
        · rename_i y hy
          rw [nthO_eq] at hy
          have hy' : cs[fd.offset]? = some y := by simpa using hy
          rw [Bool.and_eq_true] at hinfo
          obtain ⟨d, hd⟩ := Option.isSome_iff_exists.1 hinfo.2
          refine .of_val _ h fun w => ?_
          have e1 := isAgg_run hd w
          rw [hag] at e1
          simp [execOp, Instr.field, run_underlying hu, hf, hv, asAgg, part, e1, hy']
        · exact h.elim
      · exact h.elim
    · exact h.elim
  · rename_i t x i heq
    simp only at heq; subst heq
    have hv := ev x
    have hvi := ev i
    split at h
    · rename_i e A n c k ix hu hx hi
      rw [hx] at hv
      rw [hi] at hvi
      have hv : a.eval x = .slice A n c := hv
      have hvi : a.eval i = .int k ix := hvi
      split at h
      · rename_i hinfo
        obtain ⟨ad, h1, h2⟩ := h
        obtain ⟨h1, h3, h4⟩ := ob_of hG h1
        exact .of_val _ h2 fun w => by simp [execOp, Instr.indexAt, hvi, hv, asIntOf, run_underlying hu, h1, h3, h4, size_run hinfo w]
      · exact h.elim
    · rename_i n e ad k ix hu hx hi
      rw [hx] at hv
      rw [hi] at hvi
      have hv : a.eval x = .pointer (some ad) := hv
      have hvi : a.eval i = .int k ix := hvi
      split at h
      · rename_i hinfo
        obtain ⟨h1, h2⟩ := h
        obtain ⟨h3, h4⟩ := ob_of hG h1
        exact .of_val _ h2 fun w => by simp [execOp, Instr.indexAt, hvi, hv, asIntOf, run_underlying hu, Instr.sureAddr, h3, h4, size_run hinfo w]
      · exact h.elim
    · exact h.elim
  · rename_i t x i heq
    simp only at heq; subst heq
    have hv := ev x
    have hvi := ev i
    split at h
    · rename_i s k ix hu hx hi
      rw [hx] at hv
      rw [hi] at hvi
      have hv : a.eval x = .string s := hv
      have hvi : a.eval i = .int k ix := hvi
      obtain ⟨b, h1, h2⟩ := h
      obtain ⟨h3, h4⟩ := ob_of hG h1
      refine .of_val _ h2 fun w => ?_
      have hlt : ix.toNat < s.size := by
        rcases Nat.lt_or_ge ix.toNat s.data.toList.length with hh | hh
        · simpa using hh
        · rw [List.getElem?_eq_none hh] at h4; cases h4
      have hr := run_index_string (P := C.P) w t s k ix hu
      rw [dif_pos ⟨h3, by omega⟩] at hr
      have hb : s[ix.toNat]'hlt = b := by
        have h5 : s.data.toList[ix.toNat]? = some (s.data.toList[ix.toNat]'(by simpa using hlt)) := List.getElem?_eq_getElem _
        rw [h5] at h4
        exact Option.some.inj h4
      rw [hb] at hr
      simp only [execOp, hv, hvi]
      rw [Sem.run_bind, hr]
      simp only [Result.andThen_ok, Sem.run_pure]
    · rename_i n e cs k ix hu hx hi
      rw [hx] at hv
      rw [hi] at hvi
      have hv : a.eval x = .agg cs := hv
      have hvi : a.eval i = .int k ix := hvi
      split at h
      · rename_i l hl hinfo h2
        rw [Bool.and_eq_true] at hinfo
        obtain ⟨d, hd⟩ := Option.isSome_iff_exists.1 hinfo.2
        have h2 : aggT C.P e = true ∨ C.P.cellsOf e = 1 := by
          rw [Bool.or_eq_true] at h2
          exact h2.imp id Nat.eq_of_beq_eq_true
        obtain ⟨r, h3, h4⟩ := (exV_iff _ _).1 h
        have h3 := ob_of hG h3
        refine .of_val _ h4 fun w => ?_
        have hr := index_arr_run (k := k) hu hd hinfo.1 h2 h3 (by rw [enc_length, shp_length hl]) w
        simp only [execOp, hv, hvi]
        rw [Sem.run_bind, hr]
        simp only [Result.andThen_ok, Sem.run_pure]
      · exact h.elim
    · exact h.elim
  · rename_i t x lo hi heq
    simp only at heq; subst heq
    split at h
    · rename_i hok
      refine .of_yl rfl (sliceA_sound hG (ev x) (vlo := lo.map a.eval) (vhi := hi.map a.eval) (opt_sound hF ha lo) (opt_sound hF ha hi) h (fun e he => ?_)).c
      simpa [sliceOk, he] using hok
    · exact h.elim
  · rename_i x i heq
    simp only at heq; subst heq
    have hv := ev x
    split at h
    · rename_i vs hx
      rw [hx] at hv
      have hv : a.eval x = .tuple vs := hv
      split at h
      · rename_i y hy
        rw [nthO_eq] at hy
        have hy' : vs[i]? = some y := by simpa using hy
        exact .of_val _ h fun w => by simp [execOp, Instr.extract, hv, hy']
      · exact h.elim
    · exact h.elim
  · rename_i t x heq
    simp only at heq; subst heq
    obtain ⟨ad, h1, h2⟩ := loadA_sound hG hW (ev x) h
    refine .of_yl (s := loadVar t ad) ?_ h2
    simp [execOp, h1, Instr.loadAt, Instr.sureAddr]
  · rename_i x heq
    simp only at heq; subst heq
    have hv := ev x
    split at h
    · rename_i i off hx
      rw [hx] at hv
      obtain ⟨b, hb, hv⟩ := hv
      exact .of_run ⟨.loc i off, .pointer (some ⟨b, off, none⟩), ⟨b, hb, rfl⟩, h, fun w _ => by simp [execOp, hv]⟩
    · rename_i q hx
      rw [hx] at hv
      have hv : a.eval x = .pointer q := hv
      obtain ⟨ad, h1, h2⟩ := h
      have h1 := ob_of hG h1
      subst h1
      exact .of_val _ h2 fun w => by simp [execOp, hv]
    · rename_i g first cap hx
      rw [hx] at hv
      have hv : a.eval x = .func (.func g) first cap := hv
      exact .of_val _ h fun w => by simp [execOp, hv]
    · exact h.elim
  · rename_i t ps heq
    simp only at heq; subst heq
    split at h
    · rename_i l hl
      have hp := parts_sound hF ha ps.toList l hl
      split at h
      · rename_i cs hcs
        refine .of_val _ h fun w => ?_
        have hr := run_build (P := C.P) w t (ps.map fun (i, x) => (i, a.eval x)) cs (by
          have : (ps.map fun (i, x) => (i, a.eval x)).toList = l := by rw [← hp]; simp
          rw [this]; exact hcs)
        simp only [execOp]
        rw [Sem.run_bind, hr]
        rfl
      · exact h.elim
    · exact h.elim
  · rename_i fn first cap heq
    simp only at heq; subst heq
    split at h
    · rename_i l1 l2 h1 h2
      have e1 := evAll_sound hF ha first.toList l1 h1
      have e2 := evAll_sound hF ha cap.toList l2 h2
      have e1' : first.map a.eval = ⟨l1⟩ := by apply Array.ext'; simpa using e1
      have e2' : cap.map a.eval = ⟨l2⟩ := by apply Array.ext'; simpa using e2
      exact .of_val _ h fun w => by simp [execOp, Instr.makeFunc, e1', e2']
    · exact h.elim
  · rename_i b args ats heq
    simp only at heq; subst heq
    obtain ⟨hlen, hget⟩ := evAll_get hF ha args.toList
    refine .of_run ?_
    obtain ⟨x, v, h1, h2, h3⟩ := bltA_sound (bs := bs) (ats := ats) (ty := type) (cs := args.map fun | .const _ => true | _ => false) (vs := args.map a.eval) (xs := evAll S anc args.toList) (fun j x hx => by
      obtain ⟨y, hy, hb⟩ := hget j x hx
      exact ⟨y, by simpa using hy, hb⟩) (by simp [hlen]) h
    exact ⟨x, v, h1, h2, fun w _ => by rw [BigFrame.execOp_builtin]; exact h3 w⟩
  · rename_i fo args ats heq
    simp only at heq; subst heq
    split at h
    · rename_i l hl
      split at h
      · rename_i g l' ht
        exact callQ_sound hG h fun hcall w => by
          have := target_run (P := C.P) (ρ := a.eval) (c := { callee := .value fo, args := args, argTypes := ats }) rfl (ev fo) (evAll_sound hF ha args.toList l hl) ht hcall type w
          simpa [execOp] using this
      · exact h.elim
    · exact h.elim
  · exact h.elim
end
end Go.Ax
