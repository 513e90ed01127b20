/- Ax, eleventh part: the walk of code and of functions is sound: 'tr_of_vc': if the formula of a function holds, its contract holds. Conditions: none beyond the lemmas'. -/
import Derived.Test.YtanahoejlnmfiaaAxP
import Derived.Test.YtanahoejlnmfiaaAxG
namespace Go.Ax
open Go.RowKit

section
variable {C : Cx} {H0 : Heap} {w0 : World}

theorem known_bx {S : AS} {c : Operand} {b : Bool} : (known C S c b).bx = S.bx := by unfold known; split <;> rfl
theorem known_H {S : AS} {c : Operand} {b : Bool} : (known C S c b).H = S.H := by unfold known; split <;> rfl
theorem FC.known {ds : List Nat} {p : Pro} {z : Nat → Value} {bs : List Nat} {S : AS} {a : Act} {c : Operand} {b : Bool} (hF : FC ds p z bs S a) (h : a.eval c = .bool b) : FC ds p z bs (known C S c b) a := by
  unfold Ax.known
  split
  · rename_i t _
    have h : a.tmps.getD t undef = .bool b := h
    refine ⟨hF.size, hF.defers, fun u => ?_, fun u e s w x hu => ?_, hF.zs, hF.okn⟩
    · show SRel bs a.tmps S.ep (look ((t, AV.bl b) :: S.fr) u) _
      simp only [look]
      cases hk : Nat.beq t u with
      | true => have := Nat.eq_of_beq_eq_true hk; subst this; exact h
      | false => exact hF.slots u
    · have hu : look ((t, AV.bl b) :: S.fr) u = _ := hu
      simp only [look] at hu
      cases hk : Nat.beq t u with
      | true => rw [hk] at hu; cases hu
      | false => rw [hk] at hu; exact hF.eps u e s w x hu
  · exact hF

/-! ### around a round -/
/-- the fragment that a round begins with: its boxes are marked, so that nothing is promised of them -/
def markH (bs : List Nat) (H : Heap) : Heap := fun b => if b ∈ bs then some (.deferred none) else H b
theorem mark_none {bs : List Nat} {H : Heap} {b : Nat} (h : markH bs H b = none) : b ∉ bs ∧ H b = none := by
  unfold markH at h
  split at h
  · cases h
  · rename_i hb; exact ⟨hb, h⟩
theorem mark_of {bs : List Nat} {H : Heap} {b : Nat} (h1 : b ∉ bs) (h2 : H b = none) : markH bs H b = none := by
  unfold markH; rw [if_neg h1]; exact h2
section
variable {ds : List Nat} {p : Pro} {z : Nat → Value} {zb : ZB} {bs : List Nat} {S : AS} {a : Act} {bx : List (List AV)} {H : Heap} {w : World}
theorem WC.box {b : Nat} (h : WC ds p zb H0 w0 bs bx H w) (hb : b ∈ bs) : (w0.heap.size ≤ b ∨ b ∈ zb.bb) ∧ H b = none ∧ ∃ o, w.heap[b]? = some o ∧ o.isCells = true := by
  obtain ⟨i, hi, rfl⟩ := List.mem_iff_getElem.1 hb
  have hx : i < bx.length := by rw [← h.blen]; exact hi
  obtain ⟨h1, h2, c, T, h3, _⟩ := h.boxes i bs[i] _ (List.getElem?_eq_getElem hi) (List.getElem?_eq_getElem hx)
  exact ⟨h1, h2, _, h3, rfl⟩
theorem WC.congr {p' : Pro} (h : WC ds p zb H0 w0 bs bx H w) (e : p'.okb = p.okb) : WC ds p' zb H0 w0 bs bx H w :=
  ⟨h.blen, h.nodup, by rw [e]; exact h.boxes, by rw [e]; exact h.okf, h.lnf, h.keeps, h.dq, h.dn, h.bk⟩
theorem WC.less {H' : Heap} (h : WC ds p zb H0 w0 bs bx H w) (hs : Sub H' H) : WC ds p zb H0 w0 bs bx H' w := by
  have none' : ∀ b, H b = none → H' b = none := fun b e => by
    cases hh : H' b with
    | none => rfl
    | some o => rw [hs.sub b o hh] at e; cases e
  exact ⟨h.blen, h.nodup, fun i b cs hb hc => by obtain ⟨h1, h2, h3⟩ := h.boxes i b cs hb hc; exact ⟨h1, none' b h2, h3⟩, h.okf, h.lnf,
    ⟨h.keeps.holds.sub hs, fun b hb e => ⟨(h.keeps.old b hb e).1, none' b (h.keeps.old b hb e).2⟩, h.keeps.size, h.keeps.tape, h.keeps.os, h.keeps.output⟩,
    fun D hD => by obtain ⟨h1, h2, h3⟩ := h.dq D hD; exact ⟨h1, none' D h2, h3⟩, h.dn, h.bk⟩
theorem WC.rebase {w2 : World} (h : WC ds p zb H0 w0 bs bx H w) (hsame : ∀ b, (b ∈ bs ∨ (H b).isSome = true) → w2.heap[b]? = w.heap[b]?) : WC [] p { zb with bb := bs } (markH bs H) w2 bs bx H w2 := by
  refine ⟨h.blen, h.nodup, fun i b cs hb hc => ?_, h.okf, h.lnf, ⟨fun b o e => ?_, fun b _ e => ⟨rfl, (mark_none e).2⟩, Nat.le_refl _, rfl, rfl, rfl⟩, fun D hD => (by cases hD), List.nodup_nil, fun b hb => ?_⟩
  · obtain ⟨h1, h2, c, T, h3, h4⟩ := h.boxes i b cs hb hc
    exact ⟨.inr (List.mem_of_getElem? hb), h2, c, T, (hsame b (.inl (List.mem_of_getElem? hb))).trans h3, h4⟩
  · exact (hsame b (.inr (by rw [e]; rfl))).trans (h.keeps.holds b o e)
  · unfold markH; rw [if_pos hb]; rfl
theorem WC.grown {w2 : World} {row : Option Nat} {B : Nat} (h : WC ds p zb H0 w0 bs bx H w) (hg : w.grownBy w2 row) (hr : ∀ r, row = some r → B ≤ r ∧ ∃ o : Obj, w.heap[r]? = some o ∧ o.isCells = false)
    (hB : w0.heap.size ≤ B) (hH : ∀ b o, H b = some o → o.isCells = false → b < B) (hds : ∀ D ∈ ds, D < B) : WC ds p zb H0 w0 bs bx H w2 := by
  have same : ∀ b o, w.heap[b]? = some o → (∀ r, row = some r → b ≠ r) → w2.heap[b]? = some o := fun b o e hne =>
    (hg.block b (Array.getElem?_eq_some_iff.1 e).1 (fun e' => hne b e'.symm rfl)).trans e
  refine ⟨h.blen, h.nodup, fun i b cs hb hc => ?_, h.okf, h.lnf, ⟨fun b o e => ?_, fun b hb e => ?_, Nat.le_trans h.keeps.size hg.size, hg.tape.trans h.keeps.tape, hg.os.trans h.keeps.os, hg.output.trans h.keeps.output⟩, fun D hD => ?_, h.dn, h.bk⟩
  · obtain ⟨h1, h2, c, T, h3, h4⟩ := h.boxes i b cs hb hc
    refine ⟨h1, h2, c, T, same b _ h3 fun r e e' => ?_, h4⟩
    subst e'
    obtain ⟨_, o, ho, hn⟩ := hr b e
    rw [h3] at ho; cases ho; cases hn
  · have ho := h.keeps.holds b o e
    refine same b o ho fun r e' e2 => ?_
    subst e2
    obtain ⟨hb, o', ho', hn⟩ := hr b e'
    rw [ho] at ho'; cases ho'
    have := hH b o e hn
    omega
  · obtain ⟨a1, a2⟩ := h.keeps.old b hb e
    refine ⟨(hg.block b (Nat.lt_of_lt_of_le hb h.keeps.size) fun e' => ?_).trans a1, a2⟩
    have := (hr b e'.symm).1
    omega
  · obtain ⟨d1, d2, d3⟩ := h.dq D hD
    refine ⟨d1, d2, same D _ d3 fun r e e2 => ?_⟩
    subst e2
    have := (hr D e).1; have := hds D hD
    omega
/-- Two stretches make one. -/
theorem WC.absorb {bs1 : List Nat} {bx1 : List (List AV)} {H1 : Heap} {w1 : World} (hO : WC ds p zb H0 w0 bs bx H w) (hA : WC [] p { zb with bb := bs } (markH bs H) w bs1 bx1 H1 w1) : WC ds p zb H0 w0 bs1 bx1 H1 w1 := by
  have notin : ∀ b, b < w0.heap.size → H0 b = none → b ∉ bs := fun b hb e hm => by
    rcases (hO.box hm).1 with h | h
    · omega
    · have := hO.bk b h; rw [e] at this; cases this
  refine ⟨hA.blen, hA.nodup, fun i b cs hb hc => ?_, hA.okf, hA.lnf, ⟨hA.keeps.holds, fun b hb e => ?_, Nat.le_trans hO.keeps.size hA.keeps.size, hA.keeps.tape.trans hO.keeps.tape, hA.keeps.os.trans hO.keeps.os, hA.keeps.output.trans hO.keeps.output⟩, fun D hD => ?_, hO.dn, hO.bk⟩
  · obtain ⟨h1, h2⟩ := hA.boxes i b cs hb hc
    refine ⟨?_, h2⟩
    rcases h1 with h1 | h1
    · exact .inl (Nat.le_trans hO.keeps.size h1)
    · exact (hO.box h1).1
  · obtain ⟨a1, a2⟩ := hO.keeps.old b hb e
    obtain ⟨b1, b2⟩ := hA.keeps.old b (Nat.lt_of_lt_of_le hb hO.keeps.size) (mark_of (notin b hb e) a2)
    exact ⟨b1.trans a1, b2⟩
  · obtain ⟨d1, d2, d3⟩ := hO.dq D hD
    have hn : D ∉ bs := fun hm => by
      obtain ⟨_, _, o, ho, hc⟩ := hO.box hm
      rw [d3] at ho; cases ho; cases hc
    obtain ⟨b1, b2⟩ := hA.keeps.old D (Array.getElem?_eq_some_iff.1 d3).1 (mark_of hn d2)
    exact ⟨d1, b2, b1.trans d3⟩
theorem WC.addD {D : Nat} (h : WC ds p zb H0 w0 bs bx H w) (h1 : w0.heap.size ≤ D) (h2 : H D = none) (h3 : w.heap[D]? = some (.deferred (some []))) (h4 : D ∉ ds) : WC (D :: ds) p zb H0 w0 bs bx H w :=
  ⟨h.blen, h.nodup, h.boxes, h.okf, h.lnf, h.keeps, fun E hE => by
    rcases List.mem_cons.1 hE with rfl | hE
    · exact ⟨h1, h2, h3⟩
    · exact h.dq E hE, List.nodup_cons.2 ⟨h4, h.dn⟩, h.bk⟩
theorem WC.takeD {D : Nat} (h : WC (D :: ds) p zb H0 w0 bs bx H w) : WC ds p zb H0 w0 bs bx H (w.putObj D (.deferred none)) := by
  obtain ⟨d1, d2, d3⟩ := h.dq D (List.mem_cons_self ..)
  have other : ∀ b, b ≠ D → (w.putObj D (.deferred none)).heap[b]? = w.heap[b]? := fun b hb => World.putObj_heap_other hb
  refine ⟨h.blen, h.nodup, fun i b cs hb hc => ?_, h.okf, h.lnf, ⟨fun b o e => ?_, fun b hb e => ?_, by simpa using h.keeps.size, h.keeps.tape, h.keeps.os, h.keeps.output⟩, fun E hE => ?_, (List.nodup_cons.1 h.dn).2, h.bk⟩
  · obtain ⟨h1, h2, c, T, h3, h4⟩ := h.boxes i b cs hb hc
    exact ⟨h1, h2, c, T, (other b fun e => by subst e; rw [d3] at h3; cases h3).trans h3, h4⟩
  · exact (other b fun e' => by subst e'; rw [d2] at e; cases e).trans (h.keeps.holds b o e)
  · obtain ⟨a1, a2⟩ := h.keeps.old b hb e
    exact ⟨(other b (by omega)).trans a1, a2⟩
  · obtain ⟨e1, e2, e3⟩ := h.dq E (List.mem_cons_of_mem _ hE)
    exact ⟨e1, e2, (other E fun e => by subst e; exact (List.nodup_cons.1 h.dn).1 hE).trans e3⟩

theorem cutN_sub {H0' H' : Heap} : Sub (cutN H0' H') H' := ⟨fun b o e => by
  unfold cutN at e
  split at e
  · rename_i o' ho
    split at e
    · cases e; exact ho
    · cases e
  · cases e⟩
theorem cutN_ncs {H0' H' : Heap} : NCs H0' (cutN H0' H') := ⟨fun b o e hn => by
  unfold cutN at e
  split at e
  · split at e
    · rename_i hb; cases e
      rw [hn] at hb; simpa using hb
    · cases e
  · cases e⟩
theorem cutN_keep {H0' H' HI : Heap} (h1 : Sub HI H0') (h2 : Sub HI H') : Sub HI (cutN H0' H') := ⟨fun b o e => by
  unfold cutN
  rw [h2.sub b o e]
  simp [h1.sub b o e]⟩

/-! ### the state at a round's head -/
theorem put_fold {n : Nat} : ∀ (ps : List Nat) (vals : List Value) (fr : List (Nat × AV)) (tm : Array Value), ltAll n ps = true → tm.size = n → (∀ t, BRel bs (look fr t) (tm.getD t undef)) →
    ((ps.zip vals).foldl (fun t q => t.setIfInBounds q.1 q.2) tm).size = n ∧ ∀ t, BRel bs (look (putPs ps vals fr) t) (((ps.zip vals).foldl (fun t q => t.setIfInBounds q.1 q.2) tm).getD t undef)
  | [], vals, fr, tm, _, hs, h => ⟨hs, h⟩
  | d :: ps, [], fr, tm, _, hs, h => ⟨hs, h⟩
  | d :: ps, v :: vals, fr, tm, hl, hs, h => by
    simp only [ltAll, Bool.and_eq_true] at hl
    have hd : d < n := Nat.le_of_ble_eq_true hl.1
    simp only [List.zip_cons_cons, List.foldl_cons, putPs]
    refine put_fold ps vals _ _ hl.2 (by simpa using hs) fun t => ?_
    rw [getD_put (by rw [hs]; exact hd)]
    simp only [look]
    cases hk : Nat.beq d t with
    | true => rw [if_pos (Nat.eq_of_beq_eq_true hk)]; rfl
    | false => rw [if_neg (fun e => by subst e; simp at hk)]; exact h t
theorem putPs_ifs : ∀ (ps : List Nat) (vals : List Value) (fr : List (Nat × AV)) (t : Nat) {e s : Nat} {wb : Bool} {x : AV}, look (putPs ps vals fr) t = .ifs e s wb x → look fr t = .ifs e s wb x
  | [], vals, fr, t, e, s, wb, x, h => by simpa [putPs] using h
  | d :: ps, [], fr, t, e, s, wb, x, h => by simpa [putPs] using h
  | d :: ps, v :: vals, fr, t, e, s, wb, x, h => by
    simp only [putPs] at h
    have := putPs_ifs ps vals _ t h
    simp only [look] at this
    split at this
    · cases this
    · exact this
theorem SRel.of_brel {tm : Array Value} {ep : Nat} {x : AV} {y : Value} (h : BRel bs x y) (hi : ∀ e s w' x', x = .ifs e s w' x' → e ≠ ep) : SRel bs tm ep x y := by
  cases x with
  | ifs e s w' x' => exact fun he => absurd he (hi e s w' x' rfl)
  | _ => exact h
theorem FC.rhead (hF : FC ds p z bs S a) (L : LS) {ps : Array Nat} (hlt : ltAll p.n ps.toList = true) (vals vs : List Value) (H : Heap) (k : Nat) :
    FC [] (L.rpro p k) (fun t => ((ps.zip ⟨vals⟩).foldl (fun t (q, v) => t.setIfInBounds q v) a.tmps).getD t undef) bs (L.rhead S ps.toList vals vs H) { tmps := (ps.zip ⟨vals⟩).foldl (fun t (q, v) => t.setIfInBounds q v) a.tmps, defers := [] } := by
  have e : (ps.zip ⟨vals⟩).foldl (fun t (q, v) => t.setIfInBounds q v) a.tmps = (ps.toList.zip vals).foldl (fun t q => t.setIfInBounds q.1 q.2) a.tmps := by
    rw [← Array.foldl_toList, Array.toList_zip]
  obtain ⟨h1, h2⟩ := put_fold (bs := bs) ps.toList vals S.fr a.tmps hlt hF.size fun t => (hF.slots t).brel
  refine ⟨?_, rfl, fun t => ?_, fun t e' s w x hx => ?_, fun _ _ => rfl, fun t ht => Nat.le_of_ble_eq_true ht⟩
  · show ((ps.zip ⟨vals⟩).foldl (fun t (q, v) => t.setIfInBounds q v) a.tmps).size = p.n
    rw [e]; exact h1
  · show SRel bs _ (S.ep + 1) (look (putPs ps.toList vals S.fr) t) _
    refine SRel.of_brel ?_ fun e' s w x hx => ?_
    · rw [e]; exact h2 t
    · have := (hF.eps t e' s w x (putPs_ifs _ _ _ _ hx)).1
      omega
  · have := (hF.eps t e' s w x (putPs_ifs _ _ _ _ hx)).1
    show e' ≤ S.ep + 1 ∧ (e' = S.ep + 1 → _)
    exact ⟨by omega, fun e2 => by omega⟩
/-- Behind the loop the temporaries are as they were. -/
theorem FC.behind (hF : FC ds p z bs S a) (L : LS) (h1 : L.vars = []) (h2 : L.dead = []) (vs : List Value) (H : Heap) (D : Nat) :
    FC (D :: ds) p z bs (L.head S vs H) { a with defers := { target := .collected D, args := #[] } :: a.defers } := by
  have hl : ∀ t, look (L.head S vs H).fr t = look S.fr t := fun t => by
    show look (zipF L.vars vs ++ (L.dead.map fun d => (d, AV.any)) ++ S.fr) t = _
    rw [h1, h2]; simp [zipF]
  refine ⟨hF.size, by rw [hF.defers]; rfl, fun t => ?_, fun t e s w x hx => ?_, hF.zs, hF.okn⟩
  · rw [hl]
    refine SRel.of_brel (hF.slots t).brel fun e s w x hx => ?_
    have := (hF.eps t e s w x hx).1
    show e ≠ S.ep + 1
    omega
  · rw [hl] at hx
    have := (hF.eps t e s w x hx).1
    exact ⟨by show e ≤ S.ep + 1; omega, fun e2 => by have e2 : e = S.ep + 1 := e2; omega⟩
theorem psVals_len : ∀ (l : List (List Sh × Bool)) (vs : List Value), (psVals l vs).length = l.length
  | [], _ => rfl
  | q :: l, vs => by simp [psVals, psVals_len l]
end

theorem not_out {ds : List Nat} {p : Pro} {z : Nat → Value} {zb : ZB} {bs : List Nat} {Q : AE → AS → Prop} : ¬ LetsOut (Post ds p z zb H0 w0 bs Q) := fun ⟨_, _, _, _, e, _, _, _, _, _, he, _⟩ => by simp [toA] at he

theorem post_then {ds : List Nat} {p : Pro} {z : Nat → Value} {zb : ZB} {bs : List Nat} {K : AS → Prop} {Q : AE → AS → Prop} {k : Act → World → Prop}
    (hk : ∀ ds' bs' S' a' w', (p.top = false → ds' = ds) → bs <+: bs' → FC ds' p z bs' S' a' → WC ds' p zb H0 w0 bs' S'.bx S'.H w' → K S' → k a' w') : ∀ e a w, Post ds p z zb H0 w0 bs (thenA K Q) e a w → Exit.then k (Post ds p z zb H0 w0 bs Q) e a w := by
  rintro e a w ⟨bs', S', e', ds', hd, hp, hF, hW, he, hq⟩
  cases e with
  | normal => simp only [toA, Option.some.injEq] at he; subst he; exact hk ds' bs' S' a w hd hp hF hW hq
  | exit id => simp only [toA, Option.some.injEq] at he; subst he; exact ⟨bs', S', _, ds', hd, hp, hF, hW, rfl, hq⟩
  | ret => simp only [toA, Option.some.injEq] at he; subst he; exact ⟨bs', S', _, ds', hd, hp, hF, hW, rfl, hq⟩
  | goto l => simp [toA] at he
  | panic c => simp [toA] at he
  | outgrown => simp [toA] at he

def codeOf : AE → Option Code
  | .normal => none
  | .exit id => some (.exit id)
  | .ret => some .ret

theorem vc_sound : ∀ (c : Code) (p : Pro) (Q : AE → AS → Prop) (S : AS), vc C c p Q S → ∀ (r : Option Nat) (n : Nat) (H0 : Heap) (w0 : World) (ds : List Nat) (z : Nat → Value) (zb : ZB) (bs : List Nat) (a : Act) (w : World), (p.top = true → r = none) →
    FC ds p z bs S a → WC ds p zb H0 w0 bs S.bx S.H w → c.wpIn (Fz r) n C.P (Post ds p z zb H0 w0 bs Q) a w
  | .skip, p, Q, S, h, r, n, H0, w0, ds, z, zb, bs, a, w, hr, hF, hW => wpIn_skip ⟨bs, S, _, ds, fun _ => rfl, List.prefix_rfl, hF, hW, rfl, h⟩
  | .label l, p, Q, S, h, r, n, H0, w0, ds, z, zb, bs, a, w, hr, hF, hW => wpIn_label ⟨bs, S, _, ds, fun _ => rfl, List.prefix_rfl, hF, hW, rfl, h⟩
  | .exit id, p, Q, S, h, r, n, H0, w0, ds, z, zb, bs, a, w, hr, hF, hW => wpIn_exit ⟨bs, S, _, ds, fun _ => rfl, List.prefix_rfl, hF, hW, rfl, h⟩
  | .ret, p, Q, S, h, r, n, H0, w0, ds, z, zb, bs, a, w, hr, hF, hW => wpIn_ret ⟨bs, S, _, ds, fun _ => rfl, List.prefix_rfl, hF, hW, rfl, h⟩
  | .goto l, p, Q, S, h, _, _, _, _, _, _, _, _, _, _, _, _, _ => by simp [vc] at h
  | .refuse s, p, Q, S, h, _, _, _, _, _, _, _, _, _, _, _, _, _ => by simp [vc] at h
  | .region id ops d, p, Q, S, h, r, n, H0, w0, ds, z, zb, bs, a, w, hr, hF, hW => by
    simp only [vc] at h
    split at h
    · exact h.elim
    · rename_i hnd
      exact wpIn_region_list (listIn not_out ops.toList a w hnd (vcOps_sound ops.toList h hF.enter hW fun bs' S' a' w' hp f1 f2 f3 => ⟨bs', S', _, ds, fun _ => rfl, hp, f1, f2, rfl, f3⟩))
    · rename_i hnd
      split at h
      · rename_i hb
        rw [Bool.and_eq_true] at hb
        have hd := hb.2
        simp only [drawOk, Region.lexB, Bool.and_eq_true] at hd
        refine wpIn_region_any hd.1 (anyIn not_out hnd _ _ _ _ (wpAny_of_quiet (C := WC ds p zb H0 w0 bs S.bx S.H) (Q := fun a' => ∀ w', WC ds p zb H0 w0 bs S.bx S.H w' → Post ds p z zb H0 w0 bs Q .normal a' w') (fun _ w' hw' h => h w' hw') _ _ _ _ hW.drew ?_))
        have := wpAnyQ_lex (C := WC ds p zb H0 w0 bs S.bx S.H) (md := .any) (P := C.P) (Q := fun a' => ∀ w', WC ds p zb H0 w0 bs S.bx S.H w' → Post ds p z zb H0 w0 bs Q .normal a' w') hd.2.1 ops.toList 0 (Array.replicate ops.size false) a (by simp) (by simpa using hd.2.2)
          (vcQ_sound (S := S.enter) hW ops.toList hb.1 h hF.enter rfl rfl (by
            intro S' a' f1 f2 f3 f4 w' hw'
            exact ⟨bs, S', _, ds, fun _ => rfl, List.prefix_rfl, f1, by rw [f2, f3]; exact hw', rfl, f4⟩))
        simpa using this
      · obtain ⟨hm, hw⟩ := draw_any (S := S.enter) (Q := Post ds p z zb H0 w0 bs Q) h hF.enter hW (fun c a w ⟨_, _, e, _, _, _, _, _, he, _⟩ => by simp [toA] at he) (fun bs' S' a' w' hp f1 f2 f3 => ⟨bs', S', _, ds, fun _ => rfl, hp, f1, f2, rfl, f3⟩)
        exact wpIn_region_any hm (anyIn not_out hnd _ _ _ _ hw)
  | .seq x y, p, Q, S, h, r, n, H0, w0, ds, z, zb, bs, a, w, hr, hF, hW => by
    simp only [vc] at h
    exact wpIn_seq (wpIn_mono (vc_sound x p _ S h r n H0 w0 ds z zb bs a w hr hF hW) (post_then fun ds' bs' S' a' w' hd hp f1 f2 f3 => wpIn_mono (vc_sound y p Q S' f3 r n H0 w0 ds' z zb bs' a' w' hr f1 f2) fun _ _ _ q => q.up hd hp))
  | .cond c x y, p, Q, S, h, r, n, H0, w0, ds, z, zb, bs, a, w, hr, hF, hW => by
    have ev := evA_sound (anc := []) hF (by simp) c
    simp only [vc] at h
    split at h
    · rename_i he
      rw [he] at ev
      exact wpIn_cond_true ev (vc_sound x p Q S h r n H0 w0 ds z zb bs a w hr hF hW)
    · rename_i he
      rw [he] at ev
      exact wpIn_cond_false ev (vc_sound y p Q S h r n H0 w0 ds z zb bs a w hr hF hW)
    · rename_i g he
      rw [he] at ev
      exact wpIn_cond_split ev (fun hg => vc_sound x p Q _ (h.1 hg) r n H0 w0 ds z zb bs a w hr (hF.known (ev.trans (by rw [hg]))) (by rw [known_bx, known_H]; exact hW)) (fun hg => vc_sound y p Q _ (h.2 hg) r n H0 w0 ds z zb bs a w hr (hF.known (ev.trans (by rw [hg]))) (by rw [known_bx, known_H]; exact hW))
    · exact h.elim
  | .block id b, p, Q, S, h, r, n, H0, w0, ds, z, zb, bs, a, w, hr, hF, hW => by
    simp only [vc] at h
    refine wpIn_block (wpIn_mono (vc_sound b p _ S h r n H0 w0 ds z zb bs a w hr hF hW) ?_)
    rintro e a' w' ⟨bs', S', e', ds', hd, hp, f1, f2, he, hq⟩
    cases e with
    | normal => simp only [toA, Option.some.injEq] at he; subst he; exact ⟨bs', S', _, ds', hd, hp, f1, f2, rfl, hq⟩
    | ret => simp only [toA, Option.some.injEq] at he; subst he; exact ⟨bs', S', _, ds', hd, hp, f1, f2, rfl, hq⟩
    | exit i =>
      simp only [toA, Option.some.injEq] at he
      subst he
      simp only [blockA] at hq
      cases hb : Nat.beq i id with
      | true =>
        rw [hb] at hq
        have := Nat.eq_of_beq_eq_true hb
        show if i = id then _ else _
        rw [if_pos this]
        exact ⟨bs', S', _, ds', hd, hp, f1, f2, rfl, hq⟩
      | false =>
        rw [hb] at hq
        show if i = id then _ else _
        rw [if_neg (fun e => by subst e; simp at hb)]
        exact ⟨bs', S', _, ds', hd, hp, f1, f2, rfl, hq⟩
    | goto l => simp [toA] at he
    | panic c => simp [toA] at he
    | outgrown => simp [toA] at he
  | .scope b, p, Q, S, h, r, n, H0, w0, ds, z, zb, bs, a, w, hr, hF, hW => by
    simp only [vc] at h
    refine scopeIn (wpIn_mono (vc_sound b p _ S h r n H0 w0 ds z zb bs a w hr hF hW) ?_)
    rintro e a' w' ⟨bs', S', e', ds', hd, hp, f1, f2, he, hq⟩
    cases e with
    | goto l => simp [toA] at he
    | _ => exact ⟨bs', S', e', ds', hd, hp, f1, f2, he, hq⟩
  | .loop b, p, Q, S, h, r, n, H0, w0, ds, z, zb, bs, a, w, hr, hF, hW => by
    simp only [vc] at h
    split at h
    · rename_i k hk
      split at h
      · rename_i L hL
        split at h
        · rename_i v0 hok hv0
          rw [Bool.and_eq_true] at hok
          obtain ⟨hok1, hok2⟩ := hok
          obtain ⟨Rel, mu, hrel0, hround⟩ := h
          rw [allV_iff] at hround
          let I : Nat → Act → World → Prop := fun n a' w' => ∃ v H, unc _ L.shapes Rel v H ∧ unc _ L.shapes mu v H = n ∧
            FC ds (L.pro p S.bx.length) (fun t => a.tmps.getD t undef) bs (L.head S (enc L.shapes v) H) a' ∧ WC ds (L.pro p S.bx.length) (zbAt w bs S.bx zb.bb) H0 w0 bs (L.head S (enc L.shapes v) H).bx H w'
          have hin := hW.inner L
          have first : I (unc _ L.shapes mu v0 S.H) a w := by
            have hsl : ∀ t, BRel bs (look S.fr t) (a.tmps.getD t undef) := fun t => (hF.slots t).brel
            refine ⟨v0, S.H, hrel0, rfl, ?_, ?_⟩
            · exact FC.head L hF hok1 (S2 := S) (bs2 := bs) hF.size hF.defers hsl hv0 (cells := fun j => match L.cells[j]? with | some q => (Ax.cellV w bs q.1 q.2.1).getD undef | none => undef)
                (fun j q hq => by rw [hq]; exact hW.cellV _ _) (fun t _ => rfl) _
            · exact WC.head (S := S) (S2 := S) L hW List.prefix_rfl hin hv0 hsl
          refine wpIn_loop_ghost I _ first ?_
          rintro n a' w' ⟨v, H, hrel, rfl, hF', hW'⟩
          have hb := vc_sound b (L.pro p S.bx.length) _ _ (hround v H hrel) r n H0 w0 ds (fun t => a.tmps.getD t undef) (zbAt w bs S.bx zb.bb) bs a' w' (fun e => by cases e) hF' hW'
          refine wpIn_mono hb ?_
          rintro e a2 w2 ⟨bs2, S2, e', ds2, hd, hp, f1, f2, he, hq⟩
          have hd := hd rfl
          subst hd
          have out : ∀ e'', Q e'' S2 → toA e = some e'' → Post ds2 p z zb H0 w0 bs Q e a2 w2 := by
            intro e'' hq'' he''
            refine ⟨bs2, S2, e'', ds2, fun _ => rfl, hp, ⟨f1.size, f1.defers, f1.slots, f1.eps, fun t ht => ?_, hF.okn⟩, WC.outer L hW hok2 hp f2, he'', hq''⟩
            have : hasN L.slots t = false := by
              cases hh : hasN L.slots t with
              | false => rfl
              | true => rw [allOk_mem _ hok1 t ((hasN_iff _ _).1 hh)] at ht; cases ht
            exact (f1.zs t this).trans (hF.zs t ht)
          cases e with
          | normal =>
            simp only [toA, Option.some.injEq] at he
            subst he
            simp only [thenA] at hq
            split at hq
            · rename_i v' hv'
              obtain ⟨hr', hlt⟩ := hq
              have hsl : ∀ t, BRel bs2 (look S2.fr t) (a2.tmps.getD t undef) := fun t => (f1.slots t).brel
              refine ⟨unc _ L.shapes mu v' S2.H, hlt, v', S2.H, hr', rfl, ?_, ?_⟩
              · exact FC.head L hF hok1 (S2 := S2) (bs2 := bs2) f1.size f1.defers hsl hv' (cells := fun j => match L.cells[j]? with | some q => (Ax.cellV w2 bs2 q.1 q.2.1).getD undef | none => undef)
                  (fun j q hq => by rw [hq]; exact f2.cellV _ _) (fun t ht => f1.zs t ht) _
              · exact WC.head (S := S) (S2 := S2) L hW hp f2 hv' hsl
            · exact hq.elim
          | exit id => simp only [toA, Option.some.injEq] at he; subst he; exact out _ hq rfl
          | ret => simp only [toA, Option.some.injEq] at he; subst he; exact out _ hq rfl
          | goto l => simp [toA] at he
          | panic c => simp [toA] at he
          | outgrown => simp [toA] at he
        · exact h.elim
      · exact h.elim
    · exact h.elim
  | .rangeFunc f ps x y, p, Q, S, h, r, n, H0, w0, ds, z, zb, bs, a, w, hr, hF, hW => by
    have ev := evA_sound (anc := []) hF (by simp) f
    simp only [vc] at h
    split at h
    · rename_i fv k htop hf hk
      split at h
      · rename_i L R hL hR
        split at h
        · rename_i v0 hvars hdead hv0 hb
          simp only [Bool.and_eq_true] at hb
          obtain ⟨⟨hlen, hok2⟩, hlt⟩ := hb
          obtain ⟨g, caps, ⟨hfv, hcall⟩, HI, m, E, ys, hsub, hit, Rel, hrel0, hround, hdone⟩ := h
          have hr := hr htop
          subst hr
          rw [hf] at ev
          have hg : a.eval f = .func (.func g) #[] ⟨caps⟩ := by
            rw [← hfv]; exact ev
          have eg : ∀ (args : Array Value) (w : World), (callFunc g args).run C.P w = .ok (.enter g args) w := by
            unfold canCall at hcall
            split at hcall
            · rename_i fn hfn
              split at hcall
              · rename_i cd hcd
                exact Proofs.enters_of hfn (by simpa using hcall) hcd
              · cases hcall
            · cases hcall
          have hwH := hW.keeps.holds
          have ltB : ∀ b o, S.H b = some o → b < w.heap.size := fun b o e => heap_lt (hwH b o e)
          have ncB : ∀ {H : Heap}, NCs S.H H → ∀ b o, H b = some o → o.isCells = false → b < w.heap.size := fun nc b o e hn => by
            obtain ⟨o', ho'⟩ := Option.isSome_iff_exists.1 (nc.known b o e hn)
            exact ltB b o' ho'
          have dsB : ∀ D ∈ ds, D < w.heap.size := fun D hD => heap_lt (hW.dq D hD).2.2
          let pR := L.rpro p S.bx.length
          let zbR := zbAt w bs S.bx zb.bb
          let WR : V L.shapes → Heap → World → Prop := fun v H W => WC ds pR zbR H0 w0 bs (L.head S (enc L.shapes v) H).bx H W
          have wrGrown : ∀ {v H W W' row}, WR v H W → NCs S.H H → W.grownBy W' row → (∀ r, row = some r → w.heap.size ≤ r ∧ ∃ o : Obj, W.heap[r]? = some o ∧ o.isCells = false) → WR v H W' := fun h nc hg hr =>
            WC.grown h hg hr hW.keeps.size (ncB nc) dsB
          let I : List (Fin m) → World → Prop := fun pre W => ∃ v H, unc _ L.shapes (Rel (pre.map (·.1))) v H ∧ NCs S.H H ∧ Sub HI H ∧ WR v H W
          let Ix : Code × List (Fin m) → World → Prop := fun ci W => ∃ e v H, codeOf e = some ci.1 ∧ (List.IsPrefix (ci.2.map (·.1)) ys → Q e (L.head S (enc L.shapes v) H)) ∧ NCs S.H H ∧ WR v H W
          have hin : WC ds pR zbR H0 w0 bs S.bx S.H w := (hW.inner L).congr rfl
          have hsl : ∀ t, BRel bs (look S.fr t) (a.tmps.getD t undef) := fun t => (hF.slots t).brel
          have first0 : WR v0 S.H w := by
            have := WC.head (S := S) (S2 := S) L hW List.prefix_rfl (hW.inner L) hv0 hsl
            exact this.congr rfl
          refine wpIn_wide.2 ((wpIn_wide (n := 2)).1 (rf_law (α := Fin m) (encs := fun i => (⟨psVals R.ps (enc R.sh (E i.1))⟩ : Array Value)) (Kp := fun W W' => Holds HI W → Holds HI W') (S := fun is => is.map (·.1) = ys) (Sp := fun is : List (Fin m) => List.IsPrefix (List.map (fun i : Fin m => (i.1 : Nat)) is) ys) (N := ys.length)
            hg eg (hit.run 1 w (Nat.le_refl _) (hwH.sub hsub)) (fun f g h => g (f h)) ?kb ?hps I Ix ?hI ?hIx ?h0 ?round ?hdone ?hstop))
          case kb =>
            intro W l o hl hH b o' e
            have hb : b < w.heap.size := ltB b o' (hsub.sub b o' e)
            exact (World.putObj_heap_other (by omega)).trans (hH b o' e)
          case hps =>
            intro i
            have := Nat.eq_of_beq_eq_true hlen
            simp only [List.size_toArray, psVals_len]
            simpa using this
          case hI =>
            rintro pre A B' row ⟨v, H, h1, h2, h3, h4⟩ hg hr
            exact ⟨v, H, h1, h2, h3, wrGrown h4 h2 hg hr⟩
          case hIx =>
            rintro c A B' row ⟨e, v, H, h1, h2, h3, h4⟩ hg hr
            exact ⟨e, v, H, h1, h2, h3, wrGrown h4 h3 hg hr⟩
          case h0 => exact ⟨v0, S.H, hrel0, ⟨fun b o e _ => by rw [e]; rfl⟩, hsub, first0⟩
          case hdone =>
            rintro xs D W hD hS ⟨v, H, h1, h2, h3, h4⟩ hdq
            rw [hS] at h1
            rw [allV_iff] at hdone
            have hq := hdone v H h1 h2
            have hW2 : WC ds p zb H0 w0 bs (L.head S (enc L.shapes v) H).bx H W := WC.outer L hW hok2 List.prefix_rfl (WC.congr h4 rfl)
            have hHD : H D = none := by
              cases hh : H D with
              | none => rfl
              | some o =>
                have e := hW2.keeps.holds D o hh
                rw [hdq] at e; cases e
                have := ncB h2 D _ hh rfl
                omega
            exact ⟨bs, L.head S (enc L.shapes v) H, .normal, D :: ds, fun e => (by rw [htop] at e; cases e), List.prefix_rfl, hF.behind L hvars hdead _ _ D,
              hW2.addD (Nat.le_trans hW.keeps.size hD) hHD hdq (fun hm => by have := dsB D hm; omega), rfl, hq⟩
          case hstop =>
            rintro c xs D W hD hsp ⟨e, v, H, hc, hq, h2, h4⟩ hdq
            have hq := hq hsp
            have hc : codeOf e = some c := hc
            have hW2 : WC ds p zb H0 w0 bs (L.head S (enc L.shapes v) H).bx H W := WC.outer L hW hok2 List.prefix_rfl (WC.congr h4 rfl)
            have hHD : H D = none := by
              cases hh : H D with
              | none => rfl
              | some o =>
                have e := hW2.keeps.holds D o hh
                rw [hdq] at e; cases e
                have := ncB h2 D _ hh rfl
                omega
            have post : ∀ ex, toA ex = some e → Post ds p z zb H0 w0 bs Q ex { a with defers := { target := .collected D, args := #[] } :: a.defers } W := fun ex he =>
              ⟨bs, L.head S (enc L.shapes v) H, e, D :: ds, fun e => (by rw [htop] at e; cases e), List.prefix_rfl, hF.behind L hvars hdead _ _ D,
                hW2.addD (Nat.le_trans hW.keeps.size hD) hHD hdq (fun hm => by have := dsB D hm; omega), he, hq⟩
            cases e with
            | normal => cases hc
            | exit id => cases hc; exact wpIn_exit (post _ rfl)
            | ret => cases hc; exact wpIn_ret (post _ rfl)
          case round =>
            rintro l pre i W hl ⟨v, H, h1, h2, h3, h4⟩ hN
            have hrd := hround (pre.map (·.1)) i.1 i.2 (by simpa using hN)
            rw [allV_iff] at hrd
            have hrd := hrd v H h1 h3 h2
            rw [allV_iff] at hrd
            have hrd := hrd (E i.1) rfl
            have hFa := hF.rhead L hlt (psVals R.ps (enc R.sh (E i.1))) (enc L.shapes v) H S.bx.length
            have hWa : WC [] pR { zbR with bb := bs } (markH bs H) W bs (L.head S (enc L.shapes v) H).bx H W := WC.rebase h4 fun _ _ => rfl
            have hwa := vc_sound x pR _ _ hrd (some l) 0 (markH bs H) W [] _ { zbR with bb := bs } bs _ W (fun e => by cases e) hFa hWa
            refine wpIn_mono hwa ?_
            rintro e a1 W1 ⟨bs1, S1, e1, ds1, hd1, hp1, f1, f2, he1, hq1⟩
            have hd1 := hd1 rfl
            subst hd1
            cases e with
            | normal =>
              simp only [toA, Option.some.injEq] at he1
              subst he1
              obtain ⟨⟨nc1, hi1⟩, hbody⟩ := hq1
              have keeps1 : KeepsFrom w.heap.size W W1 := ⟨f2.keeps.size, fun b o hb e hn => by
                have hnb : b ∉ bs := fun hm => by
                  obtain ⟨_, _, o', ho', hc⟩ := WC.box h4 hm
                  rw [e] at ho'; cases ho'; rw [hn] at hc; cases hc
                have hnH : H b = none := by
                  cases hh : H b with
                  | none => rfl
                  | some o2 =>
                    have e2 := h4.keeps.holds b o2 hh
                    rw [e] at e2; cases e2
                    have := ncB h2 b o hh hn
                    omega
                exact ((f2.keeps.old b (heap_lt e) (mark_of hnb hnH)).1).trans e⟩
              refine ⟨keeps1, fun _ => f2.keeps.holds.sub hi1, fun rec hrec rec' => ?_⟩
              have hHl : S1.H l = none := by
                cases hh : S1.H l with
                | none => rfl
                | some o =>
                  have e := f2.keeps.holds l o hh
                  rw [hrec] at e; cases e
                  have := ncB nc1 l _ hh rfl
                  omega
              have hbl : l ∉ bs1 := fun hm => by
                obtain ⟨_, _, o', ho', hc⟩ := f2.box hm
                rw [hrec] at ho'; cases ho'; cases hc
              have hO1 : WC ds pR zbR H0 w0 bs1 S1.bx S1.H W1 := WC.absorb h4 f2
              have hO2 : WC ds pR zbR H0 w0 bs1 S1.bx S1.H (W1.putObj l (.loop rec')) := WC.grown hO1 (grownBy_putObj' W1 l (.loop rec')) (fun r e => by cases e; exact ⟨hl, _, hrec, rfl⟩) hW.keeps.size (ncB nc1) dsB
              have hWb : WC [] pR { zbR with bb := bs1 } (markH bs1 S1.H) (W1.putObj l (.loop rec')) bs1 S1.bx S1.H (W1.putObj l (.loop rec')) := hO2.rebase fun _ _ => rfl
              have hwb := vc_sound y pR _ S1 hbody (some l) 0 (markH bs1 S1.H) (W1.putObj l (.loop rec')) [] _ { zbR with bb := bs1 } bs1 a1 (W1.putObj l (.loop rec')) (fun e => by cases e) f1 hWb
              refine wpIn_mono hwb ?_
              rintro e a3 W3 ⟨bs3, S3, e3, ds3, hd3, hp3, k1, k2, he3, hq3⟩
              have hd3 := hd3 rfl
              subst hd3
              have keeps3 : KeepsFrom w.heap.size (W1.putObj l (.loop rec')) W3 := ⟨k2.keeps.size, fun b o hb e hn => by
                have hnb : b ∉ bs1 := fun hm => by
                  obtain ⟨_, _, o', ho', hc⟩ := hO2.box hm
                  rw [e] at ho'; cases ho'; rw [hn] at hc; cases hc
                have hnH : S1.H b = none := by
                  cases hh : S1.H b with
                  | none => rfl
                  | some o2 =>
                    have e2 := hO2.keeps.holds b o2 hh
                    rw [e] at e2; cases e2
                    have := ncB nc1 b o hh hn
                    omega
                exact ((k2.keeps.old b (heap_lt e) (mark_of hnb hnH)).1).trans e⟩
              have hO3 : WC ds (L.pro p S.bx.length) zbR H0 w0 bs3 S3.bx S3.H W3 := (WC.absorb hO2 k2).congr rfl
              have hsl3 : ∀ t, BRel bs3 (look S3.fr t) (a3.tmps.getD t undef) := fun t => (k1.slots t).brel
              have next : ∀ v', getV L.shapes (L.read S3) = some v' → WR v' (cutN S.H S3.H) W3 := fun v' hv' => by
                have := WC.head (S := S) (S2 := S3) L hW (hp1.trans hp3) hO3 hv' hsl3
                exact (this.less cutN_sub).congr rfl
              cases e with
              | normal =>
                simp only [toA, Option.some.injEq] at he3
                subst he3
                simp only [LS.rQ] at hq3
                split at hq3
                · rename_i v' hv'
                  obtain ⟨hr3, hi3⟩ := hq3
                  exact ⟨keeps3, fun _ => k2.keeps.holds.sub hi3, v', cutN S.H S3.H, by simpa using hr3, cutN_ncs, cutN_keep hsub hi3, next v' hv'⟩
                · exact hq3.elim
              | exit id =>
                simp only [toA, Option.some.injEq] at he3
                subst he3
                simp only [LS.rQ] at hq3
                split at hq3
                · rename_i v' hv'
                  exact ⟨keeps3, .exit id, v', _, rfl, fun hp => hq3 (by simpa using hp), cutN_ncs, next v' hv'⟩
                · exact hq3.elim
              | ret =>
                simp only [toA, Option.some.injEq] at he3
                subst he3
                simp only [LS.rQ] at hq3
                split at hq3
                · rename_i v' hv'
                  exact ⟨keeps3, .ret, v', _, rfl, fun hp => hq3 (by simpa using hp), cutN_ncs, next v' hv'⟩
                · exact hq3.elim
              | goto t => simp [toA] at he3
              | panic c => simp [toA] at he3
              | outgrown => simp [toA] at he3
            | exit id => simp only [toA, Option.some.injEq] at he1; subst he1; exact hq1
            | ret => simp only [toA, Option.some.injEq] at he1; subst he1; exact hq1
            | goto l => simp [toA] at he1
            | panic c => simp [toA] at he1
            | outgrown => simp [toA] at he1
        · exact h.elim
      · exact h.elim
    · exact h.elim

def resOne (tm : Array Value) : ResultVar → Sem Value
  | .tmp t => pure (tm.getD t undef)
  | .cell b t => do loadVar t (← asAddr (tm.getD b undef))

/-- What a function hands back. -/
theorem retVal_sound {ds : List Nat} {p : Pro} {z : Nat → Value} {zb : ZB} {bs : List Nat} {S : AS} {a : Act} {w : World} (hF : FC ds p z bs S a) (hW : WC ds p zb H0 w0 bs S.bx S.H w) : ∀ (l : List ResultVar) (K : List Value → Prop), retVal C S l K →
    ∃ vs, (l.mapM (resOne a.tmps)).run C.P w = .ok vs w ∧ K vs
  | [], K, h => ⟨[], by simp, h⟩
  | .tmp t :: l, K, h => by
    simp only [retVal] at h
    have hs := (hF.slots t).brel
    split at h
    · rename_i x hx
      rw [hx] at hs
      have hs : a.tmps.getD t undef = x := hs
      obtain ⟨vs, h1, h2⟩ := retVal_sound hF hW l _ h
      exact ⟨x :: vs, by rw [List.mapM_cons]; simp only [resOne, Sem.run_bind, Sem.run_pure, Result.andThen_ok, h1, hs], h2⟩
    · rename_i x hx
      rw [hx] at hs
      have hs : a.tmps.getD t undef = .bool x := hs
      obtain ⟨vs, h1, h2⟩ := retVal_sound hF hW l _ h
      exact ⟨.bool x :: vs, by rw [List.mapM_cons]; simp only [resOne, Sem.run_bind, Sem.run_pure, Result.andThen_ok, h1, hs], h2⟩
    · exact h.elim
  | .cell b t :: l, K, h => by
    simp only [retVal] at h
    have hx := pe_sound (anc := []) hF (by simp) (hF.slots b)
    obtain ⟨ad, e1, x, v, h1, h2, h3⟩ := loadA_sound (by simp) hW hx h
    have e2 : (asAddr (a.tmps.getD b undef)).run C.P w = .ok ad w := by rw [e1]; rfl
    split at h2
    · rename_i y
      have h1 : v = y := h1
      obtain ⟨vs, g1, g2⟩ := retVal_sound hF hW l _ h2
      exact ⟨y :: vs, by rw [List.mapM_cons]; simp only [resOne, Sem.run_bind, Sem.run_pure, Result.andThen_ok, e2, h3 w hW, g1, h1], g2⟩
    · rename_i y
      have h1 : v = .bool y := h1
      obtain ⟨vs, g1, g2⟩ := retVal_sound hF hW l _ h2
      exact ⟨.bool y :: vs, by rw [List.mapM_cons]; simp only [resOne, Sem.run_bind, Sem.run_pure, Result.andThen_ok, e2, h3 w hW, g1, h1], g2⟩
    · exact h2.elim

theorem args0_look : ∀ (l : List Value) (k t : Nat), look (args0 k l) t = .v (if k ≤ t then l.getD (t - k) undef else undef)
  | [], k, t => by simp [args0, look]
  | x :: l, k, t => by
    simp only [args0, look]
    cases hk : Nat.beq k t with
    | true => have := Nat.eq_of_beq_eq_true hk; subst this; simp
    | false =>
      have hne : k ≠ t := fun e => by subst e; simp at hk
      simp only [args0_look l (k + 1) t]
      by_cases h : k ≤ t
      · rw [if_pos (by omega), if_pos h]
        have : t - k = (t - (k + 1)) + 1 := by omega
        rw [this]
        simp
      · rw [if_neg (by omega), if_neg h]

theorem tr_of_vc {f : FuncId} {fn : Func} (hf : C.P.funcs[f]? = some fn) {args : List Value} {H : Heap} {K : Value → Heap → Prop} (h : vcFn C fn args H K) : Tr C.P f ⟨args⟩ H K := by
  refine ⟨fun w hw => ?_⟩
  unfold vcFn at h
  split at h
  · rename_i c hb hn
    have hn := Nat.le_of_ble_eq_true hn
    let a0 : Act := { tmps := (⟨args⟩ : Array Value) ++ Array.replicate (fn.ntmps - args.length) undef, defers := [] }
    let S0 : AS := { fr := args0 0 args, bx := [], H := H, ep := 0, gs := [] }
    have hget : ∀ t, a0.tmps.getD t undef = args.getD t undef := by
      intro t
      simp only [a0, Array.getD_eq_getD_getElem?, List.getD_eq_getElem?_getD]
      by_cases ht : t < args.length
      · rw [Array.getElem?_append_left (by simpa using ht)]; simp
      · rw [Array.getElem?_append_right (by simpa using Nat.le_of_not_lt ht), List.getElem?_eq_none (Nat.le_of_not_lt ht)]
        simp only [Array.getElem?_replicate]
        split <;> rfl
    have hF : FC [] (pro0 fn.ntmps) (fun t => a0.tmps.getD t undef) [] S0 a0 := by
      refine ⟨by simp [a0, pro0]; omega, rfl, fun t => ?_, fun t e s w x hx => ?_, fun _ _ => rfl, fun t ht => Nat.le_of_ble_eq_true ht⟩
      · show SRel [] _ 0 (look (args0 0 args) t) _
        rw [args0_look, hget]
        show _ = _
        simp
      · have hx : look (args0 0 args) t = _ := hx
        rw [args0_look] at hx
        cases hx
    have hW : WC [] (pro0 fn.ntmps) ⟨fun _ _ => none, fun _ => none, []⟩ H w [] S0.bx S0.H w :=
      ⟨rfl, List.nodup_nil, fun i b cs hb => by simp at hb, fun _ _ _ => rfl, fun _ _ => rfl, Keeps.refl hw, fun D hD => (by cases hD), List.nodup_nil, fun b hb => (by cases hb)⟩
    have hwp := vc_sound c (pro0 fn.ntmps) _ S0 h none 0 H w [] _ _ [] a0 w (fun _ => rfl) hF hW
    refine callsIn_wide.1 (callsIn_of_wp_marks (F := Fz none) hf hb trivial (wpIn_mono hwp ?_))
    rintro e a' w' ⟨bs', S', e', ds', -, _, f1, f2, he, hq⟩
    have fin : retVal { C with res := fn.results.toList } S' fn.results.toList (fun vs => K (match vs with | [x] => x | l => .tuple ⟨l⟩) S'.H) →
        LeavesInM (Fz none) 0 C.P fn a'.tmps (fun e w' => ∃ v H', e = .returned v ∧ Keeps H w H' w' ∧ K v H') a'.defers .returning w' := by
      intro hr
      have last : ∀ w'', WC [] (pro0 fn.ntmps) ⟨fun _ _ => none, fun _ => none, []⟩ H w bs' S'.bx S'.H w'' → LeavesInM (Fz none) 0 C.P fn a'.tmps (fun e w' => ∃ v H', e = .returned v ∧ Keeps H w H' w' ∧ K v H') [] .returning w'' := by
        intro w'' hw''
        have f1' : FC [] (pro0 fn.ntmps) (fun t => a0.tmps.getD t undef) bs' S' { a' with defers := [] } := ⟨f1.size, rfl, f1.slots, f1.eps, f1.zs, f1.okn⟩
        obtain ⟨vs, g1, g2⟩ := retVal_sound f1' hw'' fn.results.toList _ hr
        refine ⟨_, ?_, _, S'.H, rfl, hw''.keeps, g2⟩
        have : (results fn a'.tmps).run C.P w'' = .ok (if h : vs.toArray.size = 1 then vs.toArray[0] else .tuple vs.toArray) w'' := by
          have he : results fn a'.tmps = (do let vs ← fn.results.mapM (resOne a'.tmps); pure (if h : vs.size = 1 then vs[0] else .tuple vs)) := by
            have hfun : (fun r : ResultVar => match r with | .tmp t => pure (a'.tmps.getD t undef) | .cell b t => do loadVar t (← asAddr (a'.tmps.getD b undef))) = resOne a'.tmps := by
              funext r
              cases r <;> rfl
            unfold results
            rw [← hfun]
            rfl
          rw [he, Array.mapM_eq_mapM_toList]
          simp only [map_eq_pure_bind, Sem.run_bind, g1, Result.andThen_ok, Sem.run_pure]
        rw [this]
        congr 1
        match vs with
        | [] => rfl
        | [x] => rfl
        | x :: y :: l => simp
      have down : ∀ (l : List Nat) (w'' : World), WC l (pro0 fn.ntmps) ⟨fun _ _ => none, fun _ => none, []⟩ H w bs' S'.bx S'.H w'' → LeavesInM (Fz none) 0 C.P fn a'.tmps (fun e w' => ∃ v H', e = .returned v ∧ Keeps H w H' w' ∧ K v H') (dfs l) .returning w'' := by
        intro l
        induction l with
        | nil => exact last
        | cons D l ih =>
          intro w'' hw''
          exact ⟨by simp, .inl ⟨D, _, rfl, run_takeDeferred (hw''.dq D (List.mem_cons_self ..)).2.2, ih _ hw''.takeD⟩⟩
      rw [f1.defers]
      exact down ds' w' f2
    cases e with
    | normal => simp only [toA, Option.some.injEq] at he; subst he; exact fin hq
    | ret => simp only [toA, Option.some.injEq] at he; subst he; exact fin hq
    | exit id => simp only [toA, Option.some.injEq] at he; subst he; exact hq.elim
    | goto l => simp [toA] at he
    | panic c => simp [toA] at he
    | outgrown => simp [toA] at he
  · exact h.elim
theorem tr_of_eq {f : FuncId} {fn : Func} (hf : C.P.funcs[f]? = some fn) {args : List Value} {H : Heap} {K : Value → Heap → Prop} {F : Prop} (e : vcFn C fn args H K = F) (h : F) : Tr C.P f ⟨args⟩ H K := tr_of_vc hf (Eq.mpr e h)
end
end Go.Ax
