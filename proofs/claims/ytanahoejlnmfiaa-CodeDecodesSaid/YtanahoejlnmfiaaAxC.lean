/- Ax, tenth part: code. Conditions: those of each lemma. -/
import Derived.Test.YtanahoejlnmfiaaAxZ
namespace Go.Ax
open Go.RowKit

def toA : Exit → Option AE
  | .normal => some .normal
  | .exit id => some (.exit id)
  | .ret => some .ret
  | _ => none

def Post (ds : List Nat) (p : Pro) (z : Nat → Value) (zb : ZB) (H0 : Heap) (w0 : World) (bs : List Nat) (Q : AE → AS → Prop) : Exit → Act → World → Prop := fun e a w =>
  ∃ bs' S' e' ds', (p.top = false → ds' = ds) ∧ bs <+: bs' ∧ FC ds' p z bs' S' a ∧ WC ds' p zb H0 w0 bs' S'.bx S'.H w ∧ toA e = some e' ∧ Q e' S'

theorem Post.up {ds ds1 : List Nat} {p : Pro} {z : Nat → Value} {zb : ZB} {H0 : Heap} {w0 : World} {bs bs' : List Nat} {Q : AE → AS → Prop} {e : Exit} {a : Act} {w : World} (hd : p.top = false → ds1 = ds) (hp : bs <+: bs') (h : Post ds1 p z zb H0 w0 bs' Q e a w) : Post ds p z zb H0 w0 bs Q e a w := by
  obtain ⟨b, S, e', d', h0, h1, h2⟩ := h
  exact ⟨b, S, e', d', fun ht => (h0 ht).trans (hd ht), hp.trans h1, h2⟩

section
variable {ds : List Nat} {p : Pro} {z : Nat → Value} {zb : ZB} {H0 : Heap} {w0 : World} {bs : List Nat} {S : AS} {a : Act}

theorem FC.enter (hF : FC ds p z bs S a) : FC ds p z bs S.enter a := by
  refine ⟨hF.size, hF.defers, fun t => ?_, fun t e s w x hx => ?_, hF.zs, hF.okn⟩
  · have hs := hF.slots t
    show SRel bs a.tmps (S.ep + 1) (look S.fr t) _
    cases hl : look S.fr t with
    | ifs e s w x =>
      have := (hF.eps t e s w x hl).1
      intro he
      omega
    | _ => rw [hl] at hs; exact hs
  · have := (hF.eps t e s w x hx).1
    exact ⟨by show e ≤ S.ep + 1; omega, fun he => by have he : e = S.ep + 1 := he; omega⟩

/-! ### loops: reading the state at a round's end, laying it at a round's head -/
theorem getV_sound (bs : List Nat) (f : Nat → Value) : ∀ (l : List Sh) (xs : List AV) (v : V l), getV l xs = some v → (∀ (j : Nat) x, xs[j]? = some x → BRel bs x (f j)) → ∀ j, j < l.length → (enc l v)[j]? = some (f j)
  | [], _, _, _, _, j, hj => by simp at hj
  | sh :: l, xs, v, h, hr, j, hj => by
    have ih : ∀ (xs' : List AV) (r : V l), getV l xs' = some r → (∀ (j : Nat) x, xs'[j]? = some x → BRel bs x (f (j + 1))) → ∀ j, j < l.length → (enc l r)[j]? = some (f (j + 1)) := fun xs' r h' hr' j hj => getV_sound bs (fun j => f (j + 1)) l xs' r h' hr' j hj
    cases xs with
    | nil => cases sh <;> simp [getV] at h
    | cons x xs =>
      have h0 := hr 0 x rfl
      have hr' : ∀ (j : Nat) y, xs[j]? = some y → BRel bs y (f (j + 1)) := fun j y hy => hr (j + 1) y hy
      cases sh with
      | int k =>
        cases x with
        | v y =>
          cases y <;> simp only [getV] at h <;> try cases h
          rename_i k' n
          cases hk : kb k k' with
          | false => simp [hk] at h
          | true =>
            simp only [hk] at h
            have hkk := kb_eq hk
            subst hkk
            cases hg : getV l xs with
            | none => simp [hg] at h
            | some r =>
              simp only [hg] at h
              have h := Option.some.inj h
              subst h
              cases j with
              | zero => simp [enc]; exact h0.symm
              | succ j => simp [enc]; exact ih xs r hg hr' j (by simpa using hj)
        | _ => simp [getV] at h
      | bool =>
        simp only [getV] at h
        cases hb : asB x with
        | none => simp [hb] at h
        | some b =>
          simp only [hb] at h
          cases hg : getV l xs with
          | none => simp [hg] at h
          | some r =>
            simp only [hg] at h
            have h := Option.some.inj h
            subst h
            cases j with
            | zero => simp [enc]; exact (asB_some hb h0).symm
            | succ j => simp [enc]; exact ih xs r hg hr' j (by simpa using hj)
      | str =>
        cases x with
        | v y =>
          cases y <;> simp only [getV] at h <;> try cases h
          cases hg : getV l xs with
          | none => simp [hg] at h
          | some r =>
            simp only [hg] at h
            have h := Option.some.inj h
            subst h
            cases j with
            | zero => simp [enc]; exact h0.symm
            | succ j => simp [enc]; exact ih xs r hg hr' j (by simpa using hj)
        | _ => simp [getV] at h
      | sl =>
        cases x with
        | v y =>
          cases y <;> simp only [getV] at h <;> try cases h
          cases hg : getV l xs with
          | none => simp [hg] at h
          | some r =>
            simp only [hg] at h
            have h := Option.some.inj h
            subst h
            cases j with
            | zero => simp [enc]; exact h0.symm
            | succ j => simp [enc]; exact ih xs r hg hr' j (by simpa using hj)
        | _ => simp [getV] at h
      | ptr =>
        cases x with
        | v y =>
          cases y <;> simp only [getV] at h <;> try cases h
          cases hg : getV l xs with
          | none => simp [hg] at h
          | some r =>
            simp only [hg] at h
            have h := Option.some.inj h
            subst h
            cases j with
            | zero => simp [enc]; exact h0.symm
            | succ j => simp [enc]; exact ih xs r hg hr' j (by simpa using hj)
        | _ => simp [getV] at h
      | mp =>
        cases x with
        | v y =>
          cases y <;> simp only [getV] at h <;> try cases h
          cases hg : getV l xs with
          | none => simp [hg] at h
          | some r =>
            simp only [hg] at h
            have h := Option.some.inj h
            subst h
            cases j with
            | zero => simp [enc]; exact h0.symm
            | succ j => simp [enc]; exact ih xs r hg hr' j (by simpa using hj)
        | _ => simp [getV] at h
      | val =>
        cases x with
        | v y =>
          simp only [getV] at h
          cases hg : getV l xs with
          | none => simp [hg] at h
          | some r =>
            simp only [hg] at h
            have h := Option.some.inj h
            subst h
            cases j with
            | zero => simp [enc]; exact h0.symm
            | succ j => simp [enc]; exact ih xs r hg hr' j (by simpa using hj)
        | _ => simp [getV] at h

theorem look_append : ∀ (l m : List (Nat × AV)) (t : Nat), look (l ++ m) t = if t ∈ l.map (·.1) then look l t else look m t
  | [], m, t => by simp
  | q :: l, m, t => by
    simp only [List.cons_append, look]
    cases hk : Nat.beq q.1 t with
    | true => have := Nat.eq_of_beq_eq_true hk; simp [this]
    | false =>
      have hne : t ≠ q.1 := fun e => by subst e; simp at hk
      simp only [look_append l m t, List.map_cons, List.mem_cons, hne, false_or]

theorem zipF_keys : ∀ (l : List (Nat × Sh)) (vs : List Value), (zipF l vs).map (·.1) = l.map (·.1)
  | [], vs => by cases vs <;> rfl
  | q :: l, [] => by simp [zipF, zipF_keys l []]
  | q :: l, x :: xs => by simp [zipF, zipF_keys l xs]

/-- A slot of 'zipF': related, if the values are what is read off the slots. -/
theorem zipF_brel (bs : List Nat) (tm : Nat → Value) : ∀ (l : List (Nat × Sh)) (vs : List Value) (t : Nat), t ∈ l.map (·.1) → (∀ (j : Nat) q, l[j]? = some q → ∀ x, vs[j]? = some x → tm q.1 = x) → BRel bs (look (zipF l vs) t) (tm t)
  | [], vs, t, ht, _ => by simp at ht
  | q :: l, [], t, ht, h => by
    simp only [zipF, look]
    cases hk : Nat.beq q.1 t with
    | true => trivial
    | false =>
      have hne : t ≠ q.1 := fun e => by subst e; simp at hk
      exact zipF_brel bs tm l [] t (by simpa [hne] using ht) (fun j q hq x hx => by simp at hx)
  | q :: l, x :: xs, t, ht, h => by
    simp only [zipF, look]
    cases hk : Nat.beq q.1 t with
    | true =>
      have := Nat.eq_of_beq_eq_true hk
      subst this
      exact h 0 q rfl x rfl
    | false =>
      have hne : t ≠ q.1 := fun e => by subst e; simp at hk
      exact zipF_brel bs tm l xs t (by simpa [hne] using ht) (fun j q' hq x' hx => h (j + 1) q' hq x' hx)

theorem zipF_noifs : ∀ (l : List (Nat × Sh)) (vs : List Value) (t : Nat) e s w x, t ∈ l.map (·.1) → look (zipF l vs) t ≠ .ifs e s w x
  | [], vs, t, e, s, w, x, ht => by simp at ht
  | q :: l, [], t, e, s, w, x, ht => by
    simp only [zipF, look]
    cases hk : Nat.beq q.1 t with
    | true => intro h; cases h
    | false =>
      have hne : t ≠ q.1 := fun e => by subst e; simp at hk
      exact zipF_noifs l [] t e s w x (by simpa [hne] using ht)
  | q :: l, y :: xs, t, e, s, w, x, ht => by
    simp only [zipF, look]
    cases hk : Nat.beq q.1 t with
    | true => intro h; cases h
    | false =>
      have hne : t ≠ q.1 := fun e => by subst e; simp at hk
      exact zipF_noifs l xs t e s w x (by simpa [hne] using ht)

theorem look_dead : ∀ (l : List Nat) (t : Nat), t ∈ l → look (l.map fun d => (d, AV.any)) t = .any
  | [], t, h => by cases h
  | d :: l, t, h => by
    simp only [List.map_cons, look]
    cases hk : Nat.beq d t with
    | true => rfl
    | false =>
      have hne : t ≠ d := fun e => by subst e; simp at hk
      exact look_dead l t (by simpa [hne] using h)

theorem head_look (L : LS) (S : AS) (vs : List Value) (H : Heap) (t : Nat) : look (L.head S vs H).fr t = if t ∈ L.vars.map (·.1) then look (zipF L.vars vs) t else if t ∈ L.dead then .any else look S.fr t := by
  simp only [LS.head, List.append_assoc, look_append, zipF_keys]
  have hd : (L.dead.map fun d => (d, AV.any)).map (·.1) = L.dead := by simp [List.map_map, Function.comp_def]
  rw [hd]
  split
  · rfl
  · split
    · rename_i h; exact look_dead _ _ h
    · rfl

theorem allOk_mem : ∀ (l : List Nat), allOk p l = true → ∀ d ∈ l, p.ok d = true
  | [], _, d, h => by cases h
  | x :: l, h, d, hd => by
    simp only [allOk, Bool.and_eq_true] at h
    rcases List.mem_cons.1 hd with rfl | hd
    · exact h.1
    · exact allOk_mem l h.2 d hd
theorem allOkb_mem {k : Nat} : ∀ (l : List (Nat × Nat × Sh)), allOkb p k l = true → ∀ q ∈ l, p.okb q.1 q.2.1 = true ∧ q.1 < k
  | [], _, d, h => by cases h
  | x :: l, h, d, hd => by
    simp only [allOkb, Bool.and_eq_true] at h
    rcases List.mem_cons.1 hd with rfl | hd
    · exact ⟨h.1.1, Nat.le_of_ble_eq_true h.1.2⟩
    · exact allOkb_mem l h.2 d hd
theorem hasC_iff : ∀ (l : List (Nat × Nat × Sh)) (i j : Nat), hasC l i j = true ↔ ∃ q ∈ l, q.1 = i ∧ q.2.1 = j
  | [], i, j => by simp [hasC]
  | x :: l, i, j => by
    simp only [hasC]
    cases hk : Nat.beq x.1 i && Nat.beq x.2.1 j with
    | true =>
      rw [Bool.and_eq_true] at hk
      have h1 := Nat.eq_of_beq_eq_true hk.1
      have h2 := Nat.eq_of_beq_eq_true hk.2
      exact ⟨fun _ => ⟨x, by simp, h1, h2⟩, fun _ => rfl⟩
    | false =>
      rw [hasC_iff l i j]
      constructor
      · rintro ⟨q, h1, h2⟩; exact ⟨q, List.mem_cons_of_mem _ h1, h2⟩
      · rintro ⟨q, h1, h2, h3⟩
        rcases List.mem_cons.1 h1 with rfl | h1
        · subst h2; subst h3; simp at hk
        · exact ⟨q, h1, h2, h3⟩

/-- The frame at a round's head. 'S': the state at the loop's first beginning; 'S2': the state that is read. -/
theorem FC.head (L : LS) (hF : FC ds p z bs S a) (hok : allOk p L.slots = true) {S2 : AS} {a2 : Act} {bs2 : List Nat} {v : V L.shapes} {H : Heap} (hs2 : a2.tmps.size = p.n) (hd2 : a2.defers = dfs ds)
    (hsl : ∀ t, BRel bs2 (look S2.fr t) (a2.tmps.getD t undef)) (hg : getV L.shapes (L.read S2) = some v) {cells : Nat → Value}
    (hcl : ∀ (j : Nat) q, L.cells[j]? = some q → BRel bs2 (cellAt S2.bx q.1 q.2.1) (cells j)) (hz : ∀ t, hasN L.slots t = false → a2.tmps.getD t undef = a.tmps.getD t undef) (k : Nat) :
    FC ds (L.pro p k) (fun t => a.tmps.getD t undef) bs (L.head S (enc L.shapes v) H) a2 := by
  have hread : ∀ (j : Nat) q, L.vars[j]? = some q → ∀ x, (enc L.shapes v)[j]? = some x → a2.tmps.getD q.1 undef = x := by
    intro j q hq x hx
    have hj : j < L.vars.length := (List.getElem?_eq_some_iff.1 hq).1
    let f : Nat → Value := fun i => if i < L.vars.length then a2.tmps.getD ((L.vars.map (·.1)).getD i 0) undef else cells (i - L.vars.length)
    have := getV_sound bs2 f L.shapes (L.read S2) v hg (fun i y hy => by
      by_cases hi : i < L.vars.length
      · simp only [LS.read] at hy
        rw [List.getElem?_append_left (by simpa using hi)] at hy
        simp only [List.getElem?_map, Option.map_eq_some_iff] at hy
        obtain ⟨q', hq', rfl⟩ := hy
        have hq2 : L.vars[i] = q' := Option.some.inj ((List.getElem?_eq_getElem hi).symm.trans hq')
        have hf : f i = a2.tmps.getD q'.1 undef := by simp [f, hi, List.getD, hq2]
        rw [hf]
        exact hsl q'.1
      · simp only [LS.read] at hy
        rw [List.getElem?_append_right (by simpa using Nat.le_of_not_lt hi)] at hy
        simp only [List.getElem?_map, Option.map_eq_some_iff, List.length_map] at hy
        obtain ⟨q', hq', rfl⟩ := hy
        have hf : f i = cells (i - L.vars.length) := by simp [f, hi]
        rw [hf]
        exact hcl _ q' hq') j (by simp [LS.shapes]; omega)
    rw [this] at hx
    injection hx with hx
    rw [← hx]
    have hq2 : L.vars[j] = q := Option.some.inj ((List.getElem?_eq_getElem hj).symm.trans hq)
    simp [f, hj, List.getD, hq2]
  refine ⟨hs2, hd2, fun t => ?_, fun t e s w x hx => ?_, fun t ht => hz t ht, fun t ht => ?_⟩
  · rw [head_look]
    show SRel bs a2.tmps (S.ep + 1) _ _
    split
    · rename_i ht
      have hb := zipF_brel bs (fun t => a2.tmps.getD t undef) L.vars (enc L.shapes v) t ht hread
      have hni := zipF_noifs L.vars (enc L.shapes v) t
      cases hl : look (zipF L.vars (enc L.shapes v)) t with
      | ifs e s w x => exact absurd hl (hni e s w x ht)
      | _ => rw [hl] at hb; exact hb
    · split
      · trivial
      · rename_i h1 h2
        have hn : hasN L.slots t = false := by
          cases hh : hasN L.slots t with
          | false => rfl
          | true => have := (hasN_iff _ _).1 hh; simp only [LS.slots, List.mem_append] at this; exact absurd this (by rintro (h | h); exact h1 h; exact h2 h)
        rw [hz t hn]
        have hs := hF.slots t
        cases hl : look S.fr t with
        | ifs e s w x =>
          have := (hF.eps t e s w x hl).1
          intro he; omega
        | _ => rw [hl] at hs; exact hs
  · rw [head_look] at hx
    split at hx
    · rename_i ht; exact absurd hx (zipF_noifs L.vars (enc L.shapes v) t e s w x ht)
    · split at hx
      · cases hx
      · have := (hF.eps t e s w x hx).1
        exact ⟨by show e ≤ S.ep + 1; omega, fun he => by have he : e = S.ep + 1 := he; omega⟩
  · exact hF.okn t (allOk_mem _ hok t ((hasN_iff _ _).1 ht))

/-! ### boxes at a round's head -/
def cellV (w : World) (bs : List Nat) (i j : Nat) : Option Value := match bs[i]? with
  | some b => match w.heap[b]? with
    | some (.cells c _ _) => c[j]?
    | _ => none
  | none => none

theorem WC.cellV {bx : List (List AV)} {H : Heap} {w : World} (hW : WC ds p zb H0 w0 bs bx H w) (i j : Nat) : BRel bs (cellAt bx i j) ((Ax.cellV w bs i j).getD undef) := by
  unfold cellAt
  cases hl : bx[i]? with
  | none => trivial
  | some l =>
    simp only
    cases hx : l[j]? with
    | none => trivial
    | some x =>
      have hi : i < bs.length := by rw [hW.blen]; exact (List.getElem?_eq_some_iff.1 hl).1
      have hb := List.getElem?_eq_getElem hi
      obtain ⟨_, _, c, T, h3, _, h5, _⟩ := hW.boxes i _ l hb hl
      obtain ⟨y, y1, y2⟩ := h5 j x hx
      simp only [Ax.cellV, hb, h3, y1, Option.getD_some]
      exact y2

def zbAt (w : World) (bs : List Nat) (bx : List (List AV)) (bb : List Nat) : ZB := ⟨Ax.cellV w bs, fun i => (bx[i]?).map (·.length), bb⟩

theorem WC.inner {bx : List (List AV)} {H : Heap} {w : World} (hW : WC ds p zb H0 w0 bs bx H w) (L : LS) : WC ds (L.pro p bx.length) (zbAt w bs bx zb.bb) H0 w0 bs bx H w := by
  refine ⟨hW.blen, hW.nodup, fun i b cs hb hcs => ?_, fun i j hi => ?_, fun i hi => ?_, hW.keeps, hW.dq, hW.dn, hW.bk⟩
  · obtain ⟨h1, h2, c, T, h3, h4, h5, h6⟩ := hW.boxes i b cs hb hcs
    refine ⟨h1, h2, c, T, h3, h4, h5, fun j hj _ => ?_, fun m hm => ?_⟩
    · simp [zbAt, Ax.cellV, hb, h3]
    · simp only [zbAt, hcs, Option.map_some, Option.some.injEq] at hm
      omega
  · show (Nat.ble bx.length i || _) = true
    rw [Nat.ble_eq_true_of_le hi]
    rfl
  · simp [zbAt, List.getElem?_eq_none hi]

theorem setCell_get (bx : List (List AV)) (i0 j0 : Nat) (x0 : AV) (i j : Nat) : ((setCell bx i0 j0 x0)[i]?).bind (·[j]?) = if i0 = i ∧ j0 = j then ((bx[i]?).bind (·[j]?)).map fun _ => x0 else (bx[i]?).bind (·[j]?) := by
  unfold setCell
  rw [List.getElem?_modify]
  cases hb : bx[i]? with
  | none => simp
  | some l =>
    by_cases hi : i0 = i
    · subst hi
      simp only [if_true, true_and]
      show (l.set j0 x0)[j]? = if j0 = j then (l[j]?).map (fun _ => x0) else l[j]?
      rw [List.getElem?_set]
      by_cases hj : j0 = j
      · subst hj
        by_cases hlt : j0 < l.length
        · simp [hlt]
        · simp [hlt]
      · simp [hj]
    · simp [hi]

theorem setCell_len (bx : List (List AV)) (i0 j0 : Nat) (x0 : AV) (i : Nat) : ((setCell bx i0 j0 x0)[i]?).map (·.length) = (bx[i]?).map (·.length) := by
  unfold setCell
  rw [List.getElem?_modify]
  cases hb : bx[i]? with
  | none => simp
  | some l => by_cases hi : i0 = i <;> simp [hi]

theorem setCells_len : ∀ (l : List (Nat × Nat × Sh)) (bx : List (List AV)) (vs : List Value) (i : Nat), ((setCells bx l vs)[i]?).map (·.length) = (bx[i]?).map (·.length)
  | [], bx, vs, i => by cases vs <;> rfl
  | q :: l, bx, [], i => by simp only [setCells]; rw [setCells_len l, setCell_len]
  | q :: l, bx, x :: xs, i => by simp only [setCells]; rw [setCells_len l, setCell_len]

theorem setCells_rel (R : Nat → Nat → AV → Prop) (hany : ∀ i j, R i j .any) : ∀ (l : List (Nat × Nat × Sh)) (bx : List (List AV)) (vs : List Value),
    (∀ i j x, (bx[i]?).bind (·[j]?) = some x → hasC l i j = true ∨ R i j x) → (∀ (k : Nat) q x, l[k]? = some q → vs[k]? = some x → R q.1 q.2.1 (.v x)) →
    ∀ i j x, ((setCells bx l vs)[i]?).bind (·[j]?) = some x → R i j x
  | [], bx, vs, h, _, i, j, x, hx => by
    have : setCells bx [] vs = bx := by cases vs <;> rfl
    rw [this] at hx
    rcases h i j x hx with hh | hh
    · simp [hasC] at hh
    · exact hh
  | q :: l, bx, vs, h, hv, i, j, x, hx => by
    have step : ∀ (x0 : AV), R q.1 q.2.1 x0 → ∀ i j x, ((setCell bx q.1 q.2.1 x0)[i]?).bind (·[j]?) = some x → hasC l i j = true ∨ R i j x := by
      intro x0 hx0 i j x hx
      rw [setCell_get] at hx
      split at hx
      · rename_i hc
        obtain ⟨rfl, rfl⟩ := hc
        simp only [Option.map_eq_some_iff] at hx
        obtain ⟨_, _, rfl⟩ := hx
        exact .inr hx0
      · rename_i hc
        rcases h i j x hx with hh | hh
        · left
          rw [hasC_iff] at hh ⊢
          obtain ⟨q', h1, h2, h3⟩ := hh
          rcases List.mem_cons.1 h1 with rfl | h1
          · exact absurd ⟨h2, h3⟩ hc
          · exact ⟨q', h1, h2, h3⟩
        · exact .inr hh
    cases vs with
    | nil =>
      simp only [setCells] at hx
      exact setCells_rel R hany l _ [] (step _ (hany _ _)) (fun k q x _ h => by simp at h) i j x hx
    | cons y ys =>
      simp only [setCells] at hx
      exact setCells_rel R hany l _ ys (step _ (hv 0 q y rfl rfl)) (fun k q' x' h1 h2 => hv (k + 1) q' x' h1 h2) i j x hx

theorem WC.head {w : World} (L : LS) (hW : WC ds p zb H0 w0 bs S.bx S.H w) {bs2 : List Nat} {S2 : AS} {w2 : World} (hp : bs <+: bs2)
    (h2 : WC ds (L.pro p S.bx.length) (zbAt w bs S.bx zb.bb) H0 w0 bs2 S2.bx S2.H w2) {v : V L.shapes} (hg : getV L.shapes (L.read S2) = some v) {a2 : Act} (hsl : ∀ t, BRel bs2 (look S2.fr t) (a2.tmps.getD t undef)) :
    WC ds (L.pro p S.bx.length) (zbAt w bs S.bx zb.bb) H0 w0 bs (L.head S (enc L.shapes v) S2.H).bx S2.H w2 := by
  have hvals : ∀ (k : Nat) q x, L.cells[k]? = some q → ((enc L.shapes v).drop L.vars.length)[k]? = some x → (Ax.cellV w2 bs2 q.1 q.2.1).getD undef = x := by
    intro k q x hq hx
    have hk : k < L.cells.length := (List.getElem?_eq_some_iff.1 hq).1
    let f : Nat → Value := fun i => if i < L.vars.length then a2.tmps.getD ((L.vars.map (·.1)).getD i 0) undef else (match L.cells[i - L.vars.length]? with | some q => (Ax.cellV w2 bs2 q.1 q.2.1).getD undef | none => undef)
    have := getV_sound bs2 f L.shapes (L.read S2) v hg (fun i y hy => by
      by_cases hi : i < L.vars.length
      · simp only [LS.read] at hy
        rw [List.getElem?_append_left (by simpa using hi)] at hy
        simp only [List.getElem?_map, Option.map_eq_some_iff] at hy
        obtain ⟨q', hq', rfl⟩ := hy
        have hq2 : L.vars[i] = q' := Option.some.inj ((List.getElem?_eq_getElem hi).symm.trans hq')
        have hf : f i = a2.tmps.getD q'.1 undef := by simp [f, hi, List.getD, hq2]
        rw [hf]
        exact hsl q'.1
      · simp only [LS.read] at hy
        rw [List.getElem?_append_right (by simpa using Nat.le_of_not_lt hi)] at hy
        simp only [List.getElem?_map, Option.map_eq_some_iff, List.length_map] at hy
        obtain ⟨q', hq', rfl⟩ := hy
        have hf : f i = (Ax.cellV w2 bs2 q'.1 q'.2.1).getD undef := by simp only [f, if_neg hi, hq']
        rw [hf]
        exact h2.cellV _ _) (L.vars.length + k) (by simp [LS.shapes]; omega)
    rw [List.getElem?_drop, this] at hx
    injection hx with hx
    rw [← hx]
    simp only [f]
    rw [if_neg (by omega), Nat.add_sub_cancel_left, hq]
  have hlen2 : bs.length ≤ bs2.length := hp.length_le
  have up : ∀ {i b : Nat}, bs[i]? = some b → bs2[i]? = some b := by
    intro i b hb
    obtain ⟨t, rfl⟩ := hp
    rw [List.getElem?_append_left (List.getElem?_eq_some_iff.1 hb).1]
    exact hb
  have hlens : ∀ i : Nat, ((setCells S.bx L.cells ((enc L.shapes v).drop L.vars.length))[i]?).map (·.length) = (S.bx[i]?).map (·.length) := setCells_len L.cells S.bx _
  have hsame : (setCells S.bx L.cells ((enc L.shapes v).drop L.vars.length)).length = S.bx.length := by
    rcases Nat.lt_trichotomy (setCells S.bx L.cells ((enc L.shapes v).drop L.vars.length)).length S.bx.length with h | h | h
    · have := hlens (setCells S.bx L.cells ((enc L.shapes v).drop L.vars.length)).length
      rw [List.getElem?_eq_none (Nat.le_refl _), List.getElem?_eq_getElem h] at this
      cases this
    · exact h
    · have := hlens S.bx.length
      rw [List.getElem?_eq_none (Nat.le_refl S.bx.length), List.getElem?_eq_getElem h] at this
      cases this
  show WC _ _ _ H0 w0 bs (setCells S.bx L.cells ((enc L.shapes v).drop L.vars.length)) S2.H w2
  refine ⟨by rw [hsame]; exact hW.blen, hW.nodup, fun i b cs hb hcs => ?_, fun i j hi => ?_, fun i hi => ?_, h2.keeps, h2.dq, h2.dn, h2.bk⟩
  · have hb2 := up hb
    have hib : i < bs.length := (List.getElem?_eq_some_iff.1 hb).1
    have hi2 : i < S2.bx.length := by rw [← h2.blen]; omega
    have hi1 : i < S.bx.length := by rw [← hW.blen]; exact hib
    obtain ⟨g1, g2, c, T, g3, g4, g5, g6, g7⟩ := h2.boxes i b _ hb2 (List.getElem?_eq_getElem hi2)
    have hsz : c.size = (S.bx[i]).length := g7 _ (by simp [zbAt, hi1])
    have hcl : cs.length = (S.bx[i]).length := by
      have := hlens i
      rw [hcs, List.getElem?_eq_getElem hi1] at this
      simpa using this
    refine ⟨g1, g2, c, T, g3, by omega, fun j x hx => ?_, g6, g7⟩
    have hj : j < cs.length := (List.getElem?_eq_some_iff.1 hx).1
    have hjc : j < c.size := by omega
    refine ⟨c[j], Array.getElem?_eq_getElem hjc, ?_⟩
    have hcv : Ax.cellV w2 bs2 i j = some c[j] := by simp [Ax.cellV, hb2, g3, hjc]
    have key := setCells_rel (fun i' j' x' => i' = i → j' = j → BRel bs x' c[j]) (fun _ _ _ _ => trivial) L.cells S.bx ((enc L.shapes v).drop L.vars.length) ?_ ?_ i j x (by rw [hcs]; exact hx) rfl rfl
    · exact key
    · intro i' j' x' hx'
      by_cases hc : hasC L.cells i' j' = true
      · exact .inl hc
      · refine .inr ?_
        rintro rfl rfl
        have hkeep := g6 j' hjc (by
          show (Nat.ble S.bx.length i' || hasC L.cells i' j') = false
          have h1 : Nat.ble S.bx.length i' = false := by
            cases hh : Nat.ble S.bx.length i' with
            | false => rfl
            | true => have := Nat.le_of_ble_eq_true hh; omega
          rw [h1]
          simpa using hc)
        obtain ⟨_, _, c0, T0, k3, k4, k5, _⟩ := hW.boxes i' b _ hb (List.getElem?_eq_getElem hi1)
        rw [List.getElem?_eq_getElem hi1] at hx'
        obtain ⟨y, y1, y2⟩ := k5 j' x' hx'
        have : (zbAt w bs S.bx zb.bb).cell i' j' = some y := by simp [zbAt, Ax.cellV, hb, k3, y1]
        rw [this, Array.getElem?_eq_getElem hjc] at hkeep
        injection hkeep with hkeep
        rw [hkeep]
        exact y2
    · intro k q x' hq hx' e1 e2
      have := hvals k q x' hq hx'
      rw [e1, e2, hcv] at this
      exact this
  · show (Nat.ble S.bx.length i || _) = true
    rw [Nat.ble_eq_true_of_le (by rw [← hsame]; exact hi)]
    rfl
  · simp [zbAt, List.getElem?_eq_none (by rw [← hsame]; exact hi : S.bx.length ≤ i)]

/-- Out of a loop: what is promised outside it. -/
theorem WC.outer {w : World} (L : LS) (hW : WC ds p zb H0 w0 bs S.bx S.H w) (hok : allOkb p S.bx.length L.cells = true) {bs2 : List Nat} {bx2 : List (List AV)} {H2 : Heap} {w2 : World} (hp : bs <+: bs2)
    (h2 : WC ds (L.pro p S.bx.length) (zbAt w bs S.bx zb.bb) H0 w0 bs2 bx2 H2 w2) : WC ds p zb H0 w0 bs2 bx2 H2 w2 := by
  have hge : S.bx.length ≤ bx2.length := by rw [← hW.blen, ← h2.blen]; exact hp.length_le
  refine ⟨h2.blen, h2.nodup, fun i b cs hb hcs => ?_, fun i j hi => hW.okf i j (by omega), fun i hi => hW.lnf i (by omega), h2.keeps, h2.dq, h2.dn, h2.bk⟩
  obtain ⟨g1, g2, c, T, g3, g4, g5, g6, g7⟩ := h2.boxes i b cs hb hcs
  have old : i < S.bx.length → bs[i]? = some b := by
    intro hi
    obtain ⟨t, rfl⟩ := hp
    rwa [List.getElem?_append_left (by rw [hW.blen]; exact hi)] at hb
  refine ⟨g1, g2, c, T, g3, g4, g5, fun j hj hf => ?_, fun m hm => ?_⟩
  · have hi : i < S.bx.length := by
      rcases Nat.lt_or_ge i S.bx.length with h | h
      · exact h
      · rw [hW.okf i j h] at hf; cases hf
    have hnc : hasC L.cells i j = false := by
      cases hh : hasC L.cells i j with
      | false => rfl
      | true =>
        obtain ⟨q, q1, rfl, rfl⟩ := (hasC_iff _ _ _).1 hh
        rw [(allOkb_mem _ hok q q1).1] at hf
        cases hf
    have h1 : Nat.ble S.bx.length i = false := by
      cases hh : Nat.ble S.bx.length i with
      | false => rfl
      | true => have := Nat.le_of_ble_eq_true hh; omega
    have e := g6 j hj (by show (Nat.ble S.bx.length i || hasC L.cells i j) = false; rw [h1, hnc]; rfl)
    rw [e]
    have hb0 := old hi
    obtain ⟨_, _, c0, T0, k3, k4, k5, k6, k7⟩ := hW.boxes i b _ hb0 (List.getElem?_eq_getElem hi)
    have : (zbAt w bs S.bx zb.bb).cell i j = c0[j]? := by simp [zbAt, Ax.cellV, hb0, k3]
    rw [this]
    have hsz : c.size = (S.bx[i]).length := g7 _ (by simp [zbAt, hi])
    exact k6 j (by omega) hf
  · have hi : i < S.bx.length := by
      rcases Nat.lt_or_ge i S.bx.length with h | h
      · exact h
      · rw [hW.lnf i h] at hm; cases hm
    have hb0 := old hi
    obtain ⟨_, _, c0, T0, k3, k4, k5, k6, k7⟩ := hW.boxes i b _ hb0 (List.getElem?_eq_getElem hi)
    have hsz : c.size = (S.bx[i]).length := g7 _ (by simp [zbAt, hi])
    have := k7 m hm
    omega
end
end Go.Ax
