/- Ax, sixth part: how the worlds of a walk turn: new blocks, stores, calls. Conditions: those of each lemma. -/
import Derived.Test.YtanahoejlnmfiaaAxV
namespace Go.Ax
open Go.RowKit

theorem BRel.mono {bs bs' : List Nat} (h : bs <+: bs') {x : AV} {y : Value} (k : BRel bs x y) : BRel bs' x y := by
  have up : ∀ {i b : Nat}, bs[i]? = some b → bs'[i]? = some b := by
    intro i b hb
    obtain ⟨t, rfl⟩ := h
    rw [List.getElem?_append_left (by exact (List.getElem?_eq_some_iff.1 hb).1)]
    exact hb
  cases x with
  | loc i off => obtain ⟨b, hb, e⟩ := k; exact ⟨b, up hb, e⟩
  | lsl i off n c => obtain ⟨b, hb, e⟩ := k; exact ⟨b, up hb, e⟩
  | _ => exact k

theorem SRel.mono {bs bs' : List Nat} (h : bs <+: bs') {tm : Array Value} {ep : Nat} {x : AV} {y : Value} (k : SRel bs tm ep x y) : SRel bs' tm ep x y := by
  cases x with
  | ifs e s w x => exact fun he => ⟨fun hs => ((k he).1 hs).mono h, (k he).2⟩
  | v u => exact k
  | bl b => exact k
  | loc i off => exact BRel.mono (x := .loc i off) h k
  | lsl i off n c => exact BRel.mono (x := .lsl i off n c) h k
  | any => trivial

section
variable {ds : List Nat} {p : Pro} {z : Nat → Value} {zb : ZB} {H0 : Heap} {w0 : World} {bs : List Nat} {bx : List (List AV)} {H : Heap} {w : World}

theorem heap_lt {w : World} {b : Nat} {o : Obj} (h : w.heap[b]? = some o) : b < w.heap.size := (Array.getElem?_eq_some_iff.1 h).1

theorem WC.none_new (h : WC ds p zb H0 w0 bs bx H w) : H w.heap.size = none := by
  cases hH : H w.heap.size with
  | none => rfl
  | some o => have := heap_lt (h.keeps.holds _ _ hH); omega

theorem WC.bs_lt (h : WC ds p zb H0 w0 bs bx H w) {i b : Nat} (hb : bs[i]? = some b) : b < w.heap.size := by
  have hi : i < bx.length := by rw [← h.blen]; exact (List.getElem?_eq_some_iff.1 hb).1
  obtain ⟨_, _, c, T, h3, _⟩ := h.boxes i b _ hb (List.getElem?_eq_getElem hi)
  exact heap_lt h3

theorem WC.newPriv (h : WC ds p zb H0 w0 bs bx H w) (l : List AV) (c : Array Value) (T : TypeId) (hc : c.size = l.length) (hr : ∀ (j : Nat) x, l[j]? = some x → ∃ y, c[j]? = some y ∧ BRel bs x y) :
    WC ds p zb H0 w0 (bs ++ [w.heap.size]) (bx ++ [l]) H (w.alloc (.cells c T)) := by
  have hpre : bs <+: bs ++ [w.heap.size] := ⟨_, rfl⟩
  refine ⟨by simp [h.blen], ?_, ?_, fun i j hi => h.okf i j (by simp at hi; omega), fun i hi => h.lnf i (by simp at hi; omega), ?_, fun D hD => by
    obtain ⟨d1, d2, d3⟩ := h.dq D hD
    exact ⟨d1, d2, (Below.heap_alloc w _ D (heap_lt d3)).trans d3⟩, h.dn, h.bk⟩
  · rw [List.nodup_append]
    refine ⟨h.nodup, by simp, fun a ha b hb => ?_⟩
    simp at hb
    subst hb
    obtain ⟨i, hi, rfl⟩ := List.mem_iff_getElem.1 ha
    have := h.bs_lt (List.getElem?_eq_getElem hi)
    omega
  · intro i b cs hb hcs
    by_cases hi : i < bs.length
    · rw [List.getElem?_append_left hi] at hb
      rw [List.getElem?_append_left (by rw [← h.blen]; exact hi)] at hcs
      obtain ⟨h1, h2, c', T', h3, h4, h5, h6⟩ := h.boxes i b cs hb hcs
      exact ⟨h1, h2, c', T', (Below.heap_alloc w _ b (heap_lt h3)).trans h3, h4, fun j x hx => let ⟨y, a1, a2⟩ := h5 j x hx; ⟨y, a1, a2.mono hpre⟩, h6⟩
    · have e1 : i = bs.length := by
        have := (List.getElem?_eq_some_iff.1 hb).1
        simp at this
        omega
      subst e1
      rw [List.getElem?_append_right (Nat.le_refl _)] at hb
      rw [List.getElem?_append_right (by rw [h.blen]; exact Nat.le_refl _)] at hcs
      simp [h.blen] at hb hcs
      subst hb; subst hcs
      refine ⟨.inl h.keeps.size, h.none_new, c, T, heap_alloc_new w _, hc, fun j x hx => let ⟨y, a1, a2⟩ := hr j x hx; ⟨y, a1, a2.mono hpre⟩, fun j _ hj => ?_, fun m hm => ?_⟩
      · rw [h.okf _ _ (by rw [h.blen]; exact Nat.le_refl _)] at hj
        cases hj
      · rw [h.lnf _ (by rw [h.blen]; exact Nat.le_refl _)] at hm
        cases hm
  · refine ⟨fun b o e => (Below.heap_alloc w _ b (heap_lt (h.keeps.holds b o e))).trans (h.keeps.holds b o e), fun b hb e => ?_, Nat.le_trans h.keeps.size (by simp), h.keeps.tape, h.keeps.os, h.keeps.output⟩
    obtain ⟨a1, a2⟩ := h.keeps.old b hb e
    exact ⟨(Below.heap_alloc w _ b (Nat.lt_of_lt_of_le hb h.keeps.size)).trans a1, a2⟩

theorem WC.newPub (h : WC ds p zb H0 w0 bs bx H w) (o : Obj) : WC ds p zb H0 w0 bs bx (H.upd w.heap.size o) (w.alloc o) := by
  refine ⟨h.blen, h.nodup, fun i b cs hb hcs => ?_, h.okf, h.lnf, ?_, fun D hD => by
    obtain ⟨d1, d2, d3⟩ := h.dq D hD
    have hlt := heap_lt d3
    exact ⟨d1, by rw [Heap.upd_other (by omega)]; exact d2, (Below.heap_alloc w _ D hlt).trans d3⟩, h.dn, h.bk⟩
  · obtain ⟨h1, h2, c', T', h3, h4⟩ := h.boxes i b cs hb hcs
    have hlt := heap_lt h3
    exact ⟨h1, by rw [Heap.upd_other (by omega)]; exact h2, c', T', (Below.heap_alloc w _ b hlt).trans h3, h4⟩
  · refine ⟨fun b o' e => ?_, fun b hb e => ?_, Nat.le_trans h.keeps.size (by simp), h.keeps.tape, h.keeps.os, h.keeps.output⟩
    · by_cases hb : b = w.heap.size
      · subst hb; rw [Heap.upd_same] at e; injection e with e; subst e; exact heap_alloc_new w _
      · rw [Heap.upd_other hb] at e
        have := h.keeps.holds b o' e
        exact (Below.heap_alloc w _ b (heap_lt this)).trans this
    · obtain ⟨a1, a2⟩ := h.keeps.old b hb e
      have hlt := Nat.lt_of_lt_of_le hb h.keeps.size
      exact ⟨(Below.heap_alloc w _ b hlt).trans a1, by rw [Heap.upd_other (by omega)]; exact a2⟩

theorem WC.setPub (h : WC ds p zb H0 w0 bs bx H w) {b : Nat} {c : Array Value} {T : TypeId} (hb : H b = some (.cells c T (0, 0))) (c' : Array Value) :
    WC ds p zb H0 w0 bs bx (H.upd b (.cells c' T (0, 0))) (w.setRow b c') := by
  have hw := h.keeps.holds _ _ hb
  refine ⟨h.blen, h.nodup, fun i b' cs hb' hcs => ?_, h.okf, h.lnf, ?_, fun D hD => by
    obtain ⟨d1, d2, d3⟩ := h.dq D hD
    have hne : D ≠ b := fun e => by subst e; rw [hb] at d2; cases d2
    exact ⟨d1, by rw [Heap.upd_other hne]; exact d2, (setRow_other w b D c' hne).trans d3⟩, h.dn, h.bk⟩
  · obtain ⟨h1, h2, c1, T1, h3, h4⟩ := h.boxes i b' cs hb' hcs
    have hne : b' ≠ b := fun e => by subst e; rw [hb] at h2; cases h2
    exact ⟨h1, by rw [Heap.upd_other hne]; exact h2, c1, T1, (setRow_other w b b' c' hne).trans h3, h4⟩
  · refine ⟨fun b' o' e => ?_, fun b' hb' e => ?_, by simpa using h.keeps.size, h.keeps.tape, h.keeps.os, h.keeps.output⟩
    · by_cases hbb : b' = b
      · subst hbb; rw [Heap.upd_same] at e; injection e with e; subst e; exact setRow_heap w b' c c' T _ hw
      · rw [Heap.upd_other hbb] at e
        exact (setRow_other w b b' c' hbb).trans (h.keeps.holds b' o' e)
    · obtain ⟨a1, a2⟩ := h.keeps.old b' hb' e
      have hne : b' ≠ b := fun e' => by subst e'; rw [hb] at a2; cases a2
      exact ⟨(setRow_other w b b' c' hne).trans a1, by rw [Heap.upd_other hne]; exact a2⟩

theorem nodup_get {l : List Nat} (h : l.Nodup) {i j b : Nat} (hi : l[i]? = some b) (hj : l[j]? = some b) : i = j := by
  obtain ⟨h1, e1⟩ := List.getElem?_eq_some_iff.1 hi
  obtain ⟨h2, e2⟩ := List.getElem?_eq_some_iff.1 hj
  exact (List.getElem_inj h).1 (e1.trans e2.symm)

theorem WC.setPriv (h : WC ds p zb H0 w0 bs bx H w) {i b : Nat} {old : List AV} {c : Array Value} {T : TypeId} (hb : bs[i]? = some b) (ho : bx[i]? = some old) (hc : w.heap[b]? = some (.cells c T (0, 0)))
    {l : List AV} {c' : Array Value} (hl : c'.size = l.length) (hs : c'.size = c.size) (hr : ∀ (j : Nat) x, l[j]? = some x → ∃ y, c'[j]? = some y ∧ BRel bs x y) (hok : ∀ j, p.okb i j = false → c'[j]? = c[j]?) :
    WC ds p zb H0 w0 bs (bx.set i l) H (w.setRow b c') := by
  obtain ⟨g1, g2, c1, T1, g3, g4, g5, g6⟩ := h.boxes i b old hb ho
  rw [hc] at g3
  injection g3 with g3
  injection g3 with g31 g32
  subst g31; subst g32
  refine ⟨by simp [h.blen], h.nodup, fun i' b' cs hb' hcs => ?_, fun i' j hi => h.okf i' j (by simpa using hi), fun i' hi => h.lnf i' (by simpa using hi), ?_, fun D hD => by
    obtain ⟨d1, d2, d3⟩ := h.dq D hD
    have hne : D ≠ b := fun e => by subst e; rw [hc] at d3; cases d3
    exact ⟨d1, d2, (setRow_other w b D c' hne).trans d3⟩, h.dn, h.bk⟩
  · by_cases hi : i' = i
    · subst hi
      rw [hb] at hb'
      injection hb' with hb'
      subst hb'
      have hlt := (List.getElem?_eq_some_iff.1 ho).1
      rw [List.getElem?_set_self hlt] at hcs
      injection hcs with hcs
      subst hcs
      exact ⟨g1, g2, c', T, setRow_heap w b c c' T _ hc, hl, hr, fun j hj hf => (hok j hf).trans (g6.1 j (by omega) hf), fun m hm => hs.trans (g6.2 m hm)⟩
    · rw [List.getElem?_set_ne (Ne.symm hi)] at hcs
      obtain ⟨h1, h2, c1, T1, h3, h4⟩ := h.boxes i' b' cs hb' hcs
      have hne : b' ≠ b := fun e => hi (by subst e; exact nodup_get h.nodup hb' hb)
      exact ⟨h1, h2, c1, T1, (setRow_other w b b' c' hne).trans h3, h4⟩
  · refine ⟨fun b' o' e => ?_, fun b' hb' e => ?_, by simpa using h.keeps.size, h.keeps.tape, h.keeps.os, h.keeps.output⟩
    · have hne : b' ≠ b := fun e' => by subst e'; rw [g2] at e; cases e
      exact (setRow_other w b b' c' hne).trans (h.keeps.holds b' o' e)
    · obtain ⟨a1, a2⟩ := h.keeps.old b' hb' e
      have hne : b' ≠ b := by
        rcases g1 with g1 | g1
        · omega
        · intro e'; subst e'; have := h.bk _ g1; rw [e] at this; cases this
      exact ⟨(setRow_other w b b' c' hne).trans a1, a2⟩

theorem WC.call {w' : World} {H' : Heap} (h : WC ds p zb H0 w0 bs bx H w) (k : Keeps H w H' w') : WC ds p zb H0 w0 bs bx H' w' := by
  refine ⟨h.blen, h.nodup, fun i b cs hb hc => ?_, h.okf, h.lnf, h.keeps.trans k, fun D hD => by
    obtain ⟨d1, d2, d3⟩ := h.dq D hD
    obtain ⟨a1, a2⟩ := k.old D (heap_lt d3) d2
    exact ⟨d1, a2, a1.trans d3⟩, h.dn, h.bk⟩
  obtain ⟨h1, h2, c, T, h3, h4⟩ := h.boxes i b cs hb hc
  obtain ⟨a1, a2⟩ := k.old b (heap_lt h3) h2
  exact ⟨h1, a2, c, T, a1.trans h3, h4⟩

theorem WC.drew (h : WC ds p zb H0 w0 bs bx H w) : WC ds p zb H0 w0 bs bx H w.drew :=
  ⟨h.blen, h.nodup, h.boxes, h.okf, h.lnf, ⟨h.keeps.holds, h.keeps.old, h.keeps.size, h.keeps.tape, h.keeps.os, h.keeps.output⟩, h.dq, h.dn, h.bk⟩

theorem FC.mono {bs' : List Nat} {S S' : AS} {a : Act} (hF : FC ds p z bs S a) (hp : bs <+: bs') (h1 : S'.fr = S.fr) (h2 : S'.ep = S.ep) (h3 : S'.gs = S.gs) : FC ds p z bs' S' a :=
  ⟨hF.size, hF.defers, fun t => by rw [h1, h2]; exact (hF.slots t).mono hp, fun t e s w x hx => by rw [h2, h3]; exact hF.eps t e s w x (by rw [← h1]; exact hx), hF.zs, hF.okn⟩

theorem oneA_cell {bs : List Nat} {x : AV} {y : Value} (h : oneA x = true) (hy : BRel bs x y) : y.oneCell' = true := by
  cases x with
  | v u =>
    have hy : y = u := hy
    subst hy
    cases y <;> simp [oneA, one, Value.oneCell'] at h ⊢
  | bl b => have hy : y = .bool b := hy; subst hy; rfl
  | loc i off => obtain ⟨b, _, rfl⟩ := hy; rfl
  | lsl i off n c => obtain ⟨b, _, rfl⟩ := hy; rfl
  | ifs => simp [oneA] at h
  | any => simp [oneA] at h

theorem one_cell {y : Value} (h : one y = true) : y.oneCell' = true := by
  cases y <;> simp [one, Value.oneCell'] at h ⊢

theorem allOneA_mem : ∀ (l : List AV), allOneA l = true → ∀ x ∈ l, oneA x = true
  | [], _, x, hx => by cases hx
  | y :: l, h, x, hx => by
    simp only [allOneA, Bool.and_eq_true] at h
    rcases List.mem_cons.1 hx with rfl | hx
    · exact h.1
    · exact allOneA_mem l h.2 x hx
theorem allOne_mem : ∀ (l : List Value), allOne l = true → ∀ x ∈ l, one x = true
  | [], _, x, hx => by cases hx
  | y :: l, h, x, hx => by
    simp only [allOne, Bool.and_eq_true] at h
    rcases List.mem_cons.1 hx with rfl | hx
    · exact h.1
    · exact allOne_mem l h.2 x hx

/-- The cells of a value and their forms. -/
theorem cellsA_sound {bs : List Nat} {x : AV} {y : Value} {l : List AV} (h : cellsA x = some l) (hy : BRel bs x y) : y.cells.size = l.length ∧ ∀ (j : Nat) u, l[j]? = some u → ∃ v, y.cells[j]? = some v ∧ BRel bs u v := by
  have single : ∀ (av : AV) (v : Value), BRel bs av v → (∀ cs, v ≠ .agg cs) → v.cells.size = [av].length ∧ ∀ (j : Nat) u, [av][j]? = some u → ∃ v', v.cells[j]? = some v' ∧ BRel bs u v' := by
    intro av v hv hn
    have hc : v.cells = #[v] := by cases v <;> first | rfl | exact absurd rfl (hn _)
    rw [hc]
    refine ⟨rfl, fun j u hu => ?_⟩
    cases j with
    | zero => simp at hu; subst hu; exact ⟨v, rfl, hv⟩
    | succ j => simp at hu
  cases x with
  | v u =>
    have hy' : y = u := hy
    subst hy'
    by_cases hag : ∃ cs, y = .agg cs
    · obtain ⟨cs, rfl⟩ := hag
      simp only [cellsA, Option.some.injEq] at h
      subst h
      refine ⟨by simp [Value.cells], fun j u hu => ?_⟩
      simp only [List.getElem?_map, Option.map_eq_some_iff] at hu
      obtain ⟨v, hv, rfl⟩ := hu
      exact ⟨v, by simpa [Value.cells] using hv, rfl⟩
    · have hn : ∀ cs, y ≠ .agg cs := fun cs e => hag ⟨cs, e⟩
      have hl : cellsA (.v y) = some [.v y] := by cases y <;> first | rfl | exact absurd rfl (hn _)
      rw [hl] at h
      injection h with h
      subst h
      exact single _ _ hy hn
  | bl b => have e : y = .bool b := hy; simp only [cellsA, Option.some.injEq] at h; subst h; exact single _ _ hy (by subst e; intro cs h; cases h)
  | loc i off =>
    simp only [cellsA, Option.some.injEq] at h
    subst h
    exact single _ _ hy (by obtain ⟨b, _, rfl⟩ := hy; intro cs h; cases h)
  | lsl i off n c =>
    simp only [cellsA, Option.some.injEq] at h
    subst h
    exact single _ _ hy (by obtain ⟨b, _, rfl⟩ := hy; intro cs h; cases h)
  | ifs => simp [cellsA] at h
  | any => simp [cellsA] at h
end
end Go.Ax
