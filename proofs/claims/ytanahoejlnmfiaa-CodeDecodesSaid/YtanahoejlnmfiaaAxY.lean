/- Ax, eighth part: 'effA' is sound. Conditions: those of each lemma. -/
import Derived.Test.YtanahoejlnmfiaaAxX
namespace Go.Ax
open Go.RowKit

section
variable {C : Cx} {ds : List Nat} {p : Pro} {z : Nat → Value} {zb : ZB} {H0 : Heap} {w0 : World} {bs : List Nat} {S : AS} {a : Act} {Q : Exit → Act → World → Prop}

/-- What stands behind an operation that turns memory. -/
def Goes (ds : List Nat) (p : Pro) (zb : ZB) (H0 : Heap) (w0 : World) (bs : List Nat) (S : AS) (K : AV → AS → Prop) (v : Value) (w' : World) : Prop :=
  ∃ x S' bs', bs <+: bs' ∧ S'.fr = S.fr ∧ S'.ep = S.ep ∧ S'.gs = S.gs ∧ BRel bs' x v ∧ WC ds p zb H0 w0 bs' S'.bx S'.H w' ∧ K x S'

theorem Goes.mk {K : AV → AS → Prop} {v : Value} {w' : World} (x : AV) (S' : AS) (bs' : List Nat) (hk : K x S') (hp : bs <+: bs') (h1 : S'.fr = S.fr) (h2 : S'.ep = S.ep) (h3 : S'.gs = S.gs) (hb : BRel bs' x v) (hw : WC ds p zb H0 w0 bs' S'.bx S'.H w') :
    Goes ds p zb H0 w0 bs S K v w' := ⟨x, S', bs', hp, h1, h2, h3, hb, hw, hk⟩

theorem allVals_cells {l : List AV} {vs : List Value} (h : allVals l = some vs) {c : Array Value} (hc : c.size = l.length) (hr : ∀ (j : Nat) x, l[j]? = some x → ∃ y, c[j]? = some y ∧ BRel bs x y) : c = ⟨vs⟩ := by
  obtain ⟨h1, h2⟩ := allVals_get l vs h
  apply Array.ext'
  apply List.ext_getElem?
  intro j
  by_cases hj : j < l.length
  · obtain ⟨y, a1, a2⟩ := hr j _ (List.getElem?_eq_getElem hj)
    have := h2 bs j _ y (List.getElem?_eq_getElem hj) a2
    rw [Array.getElem?_toList, a1]
    exact this.symm
  · rw [List.getElem?_eq_none (by simpa [hc] using Nat.le_of_not_lt hj), List.getElem?_eq_none (by simp [h1]; omega)]

theorem hup_get {H : Heap} {b : Nat} {o : Obj} {k : Heap → Prop} (h : hup C H b o k) : k (H.upd b o) := by
  unfold hup at h
  split at h
  · exact h _ rfl
  · exact h
theorem hup_mono {H : Heap} {b : Nat} {o : Obj} {k k' : Heap → Prop} (m : ∀ H, k H → k' H) (h : hup C H b o k) : hup C H b o k' := by
  unfold hup at h ⊢
  split
  · rename_i e; rw [e] at h; exact fun H1 e1 => m _ (h H1 e1)
  · rename_i e; rw [e] at h; exact m _ h
theorem newBox_sound {w : World} (hW : WC ds p zb H0 w0 bs S.bx S.H w) {d t : Nat} {l : List AV} {c : Array Value} (hc : c.size = l.length) (hr : ∀ (j : Nat) x, l[j]? = some x → ∃ y, c[j]? = some y ∧ BRel bs x y) {K : AV → AS → Prop}
    (h : newBox C S d t l K) : Goes ds p zb H0 w0 bs S K (.pointer (some ⟨w.heap.size, 0, none⟩)) (w.alloc (.cells c t)) := by
  unfold newBox at h
  split at h
  · split at h
    · rename_i vs hvs
      have hcv := allVals_cells hvs hc hr
      subst hcv
      exact .mk _ _ bs (hup_get (h w.heap.size hW.none_new)) List.prefix_rfl rfl rfl rfl rfl (hW.newPub _)
    · exact h.elim
  · refine .mk _ _ (bs ++ [w.heap.size]) h ⟨_, rfl⟩ rfl rfl rfl ⟨w.heap.size, ?_, rfl⟩ (hW.newPriv l c t hc hr)
    rw [← hW.blen]
    simp

theorem okCells_get {i off : Nat} : ∀ (n : Nat), okCells p i off n = true → ∀ j, j < n → p.okb i (off + j) = true
  | 0, _, j, hj => by omega
  | n + 1, h, j, hj => by
    simp only [okCells, Bool.and_eq_true] at h
    by_cases e : j = n
    · subst e; exact h.1
    · exact okCells_get n h.2 j (by omega)

theorem get_splice {α : Type} (l m : List α) (off j : Nat) (h : off + m.length ≤ l.length) : (l.take off ++ m ++ l.drop (off + m.length))[j]? = if off ≤ j ∧ j < off + m.length then m[j - off]? else l[j]? := by
  have hto : (l.take off).length = off := by simp; omega
  by_cases h1 : j < off
  · rw [List.append_assoc, List.getElem?_append_left (by omega), List.getElem?_take, if_pos h1, if_neg (by omega)]
  · by_cases h2 : j < off + m.length
    · rw [List.append_assoc, List.getElem?_append_right (by omega), hto, List.getElem?_append_left (by omega), if_pos ⟨by omega, h2⟩]
    · rw [List.getElem?_append_right (by simp; omega), if_neg (by omega)]
      simp only [List.length_append, hto, List.getElem?_drop]
      congr 1
      omega

theorem storeA_sound {w : World} (hW : WC ds p zb H0 w0 bs S.bx S.H w) {t : TypeId} {x y : AV} {vx vy : Value} (hx : BRel bs x vx) (hy : BRel bs y vy) {K : AV → AS → Prop} (h : storeA C p S t x y K) :
    ∃ w', (Instr.storeAt t vx vy).run C.P w = .ok () w' ∧ Goes ds p zb H0 w0 bs S K undef w' := by
  unfold storeA at h
  split at h
  · rename_i l hl hi
    obtain ⟨c1, c2⟩ := cellsA_sound hl hy
    split at h
    · rename_i hsz hone
      have hsz := Nat.eq_of_beq_eq_true hsz
      have hones : ∀ v ∈ vy.cells.toList, v.oneCell' = true := by
        intro v hv
        obtain ⟨j, hj, rfl⟩ := List.mem_iff_getElem.1 hv
        have hj' : j < l.length := by rw [← c1]; simpa using hj
        obtain ⟨u, u1, u2⟩ := c2 j _ (List.getElem?_eq_getElem hj')
        have : vy.cells.toList[j] = u := by
          rw [← Array.getElem?_toList, List.getElem?_eq_getElem hj] at u1
          exact Option.some.inj u1
        rw [this]
        exact oneA_cell (allOneA_mem _ hone _ (List.getElem_mem hj')) u2
      have hsize : vy.cells.toList.length = l.length := by simpa using c1
      have hst : ∀ (b off : Nat) (cur : Array Value) (T : TypeId), w.heap[b]? = some (.cells cur T (0, 0)) → off + l.length ≤ cur.size →
          (storeVar t ⟨b, off, none⟩ vy).run C.P w = .ok () (w.setRow b (splice cur off vy.cells.toList)) := by
        intro b off cur T hb hroom
        have e := run_storeCells_at (P := C.P) b off T vy.cells.toList 0 cur w hb (by omega) hones
        have e2 : (cur.toList.take (off + 0) ++ vy.cells.toList ++ cur.toList.drop (off + 0 + vy.cells.toList.length)).toArray = splice cur off vy.cells.toList := rfl
        rw [e2] at e
        have hs := size_run hi w
        simp only [storeVar, Sem.run_bind, hs, Result.andThen_ok]
        rw [if_neg (by rw [c1, hsz]; simp)]
        exact e
      split at h
      · rename_i i off
        obtain ⟨b, hb, rfl⟩ := hx
        split at h
        · rename_i old ho
          split at h
          · rename_i h1 h2
            have h1 := Nat.le_of_ble_eq_true h1
            obtain ⟨_, _, cur, T, g3, g4, g5, _⟩ := hW.boxes i b old hb ho
            have hspl : ∀ (j : Nat), (splice cur off vy.cells.toList)[j]? = if off ≤ j ∧ j < off + l.length then vy.cells[j - off]? else cur[j]? := by
              intro j
              have := get_splice cur.toList vy.cells.toList off j (by rw [hsize]; simpa [g4] using h1)
              simpa [splice, hsize] using this
            have hsplL : ∀ (j : Nat), (spliceL old off l)[j]? = if off ≤ j ∧ j < off + l.length then l[j - off]? else old[j]? := fun j => get_splice old l off j h1
            have hlen : (splice cur off vy.cells.toList).size = cur.size := by simp [splice, hsize]; omega
            have hlenL : (spliceL old off l).length = old.length := by simp [spliceL]; omega
            refine ⟨_, by simp only [Instr.storeAt, Instr.sureAddr, Sem.run_bind, Sem.run_pure, Result.andThen_ok]; exact hst b off cur T g3 (by omega), .mk _ _ bs h List.prefix_rfl rfl rfl rfl rfl
              (hW.setPriv hb ho g3 (by rw [hlen, hlenL, g4]) hlen (fun j u hu => ?_) (fun j hj => ?_))⟩
            · rw [hspl]
              rw [hsplL] at hu
              split
              · rename_i hc
                rw [if_pos hc] at hu
                exact c2 _ u hu
              · rename_i hc
                rw [if_neg hc] at hu
                exact g5 j u hu
            · rw [hspl, if_neg]
              rintro ⟨a1, a2⟩
              have := okCells_get l.length h2 (j - off) (by omega)
              rw [show off + (j - off) = j by omega, hj] at this
              cases this
          · exact h.elim
        · exact h.elim
      · rename_i q
        have hx : vx = .pointer (some q) := hx
        subst hx
        split at h
        · rename_i vs hvs
          obtain ⟨cur, T, k1, k2, k3, k4⟩ := h
          obtain ⟨b, off, sp⟩ := q
          simp only at k1 k2 k3 k4
          subst k2
          have hcv := allVals_cells hvs c1 c2
          have hlv : vs.length = l.length := (allVals_get _ _ hvs).1
          have htl : vy.cells.toList = vs := by rw [hcv]
          have := hst b off cur T (hW.keeps.holds _ _ k1) (by omega)
          rw [htl] at this
          exact ⟨_, by simp only [Instr.storeAt, Instr.sureAddr, Sem.run_bind, Sem.run_pure, Result.andThen_ok]; exact this, .mk _ _ bs (hup_get k4) List.prefix_rfl rfl rfl rfl rfl (hW.setPub k1 _)⟩
        · exact h.elim
      · exact h.elim
    · exact h.elim
  · exact h.elim

theorem buildSlice_run {P : Program} {t e : TypeId} {i : TypeInfo} {n : Nat} {l : List (Nat × Value)} {cs : Array Value} (ht : P.underlying t = some (.slice e)) (hi : P.info? e = some i) (h : builtSlice i n l = some cs) (w : World) :
    (Instr.buildSlice t n l.toArray).run P w = .ok (.slice (some ⟨w.heap.size, 0, none⟩) n n) (w.alloc (.cells cs e)) := by
  unfold builtSlice at h
  split at h
  · rename_i zv hz
    split at h
    · rename_i h1 h2
      have h1 := Nat.le_of_ble_eq_true h1
      have h1' : ¬ (n * i.size > 2 ^ 24) := by omega
      have h2 : n * i.size ≠ 0 := fun e => by rw [e] at h2; cases h2
      have hs : (sizeOf e).run P w = .ok i.size w := by simp [sizeOf, typeInfo, hi]
      have hzr : (zeroValue e).run P w = .ok zv w := by simp [zeroValue, typeInfo, hi, hz]
      simp only [Instr.buildSlice, Sem.run_bind, run_underlying ht, Result.andThen_ok, hs, if_neg h1', if_neg h2, hzr, Sem.run_pure]
      simp only [h, Sem.run_bind, newRow_run, Result.andThen_ok, Sem.run_pure]
    · cases h
  · cases h

theorem appA_sound {w : World} (hW : WC ds p zb H0 w0 bs S.bx S.H w) {t u ty : TypeId} {s x : AV} {vs vx : Value} (hs : BRel bs s vs) (hx : BRel bs x vx) {K : AV → AS → Prop} (h : appA C S t u s x K) :
    ∃ v w', (Builtin.append_ #[t, u] ty #[vs, vx]).run C.P w = .ok v w' ∧ Goes ds p zb H0 w0 bs S K v w' := by
  unfold appA at h
  split at h
  · rename_i e ht
    split at h
    · rename_i i hi
      split at h
      · rename_i zv hz
        split at h
        · rename_i A n c hzs
          have hzs := Nat.eq_of_beq_eq_true hzs
          have hs : vs = .slice A n c := hs
          subst hs
          have fin : ∀ {A' : Option Addr} {n' c' : Nat} {H' : Heap} {w' : World}, K (.v (.slice A' n' c')) { S with H := H' } →
              ((H' = S.H ∧ w' = w) ∨ (∃ b cur T cs, S.H b = some (.cells cur T (0, 0)) ∧ H' = S.H.upd b (.cells cs T (0, 0)) ∧ w' = w.setRow b cs) ∨ (∃ o, H' = S.H.upd w.heap.size o ∧ w' = w.drew.alloc o)) →
              Goes ds p zb H0 w0 bs S K (.slice A' n' c') w' := by
            intro A' n' c' H' w' hk hcase
            rcases hcase with ⟨rfl, rfl⟩ | ⟨b, cur, T, cs, hb, rfl, rfl⟩ | ⟨o, rfl, rfl⟩
            · exact .mk _ _ bs hk List.prefix_rfl rfl rfl rfl rfl hW
            · exact .mk _ _ bs hk List.prefix_rfl rfl rfl rfl rfl (hW.setPub hb cs)
            · exact .mk _ _ bs hk List.prefix_rfl rfl rfl rfl rfl (hW.drew.newPub o)
          split at h
          · rename_i b off m c1
            obtain ⟨bb, hbb, rfl⟩ := hx
            split at h
            · rename_i l hl htu
              have htu := Nat.eq_of_beq_eq_true htu
              subst htu
              split at h
              · rename_i new h1 h2
                have h1 := Nat.le_of_ble_eq_true h1
                obtain ⟨cur, T, d1, d2, d3⟩ := hW.cell hbb hl
                have htl : (takeA off (m * i.size) l).length = m * i.size := by simp [takeA]; omega
                obtain ⟨e1, e2⟩ := allVals_get _ _ h2
                have hcells : ∀ (j : Nat) v, new[j]? = some v → cur[off + j]? = some v := by
                  intro j v hv
                  have hj : j < (takeA off (m * i.size) l).length := by
                    rcases Nat.lt_or_ge j new.length with hh | hh
                    · omega
                    · rw [List.getElem?_eq_none hh] at hv; cases hv
                  have up : ∀ u, (takeA off (m * i.size) l)[j]? = some u → l[off + j]? = some u := by
                    intro u hu
                    simp only [takeA, List.getElem?_take] at hu
                    split at hu
                    · simpa using hu
                    · cases hu
                  have hu := up _ (List.getElem?_eq_getElem hj)
                  obtain ⟨y, y1, y2⟩ := d3 _ _ hu
                  rw [y1, ← e2 bs j _ y (List.getElem?_eq_getElem hj) y2, hv]
                obtain ⟨A', n', c', H', w', r1, r2, r3⟩ := appC_run (P := C.P) (ty := ty) (x := .slice (some ⟨bb, off, none⟩) m c1) ht ht rfl hi hz hzs h hW.keeps.holds hW.none_new (fun w => by simp [Builtin.lenOf]) (fun w' hw' =>
                  first_sl w' i.size m _ m c1 new (by omega) (.inr ⟨_, rfl, fun j v hv => by
                    have hb' : w'.heap[bb]? = some (.cells cur T (0, 0)) := by rw [hw']; exact d1
                    rw [cell_of_block hb']; exact hcells j v hv⟩))
                exact ⟨_, w', r1, fin r2 r3⟩
              · exact h.elim
            · exact h.elim
          · rename_i B m c1
            have hx : vx = .slice B m c1 := hx
            subst hx
            split at h
            · rename_i htu
              have htu := Nat.eq_of_beq_eq_true htu
              subst htu
              obtain ⟨new, n1, n2, n3⟩ := h.out
              obtain ⟨A', n', c', H', w', r1, r2, r3⟩ := appC_run (P := C.P) (ty := ty) (x := .slice B m c1) ht ht rfl hi hz hzs n3 hW.keeps.holds hW.none_new (fun w => by simp [Builtin.lenOf]) (fun w' hw' =>
                first_sl w' i.size m B m c1 new n2 (n1.imp id fun ⟨ad, e, k⟩ => ⟨ad, e, k.cell (fun b o hb => by rw [hw']; exact hW.keeps.holds b o hb)⟩))
              exact ⟨_, w', r1, fin r2 r3⟩
            · exact h.elim
          · rename_i str
            have hx : vx = .string str := hx
            subst hx
            split at h
            · rename_i hu h1
              have h1 := Nat.eq_of_beq_eq_true h1
              have h' : appC e i.size i.bytes S.H A n c (byteVals str) str.size fun A' n' c' H' => K (.v (.slice A' n' c')) { S with H := H' } := by rw [h1]; exact h
              obtain ⟨A', n', c', H', w', r1, r2, r3⟩ := appC_run (P := C.P) (ty := ty) (x := .string str) ht hu rfl hi hz hzs h' hW.keeps.holds hW.none_new (fun w => by simp [Builtin.lenOf]) (fun w' hw' => by
                rw [h1]; exact first_str w' str)
              exact ⟨_, w', r1, fin r2 r3⟩
            · exact h.elim
          · exact h.elim
        · exact h.elim
      · exact h.elim
    · exact h.elim
  · exact h.elim

theorem effA_sound (hF : FC ds p z bs S a) {w : World} (hW : WC ds p zb H0 w0 bs S.bx S.H w) {o : Oper} {K : AV → AS → Prop} (h : effA C p S o K) {next : Act → World → Prop}
    (hn : ∀ v w', Goes ds p zb H0 w0 bs S K v w' → next (a.put o.dst v) w') : o.wp C.P a w next Q := by
  have ev := evA_sound (anc := []) hF (by simp)
  obtain ⟨dst, op, type, pos, after, guard⟩ := o
  simp only at hn
  have val : ∀ {s : Sem Value} {v : Value} {w' : World}, execOp a.eval ⟨dst, op, type, pos, after, guard⟩ = (do pure (.value (← s))) → s.run C.P w = .ok v w' → Goes ds p zb H0 w0 bs S K v w' →
      Oper.wp C.P ⟨dst, op, type, pos, after, guard⟩ a w next Q := by
    intro s v w' he hr hg
    unfold Oper.wp
    rw [he]
    simp only [Sem.run_bind, hr, Result.andThen_ok, Sem.run_pure]
    exact hn v w' hg
  have sem : ∀ {t : TypeId} {s : Sem Value} {K : AV → AS → Prop}, semE C S t s K → ∃ v w', s.run C.P w = .ok v w' ∧ Goes ds p zb H0 w0 bs S K v w' := by
    intro t s K h
    unfold semE at h
    split at h
    · obtain ⟨v, H', w', hr, hk, hv⟩ := h.run w hW.keeps.holds
      obtain ⟨r, rfl, hK⟩ := (exV_iff _ _).1 hv
      exact ⟨_, w', hr, .mk _ _ bs hK List.prefix_rfl rfl rfl rfl rfl (hW.call hk)⟩
    · exact h.elim
  have valU : ∀ {s : Sem Unit} {w' : World}, execOp a.eval ⟨dst, op, type, pos, after, guard⟩ = (do s; pure .skip) → s.run C.P w = .ok () w' → Goes ds p zb H0 w0 bs S K undef w' →
      Oper.wp C.P ⟨dst, op, type, pos, after, guard⟩ a w next Q := by
    intro s w' he hr hg
    unfold Oper.wp
    rw [he]
    simp only [Sem.run_bind, hr, Result.andThen_ok, Sem.run_pure]
    exact hn undef w' hg
  have semUs : ∀ {s : Sem Unit} {K : AV → AS → Prop}, semU C S s K → ∃ w', s.run C.P w = .ok () w' ∧ Goes ds p zb H0 w0 bs S K undef w' := by
    intro s K h
    obtain ⟨v, H', w', hr, hk, hv⟩ := Sm.run h w hW.keeps.holds
    simp only [updU, Sem.run_bind] at hr
    cases hs : s.run C.P w with
    | halt x w2 => rw [hs] at hr; simp [Result.andThen] at hr
    | ok u w2 =>
      rw [hs] at hr
      simp only [Result.andThen_ok, Sem.run_pure, Result.ok.injEq] at hr
      obtain ⟨-, rfl⟩ := hr
      exact ⟨w2, rfl, .mk _ _ bs hv List.prefix_rfl rfl rfl rfl rfl (hW.call hk)⟩
  unfold effA at h
  split at h
  · rename_i t heq
    simp only at heq; subst heq
    exact val (s := Instr.makeMap t none) rfl rfl (.mk _ _ bs (hup_get (h w.heap.size hW.none_new)) List.prefix_rfl rfl rfl rfl rfl (hW.newPub _))
  · rename_i t n c heq
    simp only at heq; subst heq
    split at h
    · rename_i vn vc hn' hc'
      have e1 := ev n; rw [hn'] at e1
      have e2 := ev c; rw [hc'] at e2
      obtain ⟨v, w', r1, r2⟩ := sem h
      exact val (s := Instr.makeSlice t vn vc) (by show _ = _; rw [← (show a.eval n = vn from e1), ← (show a.eval c = vc from e2)]; rfl) r1 r2
    · exact h.elim
  · rename_i t x i ok heq
    simp only at heq; subst heq
    split at h
    · rename_i vx vi hx hi
      have e1 := ev x; rw [hx] at e1
      have e2 := ev i; rw [hi] at e2
      obtain ⟨v, w', r1, r2⟩ := sem h
      exact val (s := Instr.lookup t vx vi false) (by rw [← (show a.eval x = vx from e1), ← (show a.eval i = vi from e2)]; rfl) r1 r2
    · exact h.elim
  · rename_i t m k x heq
    simp only at heq; subst heq
    split at h
    · rename_i vm vk vx hm hk hx
      have e1 := ev m; rw [hm] at e1
      have e2 := ev k; rw [hk] at e2
      have e3 : a.eval x = vx := by
        have := (allVals_get _ _ hx).2 bs 0 (evA S [] x) (a.eval x) rfl (ev x)
        simpa using this.symm
      obtain ⟨w', r1, r2⟩ := semUs h
      exact valU (s := Instr.mapUpdate t vm vk vx) (by rw [← (show a.eval m = vm from e1), ← (show a.eval k = vk from e2), ← e3]; rfl) r1 r2
    · exact h.elim
  · rename_i t m k x heq
    simp only at heq; subst heq
    split at h
    · rename_i vm vk vx hm hk hx
      have e1 := ev m; rw [hm] at e1
      have e2 := ev k; rw [hk] at e2
      have e3 : a.eval x = vx := by
        have := (allVals_get _ _ hx).2 bs 0 (evA S [] x) (a.eval x) rfl (ev x)
        simpa using this.symm
      obtain ⟨w', r1, r2⟩ := semUs h
      exact valU (s := Instr.mapUpdate t vm vk vx) (by rw [← (show a.eval m = vm from e1), ← (show a.eval k = vk from e2), ← e3]; rfl) r1 r2
    · exact h.elim
  · rename_i args ats heq
    simp only at heq; subst heq
    split at h
    · rename_i l hl
      have hl' := evAll_sound hF (anc := []) (by simp) args.toList l hl
      have ha : args.map a.eval = ⟨l⟩ := by apply Array.ext'; simpa using hl'
      obtain ⟨v, w', r1, r2⟩ := sem h
      exact val (s := Builtin.copy_ ats type ⟨l⟩) (by rw [BigFrame.execOp_builtin, BigFrame.builtin_copy, ha]) r1 r2
    · exact h.elim
  · rename_i t x heq
    simp only at heq; subst heq
    split at h
    · rename_i d l hd hl
      simp only at hd; subst hd
      obtain ⟨c1, c2⟩ := cellsA_sound hl (ev x)
      refine val (s := Instr.box t (a.eval x)) rfl ?_ (newBox_sound hW c1 c2 h)
      simp [Instr.box, newVar, newRow_run]
    · exact h.elim
  · rename_i t heq
    simp only at heq; subst heq
    split at h
    · rename_i d i hd hi
      simp only at hd; subst hd
      split at h
      · rename_i zv hz
        refine val (s := Instr.alloc t true (.tuple #[])) rfl ?_ (newBox_sound hW (c := zv.cells) (by simp) (fun j x hx => ?_) h)
        · have hzr : (zeroValue t).run C.P w = .ok zv w := by simp [zeroValue, typeInfo, hi, hz]
          simp only [Instr.alloc, Sem.run_bind, hzr, Result.andThen_ok, newVar, newRow_run, Sem.run_pure]
        · simp only [List.getElem?_map, Option.map_eq_some_iff] at hx
          obtain ⟨v, hv, rfl⟩ := hx
          exact ⟨v, by simpa using hv, rfl⟩
      · exact h.elim
    · exact h.elim
  · rename_i t x y heq
    simp only at heq; subst heq
    obtain ⟨w', h1, h2⟩ := storeA_sound hW (ev x) (ev y) h
    unfold Oper.wp
    have he : execOp a.eval ⟨dst, .store t x y, type, pos, after, guard⟩ = (do Instr.storeAt t (a.eval x) (a.eval y); pure .skip) := rfl
    rw [he]
    simp only [Sem.run_bind, h1, Result.andThen_ok, Sem.run_pure]
    exact hn undef w' h2
  · rename_i t n ps heq
    simp only at heq; subst heq
    split at h
    · rename_i d e hd hu
      simp only at hd; subst hd
      split at h
      · rename_i i l hi hl
        have hp := parts_sound hF (anc := []) (by simp) ps.toList l hl
        have hp' : ps.map (fun (i, x) => (i, a.eval x)) = l.toArray := by apply Array.ext'; rw [← hp]; simp
        split at h
        · rename_i cs hcs
          have hr := buildSlice_run hu hi hcs w
          refine val (s := Instr.buildSlice t n l.toArray) (by simp only [execOp]; rw [hp']) hr ?_
          split at h
          · exact .mk _ _ bs (hup_get (h w.heap.size hW.none_new)) List.prefix_rfl rfl rfl rfl rfl (hW.newPub _)
          · refine .mk _ _ (bs ++ [w.heap.size]) h ⟨_, rfl⟩ rfl rfl rfl ⟨w.heap.size, ?_, rfl⟩ (hW.newPriv _ cs e (by simp) (fun j x hx => ?_))
            · rw [← hW.blen]; simp
            · simp only [List.getElem?_map, Option.map_eq_some_iff] at hx
              obtain ⟨v, hv, rfl⟩ := hx
              exact ⟨v, by simpa using hv, rfl⟩
        · exact h.elim
      · exact h.elim
    · exact h.elim
  · rename_i args ats heq
    simp only at heq; subst heq
    split at h
    · rename_i s x t u hargs hats
      have ha : args = #[s, x] := by apply Array.ext'; exact hargs
      have ht : ats = #[t, u] := by apply Array.ext'; exact hats
      subst ha; subst ht
      obtain ⟨v, w', r1, r2⟩ := appA_sound (ty := type) hW (ev s) (ev x) h
      refine val (s := Builtin.append_ #[t, u] type #[a.eval s, a.eval x]) ?_ r1 r2
      rw [BigFrame.execOp_builtin, BigFrame.builtin_append]
      simp only [List.map_toArray, List.map_cons, List.map_nil]
    · exact h.elim
  · rename_i fo args ats heq
    simp only at heq; subst heq
    split at h
    · rename_i l hl
      split at h
      · rename_i g l' ht
        unfold callE at h
        split at h
        · rename_i fn hcall hfn
          split at h
          · rename_i sh hsh
            have hr := target_run (P := C.P) (ρ := a.eval) (c := { callee := .value fo, args := args, argTypes := ats }) rfl (ev fo) (evAll_sound hF (by simp) args.toList l hl) ht hcall type w
            unfold Oper.wp
            have he : (execOp a.eval ⟨dst, .call { callee := .value fo, args := args, argTypes := ats }, type, pos, after, guard⟩).run C.P w = .ok (.enter g ⟨l'⟩) w := by simpa [execOp] using hr
            rw [he]
            show Calls C.P g ⟨l'⟩ w _
            refine (h.run w hW.keeps.holds).mono ?_
            rintro e w' ⟨v, H', rfl, hk, hv⟩
            obtain ⟨r, rfl, hK⟩ := (exV_iff _ _).1 hv
            exact hn _ w' (.mk _ _ bs hK List.prefix_rfl rfl rfl rfl rfl (hW.call hk))
          · exact h.elim
        · exact h.elim
      · exact h.elim
    · exact h.elim
  · exact h.elim
end
end Go.Ax
