/- Ax, third part: the soundness of the operations that leave memory alone. Conditions: those of each lemma. -/
import Derived.Test.YtanahoejlnmfiaaAxS
namespace Go.Ax
open Go.RowKit

section
variable {P : Program} {bs : List Nat} {G : Option Bool}

/-- What an operation that leaves memory alone yields, in a class of worlds. -/
def YlC (P : Program) (bs : List Nat) (W : World → Prop) (s : Sem Value) (K : AV → Prop) : Prop := ∃ x v, BRel bs x v ∧ K x ∧ ∀ w, W w → s.run P w = .ok v w
theorem YlC.mk {W : World → Prop} {s : Sem Value} {K : AV → Prop} (v : Value) (hk : K (.v v)) (hr : ∀ w, W w → s.run P w = .ok v w) : YlC P bs W s K := ⟨.v v, v, rfl, hk, hr⟩
theorem Yl.c {W : World → Prop} {s : Sem Value} {K : AV → Prop} (h : Yl P bs s K) : YlC P bs W s K := let ⟨x, v, a, b, c⟩ := h; ⟨x, v, a, b, fun w _ => c w⟩

theorem size_run {t : TypeId} (h : (P.info? t).isSome = true) (w : World) : (sizeOf t).run P w = .ok (P.cellsOf t) w := by
  obtain ⟨i, hi⟩ := Option.isSome_iff_exists.1 h
  simp [sizeOf, typeInfo, hi, Program.cellsOf]
theorem isAgg_run {t : TypeId} {d : TypeDesc} (h : P.underlying t = some d) (w : World) : (isAgg t).run P w = .ok (aggT P t) w := by
  unfold aggT
  rw [h]
  cases d <;> simp [isAgg, run_underlying h]

theorem enc_length : ∀ (l : List Sh) (v : V l), (enc l v).length = l.length
  | [], _ => rfl
  | .int _ :: l, v => by simp [enc, enc_length l]
  | .bool :: l, v => by simp [enc, enc_length l]
  | .str :: l, v => by simp [enc, enc_length l]
  | .sl :: l, v => by simp [enc, enc_length l]
  | .ptr :: l, v => by simp [enc, enc_length l]
  | .mp :: l, v => by simp [enc, enc_length l]
  | .val :: l, v => by simp [enc, enc_length l]

theorem shp_length {t : TypeId} {l : List Sh} (h : shp P t = some l) : l.length = P.cellsOf t := by
  unfold shp at h
  split at h
  · split at h
    · rename_i hb
      simp only [Option.some.injEq] at h
      subst h
      exact Nat.eq_of_beq_eq_true hb
    · cases h
  · cases h

theorem addr_add (b off j : Nat) : (⟨b, off, none⟩ : Addr).add j = ⟨b, off + j, none⟩ := by
  unfold Addr.add; split <;> simp_all

/-- A variable read whose cells are known. -/
theorem loadVar_run {t : TypeId} {d : TypeDesc} (hd : P.underlying t = some d) (hi : (P.info? t).isSome = true) (hs : aggT P t = true ∨ P.cellsOf t = 1) {a : Addr} {vs : List Value} (hl : vs.length = P.cellsOf t) {w : World}
    (hc : ∀ (j : Nat) v, vs[j]? = some v → w.cell? (a.add j) = some v) : (loadVar t a).run P w = .ok (mkVal (aggT P t) vs) w := by
  have h1 := isAgg_run hd w
  have h2 := size_run hi w
  cases hb : aggT P t with
  | true =>
    rw [hb] at h1
    have h3 := run_loadCells_list (P := P) w a vs hc
    rw [hl] at h3
    simp [loadVar, h1, h2, h3, mkVal]
  | false =>
    rw [hb] at h1
    have h4 : P.cellsOf t = 1 := hs.resolve_left (by rw [hb]; simp)
    rw [h4] at hl
    match vs, hl with
    | [x], _ =>
      have h5 := hc 0 x rfl
      have h6 : w.cell? a = some x := by simpa [Addr.add] using h5
      simp [loadVar, h1, mkVal, load, Sem.run, h6]
end

def concV (bs : List Nat) : AV → Value
  | .v x => x
  | .bl b => .bool b
  | .loc i off => .pointer (some ⟨bs.getD i 0, off, none⟩)
  | .lsl i off n c => .slice (some ⟨bs.getD i 0, off, none⟩) n c
  | _ => undef
def det : AV → Bool
  | .ifs _ _ _ _ => false
  | .any => false
  | _ => true
theorem BRel.det {bs : List Nat} {x : AV} {y : Value} (h : BRel bs x y) (hd : Ax.det x = true) : y = concV bs x := by
  cases x with
  | v x => exact h
  | bl b => exact h
  | loc i off =>
    obtain ⟨b, hb, rfl⟩ := h
    simp [concV, hb]
  | lsl i off n c =>
    obtain ⟨b, hb, rfl⟩ := h
    simp [concV, hb]
  | ifs => simp [Ax.det] at hd
  | any => simp [Ax.det] at hd

theorem allVals_get : ∀ (l : List AV) (vs : List Value), allVals l = some vs → vs.length = l.length ∧ ∀ (bs : List Nat) (j : Nat) x y, l[j]? = some x → BRel bs x y → vs[j]? = some y
  | [], vs, h => by simp [allVals] at h; subst h; simp
  | x :: l, vs, h => by
    simp only [allVals] at h
    cases x with
    | v u =>
      cases hr : allVals l with
      | none => simp [hr] at h
      | some r =>
        simp [hr] at h
        subst h
        obtain ⟨h1, h2⟩ := allVals_get l r hr
        refine ⟨by simp [h1], fun bs j x y hx hy => ?_⟩
        cases j with
        | zero => simp at hx; subst hx; simp; exact hy.symm
        | succ j => simp at hx ⊢; exact h2 bs j x y hx hy
    | bl u =>
      cases hr : allVals l with
      | none => simp [hr] at h
      | some r =>
        simp [hr] at h
        subst h
        obtain ⟨h1, h2⟩ := allVals_get l r hr
        refine ⟨by simp [h1], fun bs j x y hx hy => ?_⟩
        cases j with
        | zero => simp at hx; subst hx; simp; exact hy.symm
        | succ j => simp at hx ⊢; exact h2 bs j x y hx hy
    | _ => simp at h

section
variable {C : Cx} {ds : List Nat} {p : Pro} {z : Nat → Value} {zb : ZB} {H0 : Heap} {w0 : World} {bs : List Nat} {S : AS} {a : Act} {G : Option Bool}

theorem WC.cell {w1 : World} (h : WC ds p zb H0 w0 bs S.bx S.H w1) {i b : Nat} {l : List AV} (hb : bs[i]? = some b) (hl : S.bx[i]? = some l) : ∃ c T, w1.heap[b]? = some (.cells c T (0, 0)) ∧ c.size = l.length ∧
    ∀ (j : Nat) x, l[j]? = some x → ∃ y, c[j]? = some y ∧ BRel bs x y := by
  obtain ⟨_, _, c, T, h1, h2, h3, _⟩ := h.boxes i b l hb hl
  exact ⟨c, T, h1, h2, h3⟩

theorem cell_of_block {w : World} {b off j : Nat} {c : Array Value} {T : TypeId} (h : w.heap[b]? = some (.cells c T (0, 0))) : w.cell? ((⟨b, off, none⟩ : Addr).add j) = c[off + j]? := by
  rw [addr_add]; simp [World.cell?, h]

theorem loadA_sound (hG : ∀ g, G = some g → g = true) {w : World} (hW : WC ds p zb H0 w0 bs S.bx S.H w) {x : AV} {y : Value} (hx : BRel bs x y) {t : TypeId} {K : AV → Prop} (h : loadA C G S x t K) :
    ∃ ad, y = .pointer (some ad) ∧ YlC C.P bs (WC ds p zb H0 w0 bs S.bx S.H) (loadVar t ad) K := by
  unfold loadA at h
  split at h
  · rename_i i off
    obtain ⟨b, hb, rfl⟩ := hx
    refine ⟨_, rfl, ?_⟩
    split at h
    · rename_i l d hl hd hi
      split at h
      · rename_i h1 h2
        have h1 := Nat.le_of_ble_eq_true h1
        have h2 : aggT C.P t = true ∨ C.P.cellsOf t = 1 := by
          rw [Bool.or_eq_true] at h2
          exact h2.imp id Nat.eq_of_beq_eq_true
        split at h
        · rename_i x hx
          have hlen : (takeA off (C.P.cellsOf t) l).length = C.P.cellsOf t := by simp [takeA]; omega
          have hget : ∀ (j : Nat) u, (takeA off (C.P.cellsOf t) l)[j]? = some u → l[off + j]? = some u := by
            intro j u hu
            simp only [takeA, List.getElem?_take] at hu
            split at hu
            · simpa using hu
            · cases hu
          unfold boxGet at hx
          split at hx
          · rename_i hag
            split at hx
            · rename_i vs hvs
              simp only [Option.some.injEq] at hx
              subst hx
              obtain ⟨e1, e2⟩ := allVals_get _ _ hvs
              refine .mk _ h fun w' hw' => ?_
              obtain ⟨c, T, c1, c2, c3⟩ := hw'.cell hb hl
              have := loadVar_run (P := C.P) hd hi h2 (a := ⟨b, off, none⟩) (vs := vs) (by omega) (w := w') (fun j v hv => by
                rw [cell_of_block c1]
                have hj : j < (takeA off (C.P.cellsOf t) l).length := by
                  rcases Nat.lt_or_ge j vs.length with hh | hh
                  · omega
                  · rw [List.getElem?_eq_none hh] at hv; cases hv
                have hu := hget j _ (List.getElem?_eq_getElem hj)
                obtain ⟨y, y1, y2⟩ := c3 _ _ hu
                rw [y1, ← e2 bs j _ y (List.getElem?_eq_getElem hj) y2, hv])
              rw [this, hag]; rfl
            · cases hx
          · rename_i hag
            have h4 : C.P.cellsOf t = 1 := h2.resolve_left (by rw [hag]; simp)
            split at hx
            · cases hx
            · cases hx
            · rename_i x' hn1 hn2 heq
              simp only [Option.some.injEq] at hx
              subst hx
              have hdet : Ax.det x' = true := by
                cases x' with
                | any => exact absurd rfl hn1
                | ifs e s w x => exact absurd rfl (hn2 e s w x)
                | _ => rfl
              have hu := hget 0 x' (by rw [heq]; rfl)
              refine ⟨x', concV bs x', ?_, h, fun w' hw' => ?_⟩
              · obtain ⟨c, T, c1, c2, c3⟩ := hW.cell hb hl
                obtain ⟨y, y1, y2⟩ := c3 _ _ hu
                rw [← y2.det hdet]; exact y2
              · obtain ⟨c, T, c1, c2, c3⟩ := hw'.cell hb hl
                obtain ⟨y, y1, y2⟩ := c3 _ _ hu
                have := loadVar_run (P := C.P) hd hi h2 (a := ⟨b, off, none⟩) (vs := [y]) (by rw [h4]; rfl) (w := w') (fun j v hv => by
                  rw [cell_of_block c1]
                  cases j with
                  | zero => simp at hv; subst hv; exact y1
                  | succ j => simp at hv)
                rw [this, hag]
                simp only [mkVal]
                rw [y2.det hdet]
            · cases hx
        · exact h.elim
      · exact h.elim
    · exact h.elim
  · rename_i q
    refine ⟨q, hx, ?_⟩
    split at h
    · rename_i l d hl hd hi
      split at h
      · rename_i h2
        have h2 : aggT C.P t = true ∨ C.P.cellsOf t = 1 := by
          rw [Bool.or_eq_true] at h2
          exact h2.imp id Nat.eq_of_beq_eq_true
        obtain ⟨r, hr1, hr2⟩ := (exV_iff _ _).1 h
        have hat := ob_of hG hr1
        exact .mk _ hr2 fun w' hw' => loadVar_run hd hi h2 (by rw [enc_length, shp_length hl]) (hat.cell hw'.keeps.holds)
      · exact h.elim
    · exact h.elim
  · exact h.elim

theorem blC_sound {x : Operand} {av : AV} (h : BRel bs av (a.eval x)) : BRel bs (blC x av) (a.eval x) := by
  unfold blC
  split
  · rfl
  · exact h
theorem pickA_sound (hF : FC ds p z bs S a) {anc : List (Nat × Bool)} (ha : ∀ q ∈ anc, a.tmps.getD q.1 undef = .bool q.2) {c x y : Operand} {K : AV → Prop} (h : pickA S anc c x y K) :
    ∃ av v, BRel bs av v ∧ K av ∧ ∃ g, a.eval c = .bool g ∧ (if g then a.eval x else a.eval y) = v := by
  unfold pickA at h
  split at h
  · rename_i s
    have hc := pe_sound hF ha (hF.slots s)
    have hev : a.eval (.tmp s) = a.tmps.getD s undef := rfl
    have more : ∀ g : Bool, a.tmps.getD s undef = .bool g → ∀ q ∈ ((s, g) :: anc), a.tmps.getD q.1 undef = .bool q.2 := by
      intro g hg q hq
      rcases List.mem_cons.1 hq with rfl | hq
      · exact hg
      · exact ha q hq
    split at h
    · rename_i hb
      rw [hb] at hc
      have hc : a.tmps.getD s undef = .bool true := hc
      exact ⟨_, a.eval x, blC_sound (evA_sound hF (more true hc) x), h, true, hev.trans hc, rfl⟩
    · rename_i hb
      rw [hb] at hc
      have hc : a.tmps.getD s undef = .bool false := hc
      exact ⟨_, a.eval y, blC_sound (evA_sound hF (more false hc) y), h, false, hev.trans hc, rfl⟩
    · rename_i g hb
      rw [hb] at hc
      have hc : a.tmps.getD s undef = .bool g := hc
      split at h
      · split at h
        · rename_i u hu
          refine ⟨.v (.bool (g || u)), .bool (g || u), rfl, h, g, hev.trans hc, ?_⟩
          cases g
          · have := asB_some hu (evA_sound hF (more false hc) _)
            simpa using this
          · rfl
        · exact h.elim
      · split at h
        · rename_i u hu
          refine ⟨.v (.bool (g && u)), .bool (g && u), rfl, h, g, hev.trans hc, ?_⟩
          cases g
          · rfl
          · have := asB_some hu (evA_sound hF (more true hc) _)
            simpa using this
        · exact h.elim
      · exact h.elim
    · exact h.elim
  · exact h.elim

theorem blt_mk {P : Program} {s : Sem Next} {v : Value} {K : AV → Prop} (h : K (.v v)) (hr : ∀ w, s.run P w = .ok (.value v) w) : ∃ x v, BRel bs x v ∧ K x ∧ ∀ w, s.run P w = .ok (.value v) w := ⟨.v v, v, rfl, h, hr⟩

theorem bltA_sound {P : Program} {b : Builtin} {ats : Array TypeId} {ty : TypeId} {cs : Array Bool} {xs : List AV} {vs : Array Value} (hx : ∀ (j : Nat) x, xs[j]? = some x → ∃ y, vs[j]? = some y ∧ BRel bs x y) (hl : vs.size = xs.length) {K : AV → Prop}
    (h : bltA P b ats.toList xs K) : ∃ x v, BRel bs x v ∧ K x ∧ ∀ w, (builtin b ats ty cs vs).run P w = .ok (.value v) w := by
  unfold bltA at h
  split at h
  · rename_i t l1 x l2 ht
    have ht0 : ats[0]? = some t := by rw [← Array.getElem?_toList, ht]; rfl
    obtain ⟨y, hy0, hy⟩ := hx 0 x rfl
    split at h
    · rename_i s hu
      have hy : y = .string s := hy
      subst hy
      exact blt_mk h fun w => by simp [Builtin.len_, BigFrame.builtin_len, ht0, hy0, run_underlying hu, goInt]
    · rename_i e A n c hu
      have hy : y = .slice A n c := hy
      subst hy
      exact blt_mk h fun w => by simp [Builtin.len_, BigFrame.builtin_len, ht0, hy0, run_underlying hu, goInt]
    · rename_i e i off n c hu
      obtain ⟨b, hb, rfl⟩ := hy
      exact blt_mk h fun w => by simp [Builtin.len_, BigFrame.builtin_len, ht0, hy0, run_underlying hu, goInt]
    · rename_i n e hu
      exact blt_mk h fun w => by simp [Builtin.len_, BigFrame.builtin_len, ht0, hy0, run_underlying hu, goInt]
    · exact h.elim
  · rename_i k x k' y
    obtain ⟨u0, a0, b0⟩ := hx 0 _ rfl
    obtain ⟨u1, a1, b1⟩ := hx 1 _ rfl
    have b0 : u0 = .int k x := b0
    have b1 : u1 = .int k' y := b1
    have hvs : vs = #[.int k x, .int k' y] := by
      apply Array.ext'
      apply List.ext_getElem?
      intro j
      match j with
      | 0 => simpa [b0] using a0
      | 1 => simpa [b1] using a1
      | j + 2 => simp at hl; simp [hl]
    rw [hvs]
    exact blt_mk h fun w => by simp [BigFrame.builtin_min, run_min_int2]
  · rename_i k x k' y
    obtain ⟨u0, a0, b0⟩ := hx 0 _ rfl
    obtain ⟨u1, a1, b1⟩ := hx 1 _ rfl
    have b0 : u0 = .int k x := b0
    have b1 : u1 = .int k' y := b1
    have hvs : vs = #[.int k x, .int k' y] := by
      apply Array.ext'
      apply List.ext_getElem?
      intro j
      match j with
      | 0 => simpa [b0] using a0
      | 1 => simpa [b1] using a1
      | j + 2 => simp at hl; simp [hl]
    rw [hvs]
    exact blt_mk h fun w => by simp [BigFrame.builtin_max, run_max_int2]
  · exact h.elim
end
end Go.Ax
