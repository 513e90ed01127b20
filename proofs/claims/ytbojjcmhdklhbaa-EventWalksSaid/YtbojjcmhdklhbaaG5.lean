/- Grammar: reading a list into the book: contracts of read, Check, Close; the document's Close; same lists. Conditions: the events in memory, each well formed. -/
import Derived.Test.YtbojjcmhdklhbaaG4
set_option maxRecDepth 100000
namespace Go.Proofs.Ytbojjcmhdklhbaa
open Go.Ax

theorem own_upd {H H1 : Heap} {A : Option Addr} {n c sz : Nat} {cs : List Value} (h : OwnS H H1 A n c sz cs) {b : Nat} (o : Obj) (hb : H b ≠ none) : OwnS (H.upd b o) (H1.upd b o) A n c sz cs := by
  refine ⟨⟨fun i o' e => ?_⟩, h.len, h.cap, ?_⟩
  · by_cases hi : i = b
    · subst hi; rw [Heap.upd_same] at e ⊢; exact e
    · rw [Heap.upd_other hi] at e ⊢; exact h.sub.sub i o' e
  · rcases h.at_ with q | ⟨bb, cur, T, q0, q1, q2, q3, q4⟩
    · exact .inl q
    · have hne : bb ≠ b := fun e => by subst e; exact hb q1
      exact .inr ⟨bb, cur, T, q0, by rw [Heap.upd_other hne]; exact q1, by rw [Heap.upd_other hne]; exact q2, q3, q4⟩
theorem sub_upd_none {H H1 : Heap} (h : Sub H H1) {b : Nat} (o : Obj) (hb : H b = none) : Sub H (H1.upd b o) := ⟨fun i o' e => by
  have hne : i ≠ b := fun q => by subst q; rw [hb] at e; cases e
  rw [Heap.upd_other hne]; exact h.sub i o' e⟩
structure Rd (l : List Ev) (H : Heap) (b b1 : Nat) (x : Int) (Hc : Heap) : Prop where
  out : ∃ m : Nat, x = m ∧ m ≤ l.length ∧ (∀ j, j < m → ∀ y, l[j]? = some y → mayP (l.take j) y = true) ∧ ∃ (A : Option Addr) (n c : Nat) (es : Array MapEntry) (cl : Nat),
    Hc b1 = some (.cells #[.slice A n c, .map (some b), .bool (overP (l.take m))] 92 (0, 0)) ∧ Hc b = some (.map es cl) ∧ Marks es (marks (l.take m)) ∧ ∃ Ho : Heap, Sub H Ho ∧ Ho b ≠ none ∧ Ho b1 ≠ none ∧ OwnS Ho Hc A n c 9 ((l.take m).flatMap Ev.cells)
theorem keep_at {Ho H1 H2 : Heap} {b : Nat} {o : Obj} (h : Ho b ≠ none) (s1 : Sub Ho H1) (s2 : Sub Ho H2) (e : H1 b = some o) : H2 b = some o := by
  cases hh : Ho b with
  | none => exact absurd hh h
  | some o' =>
    have := s1.sub b o' hh
    rw [e] at this; cases this
    exact s2.sub b _ hh
def ReadV (l : List Ev) (H : Heap) (v : Value) (H' : Heap) : Prop := ∃ b1 : Nat, v = .tuple #[.pointer (some ⟨b1, 0, none⟩), .int .i64 (stand l : Nat)] ∧ Book H' b1 (l.take (stand l)) ∧ Sub H H'
theorem t57 {l : List Ev} (hw : ∀ x ∈ l, x.Wf) (hb : l.length * 72 ≤ 140737488355328) {H : Heap} {A : Option Addr} {n c : Nat} (h : HasEvs H A n l) : Tr Try.prog 57 #[.slice A n c] H (ReadV l H) := by
  have hn := h.len; subst hn
  apply v57; unfold F57
  intro b hb0 H1 e1 b1 hb1 H11 e11
  have hbb : b ≠ b1 := fun e => by subst e; rw [e1, Heap.upd_same] at hb1; cases hb1
  have hHb1 : H b1 = none := by rw [e1, Heap.upd_other hbb.symm] at hb1; exact hb1
  have s11 : Sub H H11 := by subst e1; subst e11; exact sub_upd_none (sub_upd_none (Sub.refl _) _ hb0) _ hHb1
  refine ⟨Rd l H b b1, fun i _ => (l.length - i).toNat, ⟨0, rfl, by omega, fun j hj => absurd hj (by omega), none, 0, 0, #[], 0, ?_, ?_, Marks.nil, H11, s11, ?_, ?_, OwnS.nil _ _⟩, fun x Hc r => ?_⟩
  · subst e11; exact Heap.upd_same
  · subst e11; subst e1; rw [Heap.upd_other hbb, Heap.upd_same]
  · subst e11; subst e1; rw [Heap.upd_other hbb, Heap.upd_same]; simp
  · subst e11; rw [Heap.upd_same]; simp
  obtain ⟨m, rfl, hm, hs, B, n, c', es, cl, g1, g2, g3, Ho, k1, k2, k3, o⟩ := r.out
  have ho := OwnS.evs o
  have hn : n = m := by rw [ho.len, len_take hm]
  subst hn
  have bk : Book Hc b1 (l.take n) := ⟨B, n, c', b, es, cl, g1, ho, g2, g3⟩
  have sc : Sub H Hc := k1.trans o.sub
  refine ⟨fun hlt => ?_, fun hge => ?_⟩
  · have hlt := of_decide_eq_true hlt
    obtain ⟨x, hx⟩ := get_some (l := l) (i := n) (by omega)
    obtain ⟨a, ha, hat⟩ := h.at_ n x hx
    have hxw : x.Wf := hw x (List.mem_of_getElem? hx)
    refine ⟨a, ⟨ha, by omega, by omega⟩, _, _, _, _, _, _, _, _, _, hat.sub sc, _, t63 (by rw [len_take hm]; omega) bk x hxw, fun q => ?_, fun q => ?_⟩
    · have q : mayP (l.take n) x = false := by simpa using q
      have hst : stand l = n := stand_spec hs (by omega) fun y hy => by rw [hx] at hy; cases hy; exact q
      exact ⟨b1, by rw [hst], by rw [hst]; exact bk, sc⟩
    · have q : mayP (l.take n) x = true := by simpa using q
      have hk : ∀ (A' : Option Addr) (c'' : Nat) (H' : Heap), OwnS Ho H' A' (n + 1) c'' 9 ((l.take n).flatMap Ev.cells ++ x.cells) →
          ∃ a2 : Addr, some (⟨b1, 0, none⟩ : Addr) = some a2 ∧ ∃ (c1 : Array Value) (T : TypeId), H' (a2.add 0).block = some (Obj.cells c1 T) ∧ (a2.add 0).spot = none ∧ (a2.add 0).off + [Value.slice A' (n + 1) c''].length ≤ c1.size ∧
          ∀ H12 : Heap, H12 = H'.upd (a2.add 0).block (Obj.cells (splice c1 (a2.add 0).off [Value.slice A' (n + 1) c'']) T) →
          ∃ a3 : Addr, some (⟨b1, 0, none⟩ : Addr) = some a3 ∧ ∃ v1 : Option Nat, At H12 (a3.add 1) [Value.map v1] ∧
          Sm Try.prog (updU (Instr.mapUpdate 90 (Value.map v1) (Value.agg #[Value.int .i64 x.kind, Value.int .i64 x.a]) (Value.bool true))) H12 fun v2 H'2 => ∃ b3 : Bool,
            (Tr Try.prog 24 #[Value.int .i64 x.kind] H'2 fun v3 H'3 => v3 = Value.bool b3 ∧ Sub H'2 H'3) ∧ ∃ a4 : Addr, some (⟨b1, 0, none⟩ : Addr) = some a4 ∧ ∃ (c2 : Array Value) (T1 : TypeId), H'2 (a4.add 2).block = some (Obj.cells c2 T1) ∧ (a4.add 2).spot = none ∧
            (a4.add 2).off + [Value.bool b3].length ≤ c2.size ∧ ∀ H13 : Heap, H13 = H'2.upd (a4.add 2).block (Obj.cells (splice c2 (a4.add 2).off [Value.bool b3]) T1) →
            Rd l H b b1 (IntKind.i64.wrap ((n : Int) + 1)) H13 ∧ (l.length - IntKind.i64.wrap ((n : Int) + 1)).toNat < (l.length - (n : Int)).toNat := by
        intro A' c'' H' o'
        have g1' := keep_at k3 o.sub o'.sub g1
        have g2' := keep_at k2 o.sub o'.sub g2
        refine ⟨_, rfl, #[.slice B n c', .map (some b), .bool (overP (l.take n))], 92, g1', rfl, by show 0 + 1 ≤ 3; omega, fun H12 e12 => ?_⟩
        have e12 : H12 = H'.upd b1 (.cells #[.slice A' (n + 1) c'', .map (some b), .bool (overP (l.take n))] 92 (0, 0)) := e12
        have g3' : H12 b = some (.map es cl) := by rw [e12, Heap.upd_other hbb]; exact g2'
        refine ⟨_, rfl, some b, at_fld (T := 92) (fz := (0, 0)) (c := #[.slice A' (n + 1) c'', .map (some b), .bool (overP (l.take n))]) 1 (by rw [e12]; exact Heap.upd_same) rfl, smMono (sm_update g3' g3 x.kind x.a) fun v Hu => ?_⟩
        rintro ⟨es', cl', hm', eu⟩
        have g4 : Hu b1 = some (.cells #[.slice A' (n + 1) c'', .map (some b), .bool (overP (l.take n))] 92 (0, 0)) := by rw [eu, Heap.upd_other hbb.symm, e12]; exact Heap.upd_same
        refine ⟨_, t24 x.kind _, _, rfl, #[.slice A' (n + 1) c'', .map (some b), .bool (overP (l.take n))], 92, g4, rfl, by show 2 + 1 ≤ 3; omega, fun H13 e13 => ?_⟩
        have e13 : H13 = Hu.upd b1 (.cells #[.slice A' (n + 1) c'', .map (some b), .bool (closeM x.kind)] 92 (0, 0)) := e13
        rw [wrapi (by omega) (by omega)]
        refine ⟨⟨n + 1, by omega, by omega, fun j hj y hy => ?_, A', n + 1, c'', es', cl', ?_, ?_, ?_, ((Ho.upd b1 (.cells #[.slice A' (n + 1) c'', .map (some b), .bool (overP (l.take n))] 92 (0, 0))).upd b (.map es' cl')).upd b1 (.cells #[.slice A' (n + 1) c'', .map (some b), .bool (closeM x.kind)] 92 (0, 0)), ?_, ?_, ?_, ?_⟩, ?_⟩
        · by_cases hjn : j = n
          · subst hjn; rw [hx] at hy; cases hy; exact q
          · exact hs j (by omega) y hy
        · rw [take_snoc hx, overP_snoc, e13]; exact Heap.upd_same
        · rw [e13, Heap.upd_other hbb, eu]; exact Heap.upd_same
        · rw [take_snoc hx, marks_snoc]; exact hm'
        · exact sub_upd_none (sub_upd_none (sub_upd_none k1 _ hHb1) _ hb0) _ hHb1
        · rw [Heap.upd_other hbb, Heap.upd_same]; simp
        · rw [Heap.upd_same]; simp
        · rw [e13, eu, e12, take_snoc hx, List.flatMap_append]
          have : [x].flatMap Ev.cells = x.cells := by simp
          rw [this]
          refine own_upd (own_upd (own_upd o' _ k3) _ ?_) _ ?_
          · rw [Heap.upd_other hbb]; exact k2
          · rw [Heap.upd_other hbb.symm, Heap.upd_same]; simp
        · omega
      refine ⟨_, rfl, ⟨B, n, c', at_fld 0 g1 rfl, own_app o (m := 1) (by rfl) (by rfl) (Nat.le_trans (Nat.mul_le_mul_right 72 (show n + 1 ≤ l.length by omega)) hb) (by omega) hk⟩, ⟨B, n, c', at_fld 0 g1 rfl, own_app o (m := 1) (by rfl) (by rfl) (Nat.le_trans (Nat.mul_le_mul_right 72 (show n + 1 ≤ l.length by omega)) hb) (by omega) hk⟩⟩
  · have hge := of_decide_eq_false hge
    have hnl : n = l.length := by omega
    have hst : stand l = n := stand_spec hs (by omega) fun y hy => by rw [hnl, List.getElem?_eq_none (Nat.le_refl _)] at hy; cases hy
    exact ⟨b1, by rw [hst, hnl], by rw [hst]; exact bk, sc⟩
theorem t34 {l : List Ev} (hw : ∀ x ∈ l, x.Wf) (hb : l.length * 72 ≤ 140737488355328) {H : Heap} {A : Option Addr} {n c : Nat} (h : HasEvs H A n l) : Tr Try.prog 34 #[.slice A n c] H (fun v H' => v = checkV l ∧ Sub H H') := by
  have hn := h.len; subst hn
  apply v34; unfold F34
  refine (t57 hw hb h).mono fun v H' => ?_
  rintro ⟨b1, rfl, bk, s⟩
  refine ⟨_, _, rfl, fun q => ⟨?_, s⟩, fun q => ⟨?_, s⟩⟩
  · have q := of_decide_eq_true q
    unfold checkV; rw [if_pos (by omega)]
  · have q := of_decide_eq_false q
    unfold checkV; rw [if_neg (by omega)]
def closeI (l : List Ev) : Int × Int := if stand l < l.length then (0, 52) else if overP l = true then ((l.length : Int) - 1, 0) else (-1, 0)
def closeV (l : List Ev) : Value := .tuple #[.int .i64 (closeI l).1, .int .i64 (closeI l).2]
theorem t38 {l : List Ev} (hw : ∀ x ∈ l, x.Wf) (hb : l.length * 72 ≤ 140737488355328) {H : Heap} {A : Option Addr} {n c : Nat} (h : HasEvs H A n l) : Tr Try.prog 38 #[.slice A n c] H (fun v H' => v = closeV l ∧ Sub H H') := by
  have hn := h.len; subst hn
  apply v38; unfold F38
  refine (t57 hw hb h).mono fun v H' => ?_
  rintro ⟨b1, rfl, bk, s⟩
  refine ⟨_, _, rfl, fun q => ⟨?_, s⟩, fun q => ?_⟩
  · have q := of_decide_eq_true q
    unfold closeV closeI; rw [if_pos (by omega)]
  · have q := of_decide_eq_false q
    have hst : stand l = l.length := by have := stand_le l; omega
    rw [hst, List.take_length] at bk
    obtain ⟨B, n, c', m, es, cl, h1, h2, h3, h4⟩ := bk.out
    refine ⟨_, rfl, overP l, at_fld 2 h1 rfl, fun q2 => ⟨?_, s⟩, fun q2 => ⟨?_, s⟩⟩
    · have hne : l ≠ [] := by intro e; subst e; simp [overP] at q2
      have hl : l.length ≠ 0 := by cases l with
        | nil => exact absurd rfl hne
        | cons _ _ => simp
      unfold closeV closeI; rw [if_neg (by omega), if_pos q2, wrapi (by omega) (by omega)]
    · unfold closeV closeI; rw [if_neg (by omega), if_neg (by rw [q2]; simp)]
theorem t39 {l : List Ev} (hb : l.length ≤ 100000000000000000) {H : Heap} {A : Option Addr} {n c : Nat} (h : HasEvs H A n l) : Tr Try.prog 39 #[.slice A n c] H (fun v H' => v = closeV l ∧ Sub H H') := by
  have hn := h.len; subst hn
  apply v39; unfold F39
  have hc : checkV l = .tuple #[.int .i64 (if stand l < l.length then 52 else 0), .int .i64 (if stand l < l.length then ((stand l : Nat) : Int) else 0)] := by unfold checkV; split <;> rfl
  refine ⟨_, _, by have := t35 (c := c) hb h; rw [hc] at this; exact this, fun q => ⟨?_, Sub.refl _⟩, fun q => ⟨fun q1 => ?_, fun q1 => ⟨?_, Sub.refl _⟩⟩⟩
  · have : stand l < l.length := by
      by_cases hs : stand l < l.length
      · exact hs
      · rw [if_neg hs] at q; simp at q
    unfold closeV closeI; rw [if_pos this, if_pos this]
  · have hs : ¬ stand l < l.length := by
      intro hs; rw [if_pos hs] at q; simp at q
    have q1 := of_decide_eq_true q1
    rw [wrapi (by omega) (by omega)]
    obtain ⟨x, hx⟩ := get_some (l := l) (i := l.length - 1) (by omega)
    obtain ⟨a, ha, hat⟩ := h.at_ _ x hx
    have he : ((l.length : Int) - 1).toNat = l.length - 1 := by omega
    rw [he]
    have hov : overP l = closeM x.kind := by
      unfold overP; rw [List.getLast?_eq_getElem?, hx]
    refine ⟨a, ⟨ha, by omega, by omega⟩, x.kind, at_one 2 hat rfl, _, t25 x.kind H, fun q2 => ⟨?_, Sub.refl _⟩, fun q2 => ⟨?_, Sub.refl _⟩⟩
    · unfold closeV closeI; rw [if_neg hs, hov, if_pos q2]
    · unfold closeV closeI; rw [if_neg hs, hov, if_neg (by rw [q2]; simp)]
  · have hs : ¬ stand l < l.length := by
      intro hs; rw [if_pos hs] at q; simp at q
    have q1 := of_decide_eq_false q1
    have : l = [] := by cases l with
      | nil => rfl
      | cons _ _ => (simp at q1; try omega)
    subst this
    rfl
structure RIs (l m : List Int) (H : Heap) (i : Int) (H1 : Heap) : Prop where
  heap : H1 = H
  k : ∃ k : Nat, i = k ∧ k ≤ l.length ∧ ∀ j, j < k → l[j]? = m[j]?
theorem t40 {l m : List Int} (hb : l.length ≤ 9223372036854775807) {H : Heap} {A B : Option Addr} {n c n' c' : Nat} (h : HasI H A n l) (h' : HasI H B n' m) :
    Tr Try.prog 40 #[.slice A n c, .slice B n' c'] H (fun v H' => v = .bool (decide (l = m)) ∧ Sub H H') := by
  have hn := h.len; subst hn
  have hn := h'.len; subst hn
  apply v40; unfold F40
  refine ⟨fun q => ⟨?_, Sub.refl _⟩, fun q => ?_⟩
  · have q : (l.length : Int) ≠ m.length := by simpa using q
    rw [decide_eq_false]
    intro e; subst e; exact q rfl
  · have q : (l.length : Int) = m.length := by simpa using q
    refine ⟨RIs l m H, fun i _ => (l.length - i).toNat, ⟨rfl, 0, rfl, by omega, fun j hj => absurd hj (by omega)⟩, fun i H1 r => ?_⟩
    have hH := r.heap; subst hH
    obtain ⟨k, rfl, hk, hs⟩ := r.k
    refine ⟨fun hlt => ?_, fun hge => ⟨?_, Sub.refl _⟩⟩
    · have hlt := of_decide_eq_true hlt
      obtain ⟨x, hx⟩ := get_some (l := l) (i := k) (by omega)
      obtain ⟨y, hy⟩ := get_some (l := m) (i := k) (by omega)
      obtain ⟨a, ha, hat⟩ := h.at_ k x hx
      obtain ⟨a', ha', hat'⟩ := h'.at_ k y hy
      refine ⟨a, ⟨ha, by omega, by omega⟩, x, hat, a', ⟨ha', by omega, by omega⟩, y, hat', fun q1 => ⟨?_, Sub.refl _⟩, fun q1 => ?_⟩
      · have q1 : x ≠ y := by simpa using q1
        rw [decide_eq_false]
        intro e; subst e; rw [hx] at hy; cases hy; exact q1 rfl
      · have q1 : x = y := by simpa using q1
        rw [wrapi (by omega) (by omega)]
        refine ⟨⟨rfl, k + 1, by omega, by omega, fun j hj => ?_⟩, ?_⟩
        · by_cases hjk : j = k
          · subst hjk; rw [hx, hy, q1]
          · exact hs j (by omega)
        · show (l.length - ((k : Int) + 1)).toNat < (l.length - (k : Int)).toNat
          omega
    · have hge := of_decide_eq_false hge
      rw [decide_eq_true]
      refine List.ext_getElem? fun j => ?_
      by_cases hj : j < k
      · exact hs j hj
      · rw [List.getElem?_eq_none (by omega), List.getElem?_eq_none (by omega)]
structure RIx (l : List Int) (v : Int) (H : Heap) (i : Int) (H1 : Heap) : Prop where
  heap : H1 = H
  k : ∃ k : Nat, i = k ∧ k ≤ l.length ∧ ∀ j, j < k → ∀ x, l[j]? = some x → x ≠ v
theorem t62 {l : List Int} (hb : l.length ≤ 9223372036854775807) {H : Heap} {A : Option Addr} {n c : Nat} (h : HasI H A n l) (v : Int) :
    ∃ x : Int, (decide (x ≥ 0) = l.contains v) ∧ Tr Try.prog 62 #[.slice A n c, .int .i64 v] H (fun r H' => r = .int .i64 x ∧ Sub H H') := by
  have hn := h.len; subst hn
  by_cases hv : v ∈ l
  · obtain ⟨k, hk, hkv⟩ : ∃ k : Nat, l[k]? = some v ∧ ∀ j, j < k → ∀ x, l[j]? = some x → x ≠ v := by
      refine ⟨l.idxOf v, ?_, fun j hj x hx e => ?_⟩
      · have := List.idxOf_lt_length_of_mem hv
        rw [List.getElem?_eq_getElem this, List.getElem_idxOf this]
      · subst e
        have hjl := get_lt hx
        have := List.not_of_lt_findIdx (p := (· == x)) (xs := l) (i := j) hj
        rw [List.getElem?_eq_getElem hjl] at hx
        cases hx
        simp at this
    refine ⟨k, by simp [hv], ?_⟩
    have hkl := get_lt hk
    apply v62; unfold F62
    refine ⟨fun i H1 => H1 = H ∧ ∃ m : Nat, i = m ∧ m ≤ k, fun i _ => (l.length - i).toNat, ⟨rfl, 0, rfl, by omega⟩, fun i H1 r => ?_⟩
    obtain ⟨hH, m, rfl, hm⟩ := r
    subst hH
    refine ⟨fun hlt => ?_, fun hge => ?_⟩
    · have hlt := of_decide_eq_true hlt
      obtain ⟨x, hx⟩ := get_some (l := l) (i := m) (by omega)
      obtain ⟨a, ha, hat⟩ := h.at_ m x hx
      refine ⟨a, ⟨ha, by omega, by omega⟩, x, hat, fun q => ⟨?_, Sub.refl _⟩, fun q => ?_⟩
      · have q : v = x := by simpa using q
        have : m = k := by
          by_cases e : m < k
          · exact absurd q.symm (hkv m e x hx)
          · omega
        rw [this]
      · have q : v ≠ x := by simpa using q
        have : m ≠ k := fun e => by subst e; rw [hk] at hx; cases hx; exact q rfl
        rw [wrapi (by omega) (by omega)]
        refine ⟨⟨rfl, m + 1, by omega, by omega⟩, ?_⟩
        show (l.length - ((m : Int) + 1)).toNat < (l.length - (m : Int)).toNat
        omega
    · have hge := of_decide_eq_false hge
      omega
  · refine ⟨-1, by simp [hv], ?_⟩
    apply v62; unfold F62
    refine ⟨fun i H1 => H1 = H ∧ ∃ m : Nat, i = m ∧ m ≤ l.length, fun i _ => (l.length - i).toNat, ⟨rfl, 0, rfl, by omega⟩, fun i H1 r => ?_⟩
    obtain ⟨hH, m, rfl, hm⟩ := r
    subst hH
    refine ⟨fun hlt => ?_, fun hge => ⟨rfl, Sub.refl _⟩⟩
    have hlt := of_decide_eq_true hlt
    obtain ⟨x, hx⟩ := get_some (l := l) (i := m) (by omega)
    obtain ⟨a, ha, hat⟩ := h.at_ m x hx
    refine ⟨a, ⟨ha, by omega, by omega⟩, x, hat, fun q => ?_, fun q => ?_⟩
    · have q : v = x := by simpa using q
      subst q; exact absurd (List.mem_of_getElem? hx) hv
    · rw [wrapi (by omega) (by omega)]
      refine ⟨⟨rfl, m + 1, by omega, by omega⟩, ?_⟩
      show (l.length - ((m : Int) + 1)).toNat < (l.length - (m : Int)).toNat
      omega
theorem t55 {l : List Int} (hb : l.length ≤ 9223372036854775807) {H : Heap} {A : Option Addr} {n c : Nat} (h : HasI H A n l) (v : Int) :
    Tr Try.prog 55 #[.slice A n c, .int .i64 v] H (fun r H' => r = .bool (l.contains v) ∧ Sub H H') := by
  obtain ⟨x, hx, ht⟩ := t62 (c := c) hb h v
  apply v55; unfold F55
  exact ⟨x, ht, by rw [hx], Sub.refl _⟩
end Go.Proofs.Ytbojjcmhdklhbaa
