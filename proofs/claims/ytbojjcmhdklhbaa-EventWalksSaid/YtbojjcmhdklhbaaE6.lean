/- Events: rows of events: contracts of Pack, Unpack, Same (the program's and the document's). Conditions: numbers and lengths in range, the events in memory. -/
import Derived.Test.YtbojjcmhdklhbaaE4
import Derived.Test.YtbojjcmhdklhbaaV5
set_option maxRecDepth 100000
namespace Go.Proofs.Ytbojjcmhdklhbaa
open Go.Ax

structure HasEvs (H : Heap) (A : Option Addr) (n : Nat) (l : List Ev) : Prop where
  len : n = l.length
  at_ : ∀ i x, l[i]? = some x → ∃ a, A = some a ∧ At H (a.add (i * 9)) x.cells
theorem HasEvs.sub {H H' : Heap} {A : Option Addr} {n : Nat} {l : List Ev} (h : HasEvs H A n l) (k : Sub H H') : HasEvs H' A n l :=
  ⟨h.len, fun i x e => let ⟨a, ha, hat⟩ := h.at_ i x e; ⟨a, ha, hat.sub k⟩⟩
theorem flat_get : ∀ (l : List Ev) (i : Nat) (x : Ev) (j : Nat) (v : Value), l[i]? = some x → x.cells[j]? = some v → (l.flatMap Ev.cells)[i * 9 + j]? = some v
  | y :: l, 0, x, j, v, h, hv => by
    simp at h; subst h
    rw [List.flatMap_cons, List.getElem?_append_left (by have := get_lt hv; omega)]
    rw [Nat.zero_mul, Nat.zero_add]; exact hv
  | y :: l, i + 1, x, j, v, h, hv => by
    have e : (i + 1) * 9 + j = y.cells.length + (i * 9 + j) := by have : y.cells.length = 9 := rfl; omega
    rw [List.flatMap_cons, e, List.getElem?_append_right (by omega)]
    have e2 : y.cells.length + (i * 9 + j) - y.cells.length = i * 9 + j := by omega
    rw [e2]
    exact flat_get l i x j v (by simpa using h) hv
theorem flat_len (l : List Ev) : (l.flatMap Ev.cells).length = l.length * 9 := by
  induction l with
  | nil => rfl
  | cons x l ih => rw [List.flatMap_cons, List.length_append, ih]; have : x.cells.length = 9 := rfl; simp; omega
theorem OwnS.evs {H H1 : Heap} {A : Option Addr} {n c : Nat} {l : List Ev} (h : OwnS H H1 A n c 9 (l.flatMap Ev.cells)) : HasEvs H1 A n l := by
  refine ⟨by have := h.len; rw [flat_len] at this; omega, fun i x hx => ?_⟩
  rcases h.src with e | ⟨a, ha, hat⟩
  · have : l.length = 0 := by have := flat_len l; rw [e] at this; simp only [List.length_nil] at this; omega
    have := get_lt hx; omega
  · obtain ⟨c0, t, fz, h1, h2, h3⟩ := hat.out
    have d := at_drop (i * 9) hat
    obtain ⟨c1, t1, f1, g1, g2, g3⟩ := d.out
    refine ⟨a, ha, ⟨⟨c1, t1, f1, g1, g2, fun j v hv => g3 j v ?_⟩⟩⟩
    rw [List.getElem?_drop]; exact flat_get l i x j v hx hv

/-! ### writing -/
theorem encM_len {x : Ev} (h : validM x = true) : (encM x).length ≤ 90 := by
  have := pre_len h (fieldsM x.kind).toNat
  rw [all_str (Nat.le_refl _)] at this; exact this
def packS (l : List Ev) : ByteArray := if l.all validM = true then strOf (l.flatMap encM) else ⟨#[]⟩
def packE (l : List Ev) : Int := if l.all validM = true then 0 else 54
def packV (l : List Ev) : Value := .tuple #[.string (packS l), .int .i64 (packE l)]
theorem flatB_len : ∀ l : List Ev, (∀ x ∈ l, validM x = true) → (l.flatMap encM).length ≤ 90 * l.length
  | [], _ => by simp
  | x :: l, h => by
    have h1 := encM_len (h x (List.mem_cons_self ..))
    have h2 := flatB_len l fun y hy => h y (List.mem_cons_of_mem _ hy)
    rw [List.flatMap_cons, List.length_append, List.length_cons]; omega
structure RPk (l : List Ev) (H : Heap) (s : ByteArray) (i : Int) (H1 : Heap) : Prop where
  heap : H1 = H
  k : ∃ k : Nat, i = k ∧ k ≤ l.length ∧ s = strOf ((l.take k).flatMap encM) ∧ ∀ x ∈ l.take k, validM x = true
theorem pack_bad {l : List Ev} {k : Nat} {x : Ev} (hx : l[k]? = some x) (h : (encE x != 0) = true) : Value.tuple #[.string ⟨#[]⟩, .int .i64 (encE x)] = packV l := by
  have hv : ¬ validM x = true := by intro hv; unfold encE at h; rw [if_pos hv] at h; cases h
  have hn : ¬ l.all validM = true := fun ha => hv (List.all_eq_true.1 ha x (List.mem_of_getElem? hx))
  unfold packV packS packE encE; rw [if_neg hn, if_neg hn, if_neg hv]
theorem pack_good {x : Ev} (h : (encE x != 0) = false) : validM x = true := by
  unfold encE at h
  split at h
  · assumption
  · cases h
theorem RPk.next {l : List Ev} {H H1 : Heap} {s : ByteArray} {k : Nat} {x : Ev} (hb : l.length ≤ 100000000000000000) (r : RPk l H s k H1) (hx : l[k]? = some x) (hv : validM x = true) :
    s.size + (encS x).size ≤ 9223372036854775807 ∧ RPk l H (s ++ encS x) (IntKind.i64.wrap ((k : Int) + 1)) H1 ∧ (l.length - IntKind.i64.wrap ((k : Int) + 1)).toNat < (l.length - (k : Int)).toNat := by
  obtain ⟨k', hk', hl, hs, hall⟩ := r.k
  have : k' = k := by omega
  subst this
  have hk := get_lt hx
  have h1 := flatB_len (l.take k') hall
  have h2 := encM_len hv
  have h3 : (l.take k').length ≤ l.length := by simp; omega
  have ee : encS x = strOf (encM x) := by unfold encS; rw [if_pos hv]
  rw [wrapi (by omega) (by omega), ee]
  refine ⟨by rw [hs, strOf_size, strOf_size]; omega, ⟨r.heap, k' + 1, by omega, by omega, ?_, fun y hy => ?_⟩, by omega⟩
  · rw [hs, strOf_app, List.take_add_one, hx]; simp
  · rw [List.take_add_one, hx] at hy
    rcases List.mem_append.1 hy with hy | hy
    · exact hall y hy
    · simp at hy; subst hy; exact hv
theorem RPk.done {l : List Ev} {H H1 : Heap} {s : ByteArray} {k : Nat} (r : RPk l H s k H1) (h : ¬ (k : Int) < l.length) : Value.tuple #[.string s, .int .i64 0] = packV l := by
  obtain ⟨k', hk', hl, hs, hall⟩ := r.k
  have : k' = l.length := by omega
  subst this
  rw [List.take_of_length_le (Nat.le_refl _)] at hs hall
  unfold packV packS packE; rw [if_pos (List.all_eq_true.2 hall), if_pos (List.all_eq_true.2 hall), hs]
theorem t26 {l : List Ev} (hw : ∀ x ∈ l, x.Wf) (hb : l.length ≤ 100000000000000000) {H : Heap} {A : Option Addr} {n c : Nat} (h : HasEvs H A n l) : Tr Try.prog 26 #[.slice A n c] H (fun v H' => v = packV l ∧ Sub H H') := by
  have hn := h.len; subst hn
  apply v26; unfold F26
  refine ⟨RPk l H, fun _ i _ => (l.length - i).toNat, ⟨rfl, 0, rfl, by omega, rfl, by simp⟩, fun s i H1 r => ?_⟩
  have hH := r.heap; subst hH
  obtain ⟨k, rfl, hk, hs, hall⟩ := r.k
  refine ⟨fun hlt => ?_, fun hge => ⟨r.done (of_decide_eq_false hge), Sub.refl _⟩⟩
  have hlt := of_decide_eq_true hlt
  obtain ⟨x, hx⟩ := get_some (l := l) (i := k) (by omega)
  obtain ⟨a, ha, hat⟩ := h.at_ k x hx
  refine ⟨a, ⟨ha, by omega, by omega⟩, _, _, _, _, _, _, _, _, _, hat, _, _, t16 x (hw x (List.mem_of_getElem? hx)) H1, fun he => ⟨pack_bad hx he, Sub.refl _⟩, fun he => r.next hb hx (pack_good he)⟩
theorem t27 {l : List Ev} (hb : l.length ≤ 100000000000000000) {H : Heap} {A : Option Addr} {n c : Nat} (h : HasEvs H A n l) : Tr Try.prog 27 #[.slice A n c] H (fun v H' => v = packV l ∧ Sub H H') := by
  have hn := h.len; subst hn
  apply v27; unfold F27
  refine ⟨RPk l H, fun _ i _ => (l.length - i).toNat, ⟨rfl, 0, rfl, by omega, rfl, by simp⟩, fun s i H1 r => ?_⟩
  have hH := r.heap; subst hH
  obtain ⟨k, rfl, hk, hs, hall⟩ := r.k
  refine ⟨fun hlt => ?_, fun hge => ⟨r.done (of_decide_eq_false hge), Sub.refl _⟩⟩
  have hlt := of_decide_eq_true hlt
  obtain ⟨x, hx⟩ := get_some (l := l) (i := k) (by omega)
  obtain ⟨a, ha, hat⟩ := h.at_ k x hx
  refine ⟨a, ⟨ha, by omega, by omega⟩, _, _, _, _, _, _, _, _, _, hat, _, _, t17 x H1, fun he => ⟨pack_bad hx he, Sub.refl _⟩, fun he => r.next hb hx (pack_good he)⟩

/-! ### comparing -/
def Ev.beq (x y : Ev) : Bool := x.id == y.id && (x.time == y.time && (x.kind == y.kind && (x.a == y.a && (x.b == y.b && (x.c == y.c && (x.d == y.d && (x.e == y.e && (x.f == y.f && true))))))))
theorem Ev.beq_iff {x y : Ev} : x.beq y = true ↔ x = y := by
  unfold Ev.beq
  simp only [Bool.and_eq_true, beq_iff_eq]
  constructor
  · intro ⟨h0, h1, h2, h3, h4, h5, h6, h7, h8, _⟩
    cases x; cases y; simp_all
  · intro h; subst h; simp
def sameM (l m : List Ev) : Bool := decide (l.length = m.length) && (List.range l.length).all fun k => match l[k]?, m[k]? with | some x, some y => x.beq y | _, _ => false
theorem sameM_iff {l m : List Ev} : sameM l m = true ↔ l = m := by
  unfold sameM
  simp only [Bool.and_eq_true, decide_eq_true_eq, List.all_eq_true, List.mem_range]
  constructor
  · intro ⟨h1, h2⟩
    apply List.ext_getElem? ; intro k
    rcases Nat.lt_or_ge k l.length with hk | hk
    · have := h2 k hk
      rw [List.getElem?_eq_getElem hk, List.getElem?_eq_getElem (by omega)] at this ⊢
      rw [Ev.beq_iff.1 this]
    · rw [List.getElem?_eq_none hk, List.getElem?_eq_none (by omega)]
  · intro h; subst h
    refine ⟨rfl, fun k hk => ?_⟩
    rw [List.getElem?_eq_getElem hk]; exact Ev.beq_iff.2 rfl
structure RSm (l m : List Ev) (H : Heap) (i : Int) (H1 : Heap) : Prop where
  heap : H1 = H
  k : ∃ k : Nat, i = k ∧ k ≤ l.length ∧ ∀ j, j < k → l[j]? = m[j]?
theorem t30 {l m : List Ev} (hb : l.length ≤ 9223372036854775807) {H : Heap} {A B : Option Addr} {n c n' c' : Nat} (h : HasEvs H A n l) (h' : HasEvs H B n' m) : Tr Try.prog 30 #[.slice A n c, .slice B n' c'] H (fun v H' => v = .bool (sameM l m) ∧ Sub H H') := by
  have hn := h.len; have hm := h'.len; subst hn hm
  apply v30; unfold F30
  refine ⟨fun he => ⟨?_, Sub.refl _⟩, fun he => ⟨RSm l m H, fun i _ => (l.length - i).toNat, ⟨rfl, 0, rfl, by omega, fun j hj => absurd hj (by omega)⟩, fun i H1 r => ?_⟩⟩
  · have : sameM l m = false := by
      cases hs : sameM l m with
      | false => rfl
      | true => rw [sameM_iff.1 hs] at he; simp at he
    rw [this]
  · have he : l.length = m.length := by have : (l.length : Int) = m.length := by simpa using he
                                        omega
    have hH := r.heap; subst hH
    obtain ⟨k, rfl, hk, hs⟩ := r.k
    refine ⟨fun hlt => ?_, fun hge => ⟨?_, Sub.refl _⟩⟩
    · have hlt := of_decide_eq_true hlt
      obtain ⟨x, hx⟩ := get_some (l := l) (i := k) (by omega)
      obtain ⟨y, hy⟩ := get_some (l := m) (i := k) (by omega)
      obtain ⟨a, ha, hat⟩ := h.at_ k x hx
      obtain ⟨b, hb', hbt⟩ := h'.at_ k y hy
      refine ⟨a, ⟨ha, by omega, by omega⟩, _, _, _, _, _, _, _, _, _, hat, b, ⟨hb', by omega, by omega⟩, _, _, _, _, _, _, _, _, _, hbt, ?_⟩
      show ((!(x.beq y)) = true → _) ∧ ((!(x.beq y)) = false → _)
      refine ⟨fun e => ⟨?_, Sub.refl _⟩, fun e => ?_⟩
      · have : sameM l m = false := by
          cases hs : sameM l m with
          | false => rfl
          | true =>
            have := sameM_iff.1 hs; subst this
            rw [hx] at hy; cases hy
            rw [Ev.beq_iff.2 rfl] at e; cases e
        rw [this]
      · have e : x = y := Ev.beq_iff.1 (by simpa using e)
        rw [wrapi (by omega) (by omega)]
        refine ⟨⟨rfl, k + 1, by omega, by omega, fun j hj => ?_⟩, show (l.length - ((k : Int) + 1)).toNat < (l.length - (k : Int)).toNat by omega⟩
        by_cases hjk : j = k
        · subst hjk; rw [hx, hy, e]
        · exact hs j (by omega)
    · have hge := of_decide_eq_false hge
      have : sameM l m = true := sameM_iff.2 (by
        apply List.ext_getElem?; intro j
        rcases Nat.lt_or_ge j l.length with hj | hj
        · exact hs j (by omega)
        · rw [List.getElem?_eq_none hj, List.getElem?_eq_none (by omega)])
      rw [this]

/-! ### reading -/
theorem heads_range : ∀ (j : Nat) (s : List UInt8) (p : Nat) (l l' : List Nat) (q : Nat), p ≤ s.length → heads j s p l = .ok (l', q) → p + j ≤ q ∧ q ≤ s.length
  | 0, s, p, l, l', q, hp, h => by simp [heads] at h; omega
  | j + 1, s, p, l, l', q, hp, h => by
    unfold heads at h
    split at h
    · cases h
    · rename_i he
      split at h
      · cases h
      · have he : (takeU (s.drop p)).2.2 = 0 := by simpa using he
        rcases ht : takeU (s.drop p) with ⟨m, k, e⟩
        rw [ht] at he h
        have he : e = 0 := he
        subst he
        obtain ⟨_, hk, t, hst⟩ := takeU_some ht
        have hpos := putU_pos m
        have hlen : (s.drop p).length = (putU m).length + t.length := by rw [hst]; simp
        rw [List.length_drop] at hlen
        have := heads_range j s (p + k) _ _ _ (by omega) h
        omega
theorem rest_range : ∀ (j : Nat) (s : List UInt8) (p : Nat) (l l' : List Int) (q : Nat), p ≤ s.length → rest j s p l = .ok (l', q) → p ≤ q ∧ q ≤ s.length
  | 0, s, p, l, l', q, hp, h => by simp [rest] at h; omega
  | j + 1, s, p, l, l', q, hp, h => by
    unfold rest at h
    split at h
    · cases h
    · rename_i he
      have he : (takeI (s.drop p)).2.2 = 0 := by simpa using he
      have hl := takeI_len he
      rw [List.length_drop] at hl
      have := rest_range j s _ _ _ _ (by omega) h
      omega
theorem dec_range {s : List UInt8} (h : (decM s).2.2 = 0) : 3 ≤ (decM s).2.1 ∧ (decM s).2.1 ≤ s.length := by
  unfold decM at h ⊢
  cases hh : heads 3 s 0 [] with
  | error e =>
    rw [hh] at h; simp only at h
    exfalso
    have : ∀ (j : Nat) (p : Nat) (l : List Nat) (e : Nat), heads j s p l = .error e → e ≠ 0 := by
      intro j
      induction j with
      | zero => intro p l e h; simp [heads] at h
      | succ j ih =>
        intro p l e h
        unfold heads at h
        split at h
        · rename_i hne; cases h; exact hne
        · split at h
          · cases h; decide
          · exact ih _ _ _ h
    exact this _ _ _ _ hh h
  | ok v =>
    obtain ⟨l, p⟩ := v
    rw [hh] at h; simp only at h ⊢
    have hr := heads_range 3 s 0 [] l p (by omega) hh
    unfold decTail at h ⊢
    split at h
    · cases h
    · rename_i hf
      rw [if_neg hf]
      cases hq : rest (fieldsM (l[2]?.getD 0 : Nat)).toNat s p [] with
      | error e =>
        rw [hq] at h; simp only at h
        exfalso
        have : ∀ (j : Nat) (p : Nat) (l : List Int) (e : Nat), rest j s p l = .error e → e ≠ 0 := by
          intro j
          induction j with
          | zero => intro p l e h; simp [rest] at h
          | succ j ih =>
            intro p l e h
            unfold rest at h
            split at h
            · rename_i hne; cases h; exact hne
            · exact ih _ _ _ h
        exact this _ _ _ _ hq h
      | ok v =>
        obtain ⟨l2, q⟩ := v
        rw [hq] at h; simp only at h ⊢
        have h2 := rest_range _ s p [] l2 q (by omega) hq
        split at h
        · rename_i hv; rw [if_pos hv]; simp only; omega
        · cases h
def unpG : Nat → List UInt8 → Nat → List Ev → List Ev × Nat × Nat
  | 0, _, _, out => (out, 0, 0)
  | f + 1, s, p, out => if p < s.length then if (decM (s.drop p)).2.2 ≠ 0 then (out, (decM (s.drop p)).2.2, p) else unpG f s (p + (decM (s.drop p)).2.1) (out ++ [(decM (s.drop p)).1]) else (out, 0, 0)
def unpM (s : List UInt8) : List Ev × Nat × Nat := unpG (s.length + 1) s 0 []
theorem unpG_len : ∀ (f : Nat) (s : List UInt8) (p : Nat) (out : List Ev), out.length ≤ (unpG f s p out).1.length
  | 0, s, p, out => Nat.le_refl _
  | f + 1, s, p, out => by
    unfold unpG
    split
    · split
      · exact Nat.le_refl _
      · have := unpG_len f s (p + (decM (s.drop p)).2.1) (out ++ [(decM (s.drop p)).1])
        simp at this; omega
    · exact Nat.le_refl _
/-- what Unpack gives: nothing, where it fails -/
def unpL (s : List UInt8) : List Ev := if (unpM s).2.1 = 0 then (unpM s).1 else []
structure RU (s : ByteArray) (p : Int) (q : Nat) (out : List Ev) (f : Nat) : Prop where
  pe : p = (q : Int)
  at_ : q ≤ s.size
  fuel : s.size < f + q
  eq : unpM s.data.toList = unpG f s.data.toList q out
theorem RU.zero (s : ByteArray) : RU s 0 0 [] (s.size + 1) := ⟨rfl, by omega, by omega, by unfold unpM; rw [← size_list]⟩
theorem RU.unf {s : ByteArray} {p : Int} {q : Nat} {out : List Ev} {f : Nat} (r : RU s p q out f) (h : p < s.size) : ∃ g, f = g + 1 ∧
    unpM s.data.toList = if (decM (s.data.toList.drop q)).2.2 ≠ 0 then (out, (decM (s.data.toList.drop q)).2.2, q) else unpG g s.data.toList (q + (decM (s.data.toList.drop q)).2.1) (out ++ [(decM (s.data.toList.drop q)).1]) := by
  have h1 := r.pe; have h2 := r.fuel; have h3 := size_list s
  refine ⟨f - 1, by omega, ?_⟩
  rw [r.eq]
  have e : f = (f - 1) + 1 := by omega
  rw [e, unpG, if_pos (by omega)]
  simp
theorem RU.err {s : ByteArray} {p : Int} {q : Nat} {out : List Ev} {f : Nat} (r : RU s p q out f) (h : p < s.size) (he : (((decM (s.data.toList.drop q)).2.2 : Int) != 0) = true) :
    unpM s.data.toList = (out, (decM (s.data.toList.drop q)).2.2, q) ∧ unpL s.data.toList = [] := by
  obtain ⟨g, -, e⟩ := r.unf h
  have hne : (decM (s.data.toList.drop q)).2.2 ≠ 0 := by intro e'; rw [e'] at he; cases he
  rw [if_pos hne] at e
  refine ⟨e, ?_⟩
  unfold unpL; rw [e, if_neg hne]
theorem RU.next {s : ByteArray} (hs : s.size ≤ 9223372036854775807) {p : Int} {q : Nat} {out : List Ev} {f : Nat} (r : RU s p q out f) (h : p < s.size) (he : (((decM (s.data.toList.drop q)).2.2 : Int) != 0) = false) :
    (∃ g, RU s (IntKind.i64.wrap (p + (decM (s.data.toList.drop q)).2.1)) (q + (decM (s.data.toList.drop q)).2.1) (out ++ [(decM (s.data.toList.drop q)).1]) g) ∧
    (s.size - IntKind.i64.wrap (p + (decM (s.data.toList.drop q)).2.1)).toNat < (s.size - p).toNat ∧ out.length + 1 ≤ (unpM s.data.toList).1.length := by
  obtain ⟨g, hg, e⟩ := r.unf h
  have h0 := ne_false he
  rw [if_neg (by rw [h0]; simp)] at e
  obtain ⟨h1, h2⟩ := dec_range h0
  rw [List.length_drop] at h2
  have h3 := size_list s; have hp := r.pe; have hq := r.at_; have hf := r.fuel
  rw [wrapi (by omega) (by omega)]
  refine ⟨⟨g, by omega, by omega, by omega, e⟩, by omega, ?_⟩
  rw [e]
  have := unpG_len g s.data.toList (q + (decM (s.data.toList.drop q)).2.1) (out ++ [(decM (s.data.toList.drop q)).1])
  simp at this; omega
theorem RU.done {s : ByteArray} {p : Int} {q : Nat} {out : List Ev} {f : Nat} (r : RU s p q out f) (h : ¬ p < s.size) : unpM s.data.toList = (out, 0, 0) ∧ unpL s.data.toList = out := by
  have h1 := r.pe; have h3 := size_list s
  have e : unpM s.data.toList = (out, 0, 0) := by
    rw [r.eq]
    cases f with
    | zero => rfl
    | succ f => rw [unpG, if_neg (by omega)]
  refine ⟨e, ?_⟩
  unfold unpL; rw [e]; rfl
/-- What Unpack leaves: a slice of its own. -/
structure UnpV (s : List UInt8) (H : Heap) (v : Value) (H' : Heap) (A : Option Addr) (n c : Nat) : Prop where
  val : v = .tuple #[.slice A n c, .int .i64 (unpM s).2.1, .int .i64 (unpM s).2.2]
  own : OwnS H H' A n c 9 ((unpL s).flatMap Ev.cells)
theorem unp_app {H H1 : Heap} {A : Option Addr} {n c : Nat} {out : List Ev} {x : Ev} (o : OwnS H H1 A n c 9 (out.flatMap Ev.cells)) (hb : (out.length + 1) * 72 ≤ 140737488355328)
    {K : Option Addr → Nat → Nat → Heap → Prop} (k : ∀ A' c' H', OwnS H H' A' (n + 1) c' 9 ((out ++ [x]).flatMap Ev.cells) → K A' (n + 1) c' H') : appC 23 9 72 H1 A n c x.cells 1 K := by
  have hn : n = out.length := by have := o.len; rw [flat_len] at this; omega
  subst hn
  exact own_app o rfl rfl hb (by omega) fun A' c' H' h => k A' c' H' (by rw [List.flatMap_append]; simpa using h)
theorem t28 (s : ByteArray) (hs : s.size ≤ 9223372036854775807) (hb : (unpM s.data.toList).1.length * 72 ≤ 140737488355328) (H : Heap) :
    Tr Try.prog 28 #[.string s] H (fun v H' => ∃ A n c, UnpV s.data.toList H v H' A n c) := by
  apply v28; unfold F28
  refine ⟨fun A n c p H1 => ∃ q out f, RU s p q out f ∧ OwnS H H1 A n c 9 (out.flatMap Ev.cells), fun _ _ _ p _ => (s.size - p).toNat, ⟨0, [], _, RU.zero s, OwnS.nil H 9⟩, fun A n c p H1 ⟨q, out, f, r, o⟩ => ?_⟩
  have hp := r.pe; have hq := r.at_
  refine ⟨fun hlt => ?_, fun hge => ?_⟩
  · have hlt := of_decide_eq_true hlt
    have hl : (s.extract p.toNat s.size).size ≤ 9223372036854775807 := by rw [size_list, drop_q hp, List.length_drop, ← size_list]; omega
    have tt := t18 (s.extract p.toNat s.size) hl H1
    rw [drop_q hp] at tt
    refine ⟨⟨by omega, by omega⟩, tt.mono fun v H' hv => ?_⟩
    obtain ⟨rfl, hsub⟩ := hv
    refine ⟨_, _, _, _, _, _, _, _, _, _, _, rfl, fun he => ?_, fun he => ?_⟩
    · obtain ⟨e1, e2⟩ := r.err hlt he
      refine ⟨none, 0, 0, by rw [e1, hp], ?_⟩
      rw [e2]
      exact (OwnS.nil H 9).grow (o.sub.trans hsub)
    · obtain ⟨⟨g, r'⟩, m, hc⟩ := r.next hs hlt he
      exact unp_app (o.grow hsub) (Nat.le_trans (Nat.mul_le_mul_right _ hc) hb) fun A' c' H2 o' => ⟨⟨_, _, g, r', o'⟩, m⟩
  · obtain ⟨e1, e2⟩ := r.done (of_decide_eq_false hge)
    exact ⟨A, n, c, by rw [e1]; rfl, by rw [e2]; exact o⟩
theorem t29 (s : ByteArray) (hs : s.size ≤ 9223372036854775807) (hb : (unpM s.data.toList).1.length * 72 ≤ 140737488355328) (H : Heap) :
    Tr Try.prog 29 #[.string s] H (fun v H' => ∃ A n c, UnpV s.data.toList H v H' A n c) := by
  apply v29; unfold F29
  refine ⟨fun A n c p H1 => ∃ q out f, RU s p q out f ∧ OwnS H H1 A n c 9 (out.flatMap Ev.cells), fun _ _ _ p _ => (s.size - p).toNat, ⟨0, [], _, RU.zero s, OwnS.nil H 9⟩, fun A n c p H1 ⟨q, out, f, r, o⟩ => ?_⟩
  have hp := r.pe; have hq := r.at_
  refine ⟨fun hlt => ?_, fun hge => ?_⟩
  · have hlt := of_decide_eq_true hlt
    have hl : (s.extract p.toNat s.size).size ≤ 9223372036854775807 := by rw [size_list, drop_q hp, List.length_drop, ← size_list]; omega
    have tt := t19 (s.extract p.toNat s.size) hl H1
    rw [drop_q hp] at tt
    refine ⟨⟨by omega, by omega⟩, tt.mono fun v H' hv => ?_⟩
    obtain ⟨rfl, hsub⟩ := hv
    refine ⟨_, _, _, _, _, _, _, _, _, _, _, rfl, fun he => ?_, fun he => ?_⟩
    · obtain ⟨e1, e2⟩ := r.err hlt he
      refine ⟨none, 0, 0, by rw [e1, hp], ?_⟩
      rw [e2]
      exact (OwnS.nil H 9).grow (o.sub.trans hsub)
    · obtain ⟨⟨g, r'⟩, m, hc⟩ := r.next hs hlt he
      exact unp_app (o.grow hsub) (Nat.le_trans (Nat.mul_le_mul_right _ hc) hb) fun A' c' H2 o' => ⟨⟨_, _, g, r', o'⟩, m⟩
  · obtain ⟨e1, e2⟩ := r.done (of_decide_eq_false hge)
    exact ⟨A, n, c, by rw [e1]; rfl, by rw [e2]; exact o⟩
end Go.Proofs.Ytbojjcmhdklhbaa
