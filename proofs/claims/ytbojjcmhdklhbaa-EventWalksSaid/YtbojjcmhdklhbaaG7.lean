/- Grammar: what is still open: contracts of the document's Open and of grammar.Open; the list that is shown. Conditions: the events in memory, each well formed. -/
import Derived.Test.YtbojjcmhdklhbaaG6
import Derived.Test.YtbojjcmhdklhbaaV7
set_option maxRecDepth 100000
namespace Go.Proofs.Ytbojjcmhdklhbaa
open Go.Ax

/-! ### the plain rule -/
def opA (l : List Ev) (kind id : Int) : Bool :=
  if kind == 3 then !anyP l id [6, 22, 23, 24] else if kind == 4 then !anyP l id [7, 25] else if kind == 5 then !anyP l id [27, 28] else !anyP l id [13, 14]
def opX (l : List Ev) (i : Nat) : Bool := opA l ((l[i]?).getD Ev.zero).kind (i + 1)
def opK (l : List Ev) (i : Nat) : Bool := hasM [3, 4, 5, 21] ((l[i]?).getD Ev.zero).kind
def ints (is : List Nat) : List Value := is.map fun i : Nat => Value.int .i64 (i : Int)
def openN (l : List Ev) : List Nat := (List.range l.length).filter fun i => opK l i && opX l i
def openG (l : List Ev) : List Int := (openN l).map fun i : Nat => (i : Int)
theorem standG_all : ∀ (l pre : List Ev), standG pre l = l.length → ∀ j x, l[j]? = some x → mayP (pre ++ l.take j) x = true
  | [], _, _, j, x, h => by simp at h
  | y :: l, pre, hs, j, x, h => by
    unfold standG at hs
    split at hs
    · rename_i hm
      cases j with
      | zero => simp at h; subst h; simpa using hm
      | succ j =>
        have := standG_all l (pre ++ [y]) (by simpa using hs) j x (by simpa using h)
        simpa using this
    · simp at hs
theorem may_id {pre : List Ev} {e : Ev} (h : mayP pre e = true) : e.id = pre.length + 1 := by
  unfold mayP at h
  split at h
  · cases h
  · rename_i hn
    by_cases q : e.id = pre.length + 1
    · exact q
    · exact absurd (by simp [bne, beq_eq_false_iff_ne.2 q]) hn
theorem stand_id {l : List Ev} (hs : stand l = l.length) {i : Nat} {x : Ev} (hx : l[i]? = some x) : x.id = i + 1 := by
  have := may_id (standG_all l [] hs i x hx)
  rw [List.nil_append, len_take (by have := get_lt hx; omega)] at this
  exact this
theorem ofY_eq (l : List Ev) (ks : List Int) : ofY l ks = (List.range l.length).filter fun i => hasM ks ((l[i]?).getD Ev.zero).kind := by
  unfold ofY ofU
  have h1 : (List.finRange l.length).take l.length = List.finRange l.length := by rw [List.take_of_length_le]; simp
  have h2 : (List.finRange l.length).map (fun i : Fin l.length => i.1) = List.range l.length := by
    apply List.ext_getElem
    · simp
    · intro i h1 h2; simp
  rw [h1, ← h2, List.filter_map]
  congr 1
  refine List.filter_congr fun i _ => ?_
  show hasM ks (l[i]).kind = hasM ks ((l[i.1]?).getD Ev.zero).kind
  rw [List.getElem?_eq_getElem i.2]; rfl
theorem openN_eq (l : List Ev) : (ofY l [3, 4, 5, 21]).filter (opX l) = openN l := by
  rw [ofY_eq, List.filter_filter]
  unfold openN
  refine List.filter_congr fun i _ => ?_
  rw [Bool.and_comm]; rfl

/-! ### owned lists of numbers -/
theorem own_intsI {H H1 : Heap} {A : Option Addr} {n c : Nat} {is : List Nat} (o : OwnS H H1 A n c 1 (ints is)) : HasI H1 A n (is.map fun i : Nat => (i : Int)) := by
  refine ⟨by have := o.len; simp [ints] at this; simp; omega, fun i x hx => ?_⟩
  have hv : (ints is)[i]? = some (.int .i64 x) := by
    simp only [List.getElem?_map, Option.map_eq_some_iff] at hx
    obtain ⟨j, hj, rfl⟩ := hx
    simp [ints, hj]
  obtain ⟨a, ha, hat⟩ := own_get o hv
  exact ⟨a, ha, by rw [Nat.mul_one]; exact hat⟩
theorem own_new {H H1 : Heap} {A : Option Addr} {n c sz : Nat} {cs : List Value} (h : OwnS H H1 A n c sz cs) {b : Nat} (o : Obj) (hb : H1 b = none) : OwnS H (H1.upd b o) A n c sz cs := by
  refine ⟨h.sub.trans (Sub.upd_new hb), h.len, h.cap, ?_⟩
  rcases h.at_ with q | ⟨bb, cur, T, q0, q1, q2, q3, q4⟩
  · exact .inl q
  · have hne : bb ≠ b := fun e => by subst e; rw [q2] at hb; cases hb
    exact .inr ⟨bb, cur, T, q0, q1, by rw [Heap.upd_other hne]; exact q2, q3, q4⟩
theorem own_cut {H H1 : Heap} {A : Option Addr} {n c sz : Nat} {cs : List Value} (h : OwnS H H1 A n c sz cs) : OwnS H (cutN H H1) A n c sz cs := by
  refine ⟨cutN_keep (Sub.refl _) h.sub, h.len, h.cap, ?_⟩
  rcases h.at_ with q | ⟨bb, cur, T, q0, q1, q2, q3, q4⟩
  · exact .inl q
  · exact .inr ⟨bb, cur, T, q0, q1, by unfold cutN; rw [q2]; rfl, q3, q4⟩
def OpenV (l : List Ev) (H : Heap) (v : Value) (H' : Heap) : Prop := ∃ A n c, v = .tuple #[.slice A n c, .int .i64 (if stand l < l.length then 52 else 0)] ∧ HasI H' A n (if stand l < l.length then [] else openG l) ∧ Sub H H'
theorem hasI_nil (H : Heap) : HasI H none 0 [] := ⟨rfl, fun i x h => by simp at h⟩

/-! ### the document's -/
structure RO (l : List Ev) (H : Heap) (A : Option Addr) (n c : Nat) (i : Int) (H1 : Heap) : Prop where
  k : ∃ m : Nat, i = m ∧ m ≤ l.length ∧ OwnS H H1 A n c 1 (ints ((List.range m).filter fun i => opK l i && opX l i))
theorem range_f (m : Nat) (p : Nat → Bool) : (List.range (m + 1)).filter p = (List.range m).filter p ++ (if p m = true then [m] else []) := by
  rw [List.range_succ, List.filter_append]
  congr 1
  simp [List.filter_cons]
theorem dg {l : List Ev} (hb : l.length ≤ 100000000000000000 ) (hb2 : l.length * 8 ≤ 140737488355328) {H H1 : Heap} {A : Option Addr} {c : Nat} (h : HasEvs H A l.length l) {B : Option Addr} {nb cb : Nat} {m : Nat} (hm : m < l.length)
    (o : OwnS H H1 B nb cb 1 (ints ((List.range m).filter fun i => opK l i && opX l i))) (ks : List Int) (hks : ks ≠ []) (hkb : ks.length ≤ 9223372036854775807) (hop : (opK l m && opX l m) = !anyP l (m + 1) ks) :
    ∀ b : Nat, H1 b = none → ∀ Hx : Heap, Hx = H1.upd b (.cells (ks.map (Value.int .i64)).toArray 3) → ∃ b1 : Bool,
      Tr Try.prog 60 #[.slice A l.length c, .int .i64 l.length, .int .i64 (IntKind.i64.wrap ((m : Int) + 1)), .slice (some ⟨b, 0, none⟩) ks.length ks.length] Hx (fun v H' => v = .bool b1 ∧ Sub Hx H') ∧
      ((!b1) = true → appC 3 1 8 Hx B nb cb [.int .i64 m] 1 fun A' n' c' H2 => RO l H A' n' c' (IntKind.i64.wrap ((m : Int) + 1)) H2 ∧ (l.length - IntKind.i64.wrap ((m : Int) + 1)).toNat < (l.length - (m : Int)).toNat) ∧
      ((!b1) = false → RO l H B nb cb (IntKind.i64.wrap ((m : Int) + 1)) Hx ∧ (l.length - IntKind.i64.wrap ((m : Int) + 1)).toNat < (l.length - (m : Int)).toNat) := by
  intro b hn Hx ex
  rw [wrapi (by omega) (by omega)]
  obtain ⟨s, i⟩ := newI hn ks ex
  have o' : OwnS H Hx B nb cb 1 (ints ((List.range m).filter fun i => opK l i && opX l i)) := by subst ex; exact own_new o _ hn
  have ht := t60 (c := c) hb (h.sub (o.sub.trans s)) (Nat.le_refl _) ((m : Int) + 1) (c' := ks.length) hks hkb i
  rw [List.take_length] at ht
  have hnb : nb ≤ m := by
    have h1 := o.len
    have h2 := List.length_filter_le (fun i => opK l i && opX l i) (List.range m)
    simp [ints] at h1 h2; omega
  refine ⟨_, ht, fun q => ?_, fun q => ⟨⟨m + 1, by omega, by omega, ?_⟩, by omega⟩⟩
  · refine own_app o' (m := 1) rfl rfl (Nat.le_trans (Nat.mul_le_mul_right 8 (show nb + 1 ≤ l.length by omega)) hb2) (by omega) fun A' c' H' o2 => ⟨⟨m + 1, by omega, by omega, ?_⟩, by omega⟩
    have : ints ((List.range (m + 1)).filter fun i => opK l i && opX l i) = ints ((List.range m).filter fun i => opK l i && opX l i) ++ [.int .i64 m] := by
      rw [range_f, if_pos (by rw [hop]; exact q)]; simp [ints]
    rw [this]; exact o2
  · rw [range_f, if_neg (by rw [hop, q]; simp), List.append_nil]; exact o'
theorem opK_of {l : List Ev} {m : Nat} {x : Ev} (hx : l[m]? = some x) : opK l m = hasM [3, 4, 5, 21] x.kind := by unfold opK; rw [hx]; rfl
theorem opX_of {l : List Ev} {m : Nat} {x : Ev} (hx : l[m]? = some x) : opX l m = opA l x.kind (m + 1) := by unfold opX; rw [hx]; rfl
theorem t37 {l : List Ev} (hb : l.length * 72 ≤ 140737488355328) {H : Heap} {A : Option Addr} {n c : Nat} (h : HasEvs H A n l) : Tr Try.prog 37 #[.slice A n c] H (OpenV l H) := by
  have hn := h.len; subst hn
  apply v37; unfold F37
  have hc : checkV l = .tuple #[.int .i64 (if stand l < l.length then 52 else 0), .int .i64 (if stand l < l.length then ((stand l : Nat) : Int) else 0)] := by unfold checkV; split <;> rfl
  refine ⟨_, _, by have := t35 (c := c) (by omega) h; rw [hc] at this; exact this, fun q => ?_, fun q => ?_⟩
  · have hs : stand l < l.length := by
      by_cases hs : stand l < l.length
      · exact hs
      · rw [if_neg hs] at q; simp at q
    exact ⟨_, _, _, rfl, by rw [if_pos hs]; exact hasI_nil _, Sub.refl _⟩
  have hs : ¬ stand l < l.length := by
    intro hs; rw [if_pos hs] at q; simp at q
  refine ⟨RO l H, fun _ _ _ i _ => (l.length - i).toNat, ⟨0, rfl, by omega, OwnS.nil _ _⟩, fun B nb cb i H1 r => ?_⟩
  obtain ⟨m, rfl, hm, o⟩ := r.k
  refine ⟨fun hlt => ?_, fun hge => ?_⟩
  · have hlt := of_decide_eq_true hlt
    have hml : m < l.length := by omega
    obtain ⟨x, hx⟩ := get_some (l := l) (i := m) hml
    obtain ⟨a, ha, hat⟩ := h.at_ m x hx
    refine ⟨a, ⟨ha, by omega, by omega⟩, x.kind, (at_one 2 hat rfl).sub o.sub, fun q1 => ?_, fun q1 => ⟨fun q2 => ?_, fun q2 => ⟨fun q3 => ?_, fun q3 => ⟨fun q4 => ?_, fun q4 => ?_⟩⟩⟩⟩
    · have q1 : x.kind = 3 := by simpa using q1
      exact dg (by omega) (by omega) h hml o [6, 22, 23, 24] (by simp) (by decide) (by rw [opK_of hx, opX_of hx, q1]; rfl)
    · have q2 : x.kind = 4 := by simpa using q2
      exact dg (by omega) (by omega) h hml o [7, 25] (by simp) (by decide) (by rw [opK_of hx, opX_of hx, q2]; rfl)
    · have q3 : x.kind = 5 := by simpa using q3
      exact dg (by omega) (by omega) h hml o [27, 28] (by simp) (by decide) (by rw [opK_of hx, opX_of hx, q3]; rfl)
    · have q4 : x.kind = 21 := by simpa using q4
      exact dg (by omega) (by omega) h hml o [13, 14] (by simp) (by decide) (by rw [opK_of hx, opX_of hx, q4]; rfl)
    · rw [wrapi (by omega) (by omega)]
      have z1 : ¬ x.kind = 3 := by simpa using q1
      have z2 : ¬ x.kind = 4 := by simpa using q2
      have z3 : ¬ x.kind = 5 := by simpa using q3
      have z4 : ¬ x.kind = 21 := by simpa using q4
      have : opK l m = false := by rw [opK_of hx]; simp [hasM, z1, z2, z3, z4]
      refine ⟨⟨m + 1, by omega, by omega, ?_⟩, ?_⟩
      · rw [range_f, if_neg (by rw [this]; simp), List.append_nil]; exact o
      · show (l.length - ((m : Int) + 1)).toNat < (l.length - (m : Int)).toNat
        omega
  · have hge := of_decide_eq_false hge
    have : m = l.length := by omega
    subst this
    exact ⟨_, _, _, by rw [if_neg hs], by rw [if_neg hs]; exact own_intsI o, o.sub⟩

/-! ### the program's -/
theorem pg {l : List Ev} (hb2 : l.length * 8 ≤ 140737488355328) {HB Hc : Heap} {b1 : Nat} (bk : Book HB b1 l) {B : Option Addr} {nb cb : Nat} {pre : List Nat} {i : Nat} (hpre : pre.length < l.length)
    (o : OwnS HB Hc B nb cb 1 (ints (pre.filter (opX l)))) (id : Int) (ks : List Int) (hkb : ks.length ≤ 9223372036854775807) (hop : opX l i = !anyP l id ks) :
    ∀ b : Nat, Hc b = none → ∀ Hx : Heap, Hx = Hc.upd b (.cells (ks.map (Value.int .i64)).toArray 3) → ∃ b2 : Bool,
      Tr Try.prog 59 #[.pointer (some ⟨b1, 0, none⟩), .int .i64 id, .slice (some ⟨b, 0, none⟩) ks.length ks.length] Hx (fun v H' => v = .bool b2 ∧ Sub Hx H') ∧
      (b2 = true → appC 3 1 8 Hx B nb cb [.int .i64 i] 1 fun A' n' c' H2 => OwnS HB (cutN HB H2) A' n' c' 1 (ints ((pre ++ [i]).filter (opX l))) ∧ Sub HB H2) ∧
      (b2 = false → OwnS HB (cutN HB Hx) B nb cb 1 (ints ((pre ++ [i]).filter (opX l))) ∧ Sub HB Hx) := by
  intro b hn Hx ex
  obtain ⟨s, hi⟩ := newI hn ks ex
  have o' : OwnS HB Hx B nb cb 1 (ints (pre.filter (opX l))) := by subst ex; exact own_new o _ hn
  have hnb : nb ≤ pre.length := by
    have h1 := o.len
    have h2 := List.length_filter_le (opX l) pre
    simp [ints] at h1; omega
  refine ⟨_, t59 (bk.sub (o.sub.trans s)) id (c' := ks.length) hkb hi, fun q => ?_, fun q => ⟨own_cut ?_, o'.sub⟩⟩
  · refine own_app o' (m := 1) rfl rfl (Nat.le_trans (Nat.mul_le_mul_right 8 (show nb + 1 ≤ l.length by omega)) hb2) (by omega) fun A' c' H' o2 => ⟨own_cut ?_, o2.sub⟩
    have : ints ((pre ++ [i]).filter (opX l)) = ints (pre.filter (opX l)) ++ [.int .i64 i] := by
      rw [List.filter_append, List.filter_cons, if_pos (by rw [hop]; exact q)]; simp [ints]
    rw [this]; exact o2
  · rw [List.filter_append, List.filter_cons, if_neg (by rw [hop, q]; simp)]; simpa using o'
theorem t36 {l : List Ev} (hw : ∀ x ∈ l, x.Wf) (hb : l.length * 72 ≤ 140737488355328) {H : Heap} {A : Option Addr} {n c : Nat} (h : HasEvs H A n l) : Tr Try.prog 36 #[.slice A n c] H (OpenV l H) := by
  have hn := h.len; subst hn
  apply v36; unfold F36
  refine (t57 hw hb h).mono fun v H' => ?_
  rintro ⟨b1, rfl, bk, s⟩
  refine ⟨_, _, rfl, fun q => ?_, fun q => ?_⟩
  · have q := of_decide_eq_true q
    have hs : stand l < l.length := by omega
    exact ⟨_, _, _, by rw [if_pos hs], by rw [if_pos hs]; exact hasI_nil _, s⟩
  have q := of_decide_eq_false q
  have hst : stand l = l.length := by have := stand_le l; omega
  have hs : ¬ stand l < l.length := by omega
  rw [hst, List.take_length] at bk
  intro b hb0 H1 e1
  obtain ⟨s1, hi1⟩ := newI hb0 [3, 4, 5, 21] e1
  apply v32; unfold F32
  intro x1 hx1 H2 e2 x2 hx2 H3 e3
  have s2 : Sub H1 H2 := by subst e2; exact Sub.upd_new hx1
  have s3 : Sub H2 H3 := by subst e3; exact Sub.upd_new hx2
  have n12 : x1 ≠ x2 := fun e => by subst e; rw [e2, Heap.upd_same] at hx2; cases hx2
  have g1 : H3 x1 = some (.cells #[.slice A l.length c] 38 (0, 0)) := by rw [e3, Heap.upd_other n12, e2]; exact Heap.upd_same
  have g2 : H3 x2 = some (.cells #[.slice (some ⟨b, 0, none⟩) 4 4] 47 (0, 0)) := by rw [e3]; exact Heap.upd_same
  have sH : Sub H H3 := s.trans (s1.trans (s2.trans s3))
  have bk3 : Book H3 b1 l := bk.sub (s1.trans (s2.trans s3))
  refine ⟨_, rfl, 54, [.pointer (some ⟨x1, 0, none⟩), .pointer (some ⟨x2, 0, none⟩)], ⟨rfl, by kernel_rfl⟩, H3, l.length, evE l, ofY l [3, 4, 5, 21], Sub.refl _,
    it54 g1 g2 (h.sub sH) (hi1.sub (s2.trans s3)) (by omega) (by decide), fun pre B nb cb Hc => OwnS H3 Hc B nb cb 1 (ints (pre.filter (opX l))), OwnS.nil _ _, fun pre i hi hpre B nb cb Hc o hsub hncs y1 y2 y3 y4 y5 y6 y7 y8 y9 y10 he => ?_, fun B nb cb Hc o hncs => ?_⟩
  · obtain ⟨x, hx⟩ := get_some (l := l) (i := i) hi
    have hpl : pre.length < l.length := by
      have : (ofY l [3, 4, 5, 21]).length ≤ l.length := by
        rw [ofY_eq]
        have := List.length_filter_le (fun i => hasM [3, 4, 5, 21] ((l[i]?).getD Ev.zero).kind) (List.range l.length)
        simpa using this
      omega
    have hE : evE l i = ((i : Int), x.id, x.time, x.kind, x.a, x.b, x.c, x.d, x.e, x.f, ()) := by unfold evE; rw [hx]; rfl
    rw [hE] at he
    injection he with he1 he; injection he with he2 he; injection he with he3 he; injection he with he4 he
    have hid := stand_id hst hx
    subst he1; subst he4
    have he2 : y2 = (i : Int) + 1 := by rw [← he2, hid]
    subst he2
    refine ⟨⟨hncs, hsub⟩, fun q1 => ?_, fun q1 => ⟨fun q2 => ?_, fun q2 => ⟨fun q3 => ?_, fun q3 => ?_⟩⟩⟩
    · have q1 : x.kind = 3 := by simpa using q1
      exact pg (by omega) bk3 hpl o _ [6, 22, 23, 24] (by decide) (by rw [opX_of hx, q1]; rfl)
    · have q2 : x.kind = 4 := by simpa using q2
      exact pg (by omega) bk3 hpl o _ [7, 25] (by decide) (by rw [opX_of hx, q2]; rfl)
    · have q3 : x.kind = 5 := by simpa using q3
      exact pg (by omega) bk3 hpl o _ [27, 28] (by decide) (by rw [opX_of hx, q3]; rfl)
    · exact pg (by omega) bk3 hpl o _ [13, 14] (by decide) (by rw [opX_of hx]; unfold opA; rw [q1, q2, q3]; rfl)
  · have := own_intsI o
    rw [openN_eq] at this
    exact ⟨_, _, _, by rw [if_neg hs], by rw [if_neg hs]; exact this, sH.trans o.sub⟩

/-! ### what is shown -/
def shA : List Ev := [⟨1, 0, 1, 0, 0, 0, 0, 0, 0⟩, ⟨2, 0, 2, 1, 0, 0, 0, 0, 0⟩, ⟨3, 0, 3, 0, 0, 0, 0, 0, 0⟩, ⟨4, 0, 4, 9, 0, 0, 0, 0, 0⟩, ⟨5, 0, 22, 3, 0, 1, 0, 0, 0⟩, ⟨6, 0, 2, 5, 0, 0, 0, 0, 0⟩, ⟨7, 0, 15, 4, 0, 0, 0, 0, 0⟩]
def shB : List Ev := [⟨1, 0, 1, 0, 0, 0, 0, 0, 0⟩, ⟨2, 0, 3, 0, 0, 0, 0, 0, 0⟩]
theorem evs_new {H : Heap} {b : Nat} {T : TypeId} (l : List Ev) : HasEvs (H.upd b (.cells (l.flatMap Ev.cells).toArray T)) (some ⟨b, 0, none⟩) l.length l :=
  ⟨rfl, fun i x e => ⟨_, rfl, at_new fun j v hv => by simpa using flat_get l i x j v e hv⟩⟩
theorem wf_of {l : List Ev} (h : (l.all fun x => (x.id :: x.time :: x.kind :: x.nums).all fun v => decide (-9223372036854775808 ≤ v) && decide (v ≤ 9223372036854775807)) = true) : ∀ x ∈ l, x.Wf := by
  intro x hx
  have := List.all_eq_true.1 h x hx
  have q := fun v hv => List.all_eq_true.1 this v hv
  simp only [Bool.and_eq_true, decide_eq_true_eq] at q
  exact ⟨q _ (by simp), q _ (by simp), q _ (by simp), fun v hv => q v (by simp [hv])⟩
def ListV (l : List Ev) (H : Heap) (v : Value) (H' : Heap) : Prop := ∃ A n c, v = .slice A n c ∧ HasEvs H' A n l ∧ Sub H H'
theorem t56 (H : Heap) : Tr Try.prog 56 #[] H (ListV shA H) := by
  apply v56; unfold F56
  intro b hb H1 e1
  have e1 : H1 = H.upd b (.cells (shA.flatMap Ev.cells).toArray 23) := e1
  subst e1
  exact ⟨_, _, _, rfl, evs_new shA, Sub.upd_new hb⟩
theorem t33 (H : Heap) : Tr Try.prog 33 #[] H (fun v H' => v = .bool true ∧ Sub H H') := by
  have wa : ∀ x ∈ shA, x.Wf := wf_of (by decide)
  have wb : ∀ x ∈ shB, x.Wf := wf_of (by decide)
  apply v33; unfold F33
  refine (t56 H).mono fun v H1 => ?_
  rintro ⟨A, n, c, rfl, h1, s1⟩
  refine ⟨_, _, _, rfl, 0, 0, t34 wa (by decide) h1, (t56 H1).mono fun v H2 => ?_⟩
  rintro ⟨A1, n1, c1, rfl, h2, s2⟩
  refine ⟨_, _, _, rfl, (t36 wa (by decide) h2).mono fun v H3 => ?_⟩
  rintro ⟨A2, n2, c2, rfl, h3, s3⟩
  refine ⟨_, _, _, _, rfl, (t56 H3).mono fun v H4 => ?_⟩
  rintro ⟨A3, n3, c3, rfl, h4, s4⟩
  refine ⟨_, _, _, rfl, 6, 0, t38 wa (by decide) h4, fun b hb H5 e5 => ?_⟩
  have e5 : H5 = H4.upd b (.cells (shB.flatMap Ev.cells).toArray 23) := e5
  have hB : HasEvs H5 (some ⟨b, 0, none⟩) 2 shB := by subst e5; exact evs_new shB
  have s5 : Sub H4 H5 := by subst e5; exact Sub.upd_new hb
  have sA : Sub H H5 := s1.trans (s2.trans (s3.trans (s4.trans s5)))
  have hO : (if stand shA < shA.length then [] else openG shA) = [3] := by kernel_rfl
  rw [hO] at h3
  have hn2 := h3.len
  have hn2 : n2 = 1 := hn2
  subst hn2
  obtain ⟨a, ha, hat⟩ := h3.at_ 0 3 rfl
  refine ⟨52, 1, t34 wb (by decide) hB, fun q => (by simp at q), fun _ => ⟨a, fun _ => ⟨ha, by omega, by omega⟩, 3, fun _ => hat.sub (s4.trans s5), ?_, sA⟩⟩
  rw [show (if stand shA < shA.length then (52 : Int) else 0) = 0 by kernel_rfl]; rfl
end Go.Proofs.Ytbojjcmhdklhbaa
