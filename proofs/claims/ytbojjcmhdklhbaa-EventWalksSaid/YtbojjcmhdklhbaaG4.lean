/- Grammar: the program's book of rules: contracts of is, none, names, may. Conditions: the book tells the events so far. -/
import Derived.Test.YtbojjcmhdklhbaaG3
set_option maxRecDepth 100000
namespace Go.Proofs.Ytbojjcmhdklhbaa
open Go.Ax

def overP (pre : List Ev) : Bool := match pre.getLast? with | some x => closeM x.kind | none => false
def marks : List Ev → List (Int × Int) := fun pre => (pre.map fun x => (x.kind, x.a)).reverse
theorem marks_snoc (pre : List Ev) (x : Ev) : marks (pre ++ [x]) = (x.kind, x.a) :: marks pre := by simp [marks]
theorem overP_snoc (pre : List Ev) (x : Ev) : overP (pre ++ [x]) = closeM x.kind := by simp [overP]
theorem mem_marks {pre : List Ev} {k a : Int} : (k, a) ∈ marks pre ↔ ∃ x ∈ pre, x.kind = k ∧ x.a = a := by simp [marks]
/-- Block 'b' is a book of the events 'pre'. -/
structure Book (H : Heap) (b : Nat) (pre : List Ev) : Prop where
  out : ∃ (A : Option Addr) (n c m : Nat) (es : Array MapEntry) (cl : Nat), H b = some (.cells #[.slice A n c, .map (some m), .bool (overP pre)] 92 (0, 0)) ∧ HasEvs H A n pre ∧ H m = some (.map es cl) ∧ Marks es (marks pre)
theorem Book.sub {H H' : Heap} {b : Nat} {pre : List Ev} (h : Book H b pre) (k : Sub H H') : Book H' b pre := by
  obtain ⟨A, n, c, m, es, cl, h1, h2, h3, h4⟩ := h.out
  exact ⟨A, n, c, m, es, cl, k.sub _ _ h1, h2.sub k, k.sub _ _ h3, h4⟩
theorem at_fld {H : Heap} {b : Nat} {c : Array Value} {T : TypeId} {fz : Nat × Nat} (k : Nat) {v : Value} (h : H b = some (.cells c T fz)) (hv : c[k]? = some v) : At H (({ block := b, off := 0 } : Addr).add k) [v] := by
  have he : ({ block := b, off := 0 } : Addr).add k = ⟨b, k, none⟩ := by cases k <;> simp [Addr.add]
  rw [he]
  refine ⟨⟨c, T, fz, h, rfl, fun j u hj => ?_⟩⟩
  cases j with
  | succ j => simp at hj
  | zero => simp at hj; subst hj; exact hv
theorem smMono {P : Program} {s : Sem Value} {H : Heap} {K K' : Value → Heap → Prop} (h : Sm P s H K) (k : ∀ v H', K v H' → K' v H') : Sm P s H K' := by
  refine ⟨fun w hw => ?_⟩
  obtain ⟨v, H', w', h1, h2, h3⟩ := h.run w hw
  exact ⟨v, H', w', h1, h2, k _ _ h3⟩
theorem t67 {pre : List Ev} (hb : pre.length ≤ 100000000000000000) {H : Heap} {b : Nat} (h : Book H b pre) (id kind : Int) :
    Tr Try.prog 67 #[.pointer (some ⟨b, 0, none⟩), .int .i64 id, .int .i64 kind] H (fun v H' => v = .bool (isP pre id kind) ∧ Sub H H') := by
  obtain ⟨A, n, c, m, es, cl, h1, h2, h3, h4⟩ := h.out
  have hn := h2.len; subst hn
  apply v67; unfold F67
  refine ⟨_, fun _ => rfl, A, pre.length, c, fun _ => at_fld 0 h1 rfl, _, fun _ => rfl, A, pre.length, c, fun _ => at_fld 0 h1 rfl, ?_⟩
  by_cases hid : 1 ≤ id ∧ id ≤ pre.length
  · obtain ⟨x, hx⟩ := get_some (l := pre) (i := (id - 1).toNat) (by omega)
    obtain ⟨a, ha, hat⟩ := h2.at_ _ x hx
    have hw : IntKind.i64.wrap (id - 1) = id - 1 := wrapi (by omega) (by omega)
    refine ⟨a, fun _ => ⟨ha, by omega, by omega⟩, x.kind, fun _ => by rw [hw]; exact at_one 2 hat rfl, ?_, Sub.refl _⟩
    unfold isP
    rw [hx]
  · have hf : (decide (id ≥ 1) && decide (id ≤ (pre.length : Int))) = false := by
      cases hc : (decide (id ≥ 1) && decide (id ≤ (pre.length : Int))) with
      | false => rfl
      | true => simp at hc; omega
    refine ⟨⟨0, 0, none⟩, fun e => (by rw [hf] at e; cases e), 0, fun e => (by rw [hf] at e; cases e), ?_, Sub.refl _⟩
    unfold isP
    rw [hf]; rfl
structure RNo (pre : List Ev) (id : Int) (ks : List Int) (H : Heap) (i : Int) (H1 : Heap) : Prop where
  heap : H1 = H
  k : ∃ m : Nat, i = m ∧ m ≤ ks.length ∧ ∀ j, j < m → ∀ y, ks[j]? = some y → (y, id) ∉ marks pre
theorem any_marks {pre : List Ev} {id : Int} {ks : List Int} : anyP pre id ks = true ↔ ∃ y ∈ ks, (y, id) ∈ marks pre := by
  unfold anyP
  rw [List.any_eq_true]
  constructor
  · rintro ⟨x, hx, hq⟩
    simp only [Bool.and_eq_true, List.contains_iff_mem, beq_iff_eq] at hq
    exact ⟨x.kind, hq.1, mem_marks.2 ⟨x, hx, rfl, hq.2⟩⟩
  · rintro ⟨y, hy, hm⟩
    obtain ⟨x, hx, h1, h2⟩ := mem_marks.1 hm
    refine ⟨x, hx, ?_⟩
    simp only [Bool.and_eq_true, List.contains_iff_mem, beq_iff_eq]
    exact ⟨h1 ▸ hy, h2⟩
theorem t59 {pre : List Ev} {H : Heap} {b : Nat} (h : Book H b pre) (id : Int) {ks : List Int} (hkb : ks.length ≤ 9223372036854775807) {B : Option Addr} {n' c' : Nat} (hI : HasI H B n' ks) :
    Tr Try.prog 59 #[.pointer (some ⟨b, 0, none⟩), .int .i64 id, .slice B n' c'] H (fun v H' => v = .bool (!anyP pre id ks) ∧ Sub H H') := by
  obtain ⟨A, n, c, m, es, cl, h1, h2, h3, h4⟩ := h.out
  have hn := hI.len; subst hn
  apply v59; unfold F59
  refine ⟨RNo pre id ks H, fun i _ => (ks.length - i).toNat, ⟨rfl, 0, rfl, by omega, fun j hj => absurd hj (by omega)⟩, fun i H1 r => ?_⟩
  have hH := r.heap; subst hH
  obtain ⟨j, rfl, hj, hs⟩ := r.k
  refine ⟨fun hlt => ?_, fun hge => ⟨?_, Sub.refl _⟩⟩
  · have hlt := of_decide_eq_true hlt
    obtain ⟨y, hy⟩ := get_some (l := ks) (i := j) (by omega)
    obtain ⟨a, ha, hat⟩ := hI.at_ j y hy
    refine ⟨a, ⟨ha, by omega, by omega⟩, y, hat, _, rfl, some m, at_fld 1 h1 rfl, smMono (sm_lookup h3 h4 y id) fun v H' => ?_⟩
    rintro ⟨rfl, rfl⟩
    refine ⟨_, rfl, fun ht => ⟨?_, Sub.refl _⟩, fun hf => ?_⟩
    · have ht := of_decide_eq_true ht
      have : anyP pre id ks = true := any_marks.2 ⟨y, List.mem_of_getElem? hy, ht⟩
      rw [this]; rfl
    · have hf := of_decide_eq_false hf
      rw [wrapi (by omega) (by omega)]
      refine ⟨⟨rfl, j + 1, by omega, by omega, fun i hi z hz => ?_⟩, ?_⟩
      · by_cases hij : i = j
        · subst hij; rw [hy] at hz; cases hz; exact hf
        · exact hs i (by omega) z hz
      · show (ks.length - ((j : Int) + 1)).toNat < (ks.length - (j : Int)).toNat
        omega
  · have hge := of_decide_eq_false hge
    have : anyP pre id ks = false := by
      cases hc : anyP pre id ks with
      | false => rfl
      | true =>
        obtain ⟨y, hy, hm⟩ := any_marks.1 hc
        obtain ⟨i, hi, e⟩ := List.mem_iff_getElem.1 hy
        exact absurd hm (hs i (by omega) y (by rw [List.getElem?_eq_getElem hi, e]))
    rw [this]; rfl
theorem ng {pre : List Ev} (hb : pre.length ≤ 100000000000000000) {H : Heap} {b : Nat} (h : Book H b pre) (id : Int) (ks : List Int) (hk : ks.length ≤ 9223372036854775807) (kd : Int) (r : Bool) (hp : r = (isP pre id kd && !anyP pre id ks)) :
    ∃ b1 : Bool, Tr Try.prog 67 #[.pointer (some ⟨b, 0, none⟩), .int .i64 id, .int .i64 kd] H (fun v H' => v = .bool b1 ∧ Sub H H') ∧
    (b1 = true → ∀ b2 : Nat, H b2 = none → ∀ H1 : Heap, H1 = H.upd b2 (.cells (ks.map (Value.int .i64)).toArray 3) → ∃ b3 : Bool,
      Tr Try.prog 59 #[.pointer (some ⟨b, 0, none⟩), .int .i64 id, .slice (some ⟨b2, 0, none⟩) ks.length ks.length] H1 (fun v H' => v = .bool b3 ∧ Sub H1 H') ∧ (Value.bool b3 = .bool r ∧ Sub H H1)) ∧
    (b1 = false → Value.bool false = .bool r ∧ Sub H H) := by
  refine ⟨_, t67 hb h id kd, fun i1 b2 n2 H1 e1 => ?_, fun i0 => ⟨by rw [hp, i0]; rfl, Sub.refl _⟩⟩
  obtain ⟨s, i⟩ := newI n2 ks e1
  exact ⟨_, t59 (h.sub s) id hk i, by rw [hp, i1]; rfl, s⟩
theorem nb {pre : List Ev} (hb : pre.length ≤ 100000000000000000) {H : Heap} {b : Nat} (h : Book H b pre) (id : Int) (k1 k2 : Int) (kd : Int) (r : Bool) (hp : r = (isP pre id kd && anyP pre id [k1] && !anyP pre id [k2])) :
    ∃ b1 : Bool, Tr Try.prog 67 #[.pointer (some ⟨b, 0, none⟩), .int .i64 id, .int .i64 kd] H (fun v H' => v = .bool b1 ∧ Sub H H') ∧
    (b1 = true → ∀ b2 : Nat, H b2 = none → ∀ H1 : Heap, H1 = H.upd b2 (.cells #[.int .i64 k1] 3) → ∃ b3 : Bool,
      Tr Try.prog 59 #[.pointer (some ⟨b, 0, none⟩), .int .i64 id, .slice (some ⟨b2, 0, none⟩) 1 1] H1 (fun v H' => v = .bool b3 ∧ Sub H1 H') ∧
      ((!b3) = true → ∀ b4 : Nat, H1 b4 = none → ∀ H2 : Heap, H2 = H1.upd b4 (.cells #[.int .i64 k2] 3) → ∃ b5 : Bool,
        Tr Try.prog 59 #[.pointer (some ⟨b, 0, none⟩), .int .i64 id, .slice (some ⟨b4, 0, none⟩) 1 1] H2 (fun v H' => v = .bool b5 ∧ Sub H2 H') ∧ (Value.bool b5 = .bool r ∧ Sub H H2)) ∧
      ((!b3) = false → Value.bool false = .bool r ∧ Sub H H1)) ∧
    (b1 = false → Value.bool false = .bool r ∧ Sub H H) := by
  refine ⟨_, t67 hb h id kd, fun i1 b2 n2 H1 e1 => ?_, fun i0 => ⟨by rw [hp, i0]; rfl, Sub.refl _⟩⟩
  obtain ⟨s, i⟩ := newI n2 [k1] e1
  refine ⟨_, t59 (h.sub s) id (by simp) i, fun i2 b4 n4 H2 e2 => ?_, fun i2 => ⟨?_, s⟩⟩
  · obtain ⟨s2, j⟩ := newI n4 [k2] e2
    refine ⟨_, t59 (h.sub (s.trans s2)) id (by simp) j, ?_, s.trans s2⟩
    have i2 : anyP pre id [k1] = true := by simpa using i2
    rw [hp, i1, i2]; rfl
  · have i2 : anyP pre id [k1] = false := by simpa using i2
    rw [hp, i2]; simp
theorem t65 {pre : List Ev} (hb : pre.length ≤ 100000000000000000) {H : Heap} {b : Nat} (h : Book H b pre) (e : Ev) :
    Tr Try.prog 65 #[.pointer (some ⟨b, 0, none⟩), e.val] H (fun v H' => v = .bool (namesP pre e) ∧ Sub H H') := by
  apply v65; unfold F65
  refine ⟨fun q => ng hb h e.a [6, 22, 23, 24] (by decide) 3 _ (by have q : e.kind = 6 := (by simpa using q); unfold namesP; rw [q]; rfl), fun m0 => ?_⟩
  refine ⟨fun q => ng hb h e.a [6, 22, 23, 24] (by decide) 3 _ (by have q : e.kind = 22 := (by simpa using q); unfold namesP; rw [q]; rfl), fun m1 => ?_⟩
  refine ⟨fun q => ng hb h e.a [6, 22, 23, 24] (by decide) 3 _ (by have q : e.kind = 23 := (by simpa using q); unfold namesP; rw [q]; rfl), fun m2 => ?_⟩
  refine ⟨fun q => ng hb h e.a [6, 22, 23, 24] (by decide) 3 _ (by have q : e.kind = 24 := (by simpa using q); unfold namesP; rw [q]; rfl), fun m3 => ?_⟩
  refine ⟨fun q => ng hb h e.a [7, 25] (by decide) 4 _ (by have q : e.kind = 7 := (by simpa using q); unfold namesP; rw [q]; rfl), fun m4 => ?_⟩
  refine ⟨fun q => ?_, fun m5 => ?_⟩
  · have q : e.kind = 25 := by simpa using q
    have hnp : namesP pre e = (isP pre e.a 4 && !anyP pre e.a [7, 25] && atTime pre e) := by unfold namesP; rw [q]; rfl
    have main : isP pre e.a 4 = true → ∀ b2 : Nat, H b2 = none → ∀ H1 : Heap, H1 = H.upd b2 (Obj.cells #[Value.int .i64 7, Value.int .i64 25] 3) → Sub H H1 ∧ ∃ b3 : Bool,
        Tr Try.prog 59 #[Value.pointer (some ⟨b, 0, none⟩), Value.int .i64 e.a, Value.slice (some ⟨b2, 0, none⟩) 2 2] H1 (fun v H' => v = .bool b3 ∧ Sub H1 H') ∧
        ∃ a : Addr, (b3 = true → some (⟨b, 0, none⟩ : Addr) = some a) ∧ ∃ A n c, (b3 = true → At H1 (a.add 0) [Value.slice A n c]) ∧ ∃ a1 : Addr,
          (b3 = true → A = some a1 ∧ (0 : Int) ≤ IntKind.i64.wrap (e.a - 1) ∧ IntKind.i64.wrap (e.a - 1) < (n : Int)) ∧ ∃ x : Int,
          (b3 = true → At H1 ((a1.add ((IntKind.i64.wrap (e.a - 1)).toNat * 9)).add 3) [Value.int .i64 x]) ∧ (Value.bool (b3 && decide (e.time ≥ x)) = .bool (namesP pre e) ∧ Sub H H1) := by
      intro i1 b2 n2 H1 e1
      obtain ⟨s, i⟩ := newI n2 [7, 25] e1
      obtain ⟨A, n, c, m, es, cl, h1, h2, h3, h4⟩ := h.out
      have hn := h2.len; subst hn
      obtain ⟨g1, g2, x, g3, g4⟩ := isP_some i1
      obtain ⟨a, ha, hat⟩ := h2.at_ _ x g3
      have hw : IntKind.i64.wrap (e.a - 1) = e.a - 1 := wrapi (by omega) (by omega)
      refine ⟨s, _, t59 (h.sub s) e.a (by decide) i, _, fun _ => rfl, A, pre.length, c, fun _ => (at_fld 0 h1 rfl).sub s, a, fun _ => ⟨ha, by omega, by omega⟩, x.a, fun _ => by rw [hw]; exact (at_one 3 hat rfl).sub s, ?_, s⟩
      have ht : atTime pre e = decide (e.time ≥ x.a) := by unfold atTime; rw [g3]
      rw [hnp, i1, ht]; rfl
    have no : isP pre e.a 4 = false → Sub H H ∧ Value.bool false = .bool (namesP pre e) ∧ Sub H H := fun i0 => ⟨Sub.refl _, by rw [hnp, i0]; rfl, Sub.refl _⟩
    exact ⟨H, Sub.refl _, _, t67 hb h e.a 4, Sub.refl _, ⟨Sub.refl _, main, no⟩, main, no⟩
  refine ⟨fun q => ng hb h e.a [26, 27] (by decide) 5 _ (by have q : e.kind = 26 := (by simpa using q); unfold namesP; rw [q]; rfl), fun m6 => ?_⟩
  refine ⟨fun q => ng hb h e.a [26, 27] (by decide) 5 _ (by have q : e.kind = 27 := (by simpa using q); unfold namesP; rw [q]; rfl), fun m7 => ?_⟩
  refine ⟨fun q => nb hb h e.a 26 28 5 _ (by have q : e.kind = 28 := (by simpa using q); unfold namesP; rw [q]; rfl), fun m8 => ?_⟩
  refine ⟨fun q => ng hb h e.a [8, 27, 28] (by decide) 5 _ (by have q : e.kind = 8 := (by simpa using q); unfold namesP; rw [q]; rfl), fun m9 => ?_⟩
  refine ⟨fun q => ⟨_, t67 hb h e.a 5, (by have q : e.kind = 9 := (by simpa using q); unfold namesP; rw [q]; rfl), Sub.refl _⟩, fun m10 => ?_⟩
  refine ⟨fun q => ng hb h e.a [29] (by decide) 9 _ (by have q : e.kind = 29 := (by simpa using q); unfold namesP; rw [q]; rfl), fun m11 => ?_⟩
  refine ⟨fun q => ng hb h e.a [12, 13] (by decide) 21 _ (by have q : e.kind = 12 := (by simpa using q); unfold namesP; rw [q]; rfl), fun m12 => ?_⟩
  refine ⟨fun q => ng hb h e.a [12, 13] (by decide) 21 _ (by have q : e.kind = 13 := (by simpa using q); unfold namesP; rw [q]; rfl), fun m13 => ?_⟩
  refine ⟨fun q => nb hb h e.a 12 14 21 _ (by have q : e.kind = 14 := (by simpa using q); unfold namesP; rw [q]; rfl), fun m14 => ?_⟩
  refine ⟨?_, Sub.refl _⟩
  have z0 : ¬ e.kind = 6 := by simpa using m0
  have z1 : ¬ e.kind = 22 := by simpa using m1
  have z2 : ¬ e.kind = 23 := by simpa using m2
  have z3 : ¬ e.kind = 24 := by simpa using m3
  have z4 : ¬ e.kind = 7 := by simpa using m4
  have z5 : ¬ e.kind = 25 := by simpa using m5
  have z6 : ¬ e.kind = 26 := by simpa using m6
  have z7 : ¬ e.kind = 27 := by simpa using m7
  have z8 : ¬ e.kind = 28 := by simpa using m8
  have z9 : ¬ e.kind = 8 := by simpa using m9
  have z10 : ¬ e.kind = 9 := by simpa using m10
  have z11 : ¬ e.kind = 29 := by simpa using m11
  have z12 : ¬ e.kind = 12 := by simpa using m12
  have z13 : ¬ e.kind = 13 := by simpa using m13
  have z14 : ¬ e.kind = 14 := by simpa using m14
  unfold namesP
  rw [if_neg (by omega), if_neg (by omega), if_neg (by omega), if_neg (by omega), if_neg (by omega), if_neg (by omega), if_neg (by omega), if_neg (by omega), if_neg (by omega), if_neg (by omega)]
theorem may_nil (e : Ev) : mayP [] e = !(!validM e || e.id != 1 || !(e.kind == 1)) := by
  unfold mayP
  simp only [List.length_nil]
  cases validM e <;> cases hk : e.kind == 1 <;> cases hi : e.id == 1 <;> simp [bne, hk, hi]
theorem may_ne {pre : List Ev} {e : Ev} (h : pre ≠ []) : mayP pre e = if (!validM e || e.id != pre.length + 1 || e.kind == 1) = true then false
    else if (decide (e.time < (lastP pre).time) || closeM (lastP pre).kind || e.kind == 2 && e.a != pre.length) = true then false
    else if (cmdM e.kind && !(e.kind == 16 && e.a == -4) && ((lastP pre).kind != 2 && !cmdM (lastP pre).kind || e.time != (lastP pre).time)) = true then false
    else namesP pre e := by
  have hl : pre.length ≠ 0 := by cases pre with
    | nil => exact absurd rfl h
    | cons _ _ => simp
  have hz : ((pre.length : Int) == 0) = false := by simp; omega
  conv => lhs; unfold mayP
  rw [hz, if_neg h]
  simp [bne, hz]
theorem lastP_snoc (pre : List Ev) (x : Ev) : lastP (pre ++ [x]) = x := by simp [lastP]
theorem t63 {pre : List Ev} (hb : pre.length ≤ 100000000000000000) {H : Heap} {b : Nat} (h : Book H b pre) (e : Ev) (w : e.Wf) :
    Tr Try.prog 63 #[.pointer (some ⟨b, 0, none⟩), e.val] H (fun v H' => v = .bool (mayP pre e) ∧ Sub H H') := by
  obtain ⟨A, n, c, m, es, cl, h1, h2, h3, h4⟩ := h.out
  have hn := h2.len; subst hn
  apply v63; unfold F63
  refine ⟨_, rfl, A, pre.length, c, at_fld 0 h1 rfl, ?_⟩
  rw [show IntKind.i64.wrap ((pre.length : Int) + 1) = (pre.length : Int) + 1 from wrapi (by omega) (by omega)]
  refine ⟨_, t14 e w H, _, fun _ => rfl, overP pre, fun _ => at_fld 2 h1 rfl, ?_⟩
  rcases List.eq_nil_or_concat pre with rfl | ⟨p, x, rfl⟩
  · have hv := may_nil e
    refine ⟨fun q => ⟨?_, Sub.refl _⟩, fun q => ⟨fun _ => ⟨?_, Sub.refl _⟩, fun q => (by simp at q)⟩⟩
    · rw [hv]
      have : (!validM e || e.id != 1 || !(e.kind == 1)) = true := by simpa [overP] using q
      rw [this]; rfl
    · rw [hv]
      have : (!validM e || e.id != 1 || !(e.kind == 1)) = false := by simpa [overP] using q
      rw [this]; rfl
  · have hne : p ++ [x] ≠ [] := by simp
    have hv := may_ne (e := e) hne
    rw [List.concat_eq_append] at *
    rw [lastP_snoc] at hv
    have hl : (p ++ [x]).length = p.length + 1 := by simp
    have hz : (((p ++ [x]).length : Int) == 0) = false := by simp; omega
    rw [overP_snoc, hz]
    refine ⟨fun q => ⟨?_, Sub.refl _⟩, fun q => ⟨fun q => (by cases q), fun _ => ?_⟩⟩
    · rw [hv]
      split
      · rfl
      · rename_i hn
        have : closeM x.kind = true := by
          cases hc : closeM x.kind with
          | true => rfl
          | false => exact absurd (by simpa [hc] using q) hn
        rw [this, if_pos (by simp)]
    · have q1 : (!validM e || e.id != ((p ++ [x]).length : Int) + 1 || e.kind == 1) = false := by
        cases hc : (!validM e || e.id != ((p ++ [x]).length : Int) + 1) <;> cases hk : (e.kind == 1) <;> simp_all
      have q2 : closeM x.kind = false := by
        cases hc : closeM x.kind <;> simp_all
      rw [if_neg (by rw [q1]; simp), q2, Bool.or_false] at hv
      have hx : (p ++ [x])[p.length]? = some x := by simp
      obtain ⟨a', ha', hat'⟩ := h2.at_ _ x hx
      have hw : IntKind.i64.wrap (((p ++ [x]).length : Int) - 1) = (p.length : Int) := by rw [wrapi (by omega) (by omega)]; omega
      rw [hw]
      refine ⟨_, rfl, A, (p ++ [x]).length, c, at_fld 0 h1 rfl, a', ⟨ha', by omega, by omega⟩, _, _, _, _, _, _, _, _, _, hat', fun q3 => ⟨?_, Sub.refl _⟩, fun q3 => ?_⟩
      · rw [hv, if_pos q3]
      · rw [if_neg (by rw [q3]; simp)] at hv
        refine ⟨_, t22 e.kind H, fun q4 => ?_, fun q4 => ⟨_, t65 hb h e, ?_, Sub.refl _⟩⟩
        · rw [q4, Bool.true_and] at hv
          refine ⟨_, fun _ => t22 x.kind H, fun q5 => ⟨?_, Sub.refl _⟩, fun q5 => ⟨_, t65 hb h e, ?_, Sub.refl _⟩⟩
          · rw [hv, if_pos q5]
          · rw [hv, if_neg (by rw [q5]; simp)]
        · rw [hv, if_neg (by rw [q4]; simp)]
end Go.Proofs.Ytbojjcmhdklhbaa
