/- Grammar: contracts of names, May, Check (the document's). Conditions: the events in memory. -/
import Derived.Test.YtbojjcmhdklhbaaG2
set_option maxRecDepth 100000
namespace Go.Proofs.Ytbojjcmhdklhbaa
open Go.Ax

theorem newI {H H1 : Heap} {b : Nat} {T : TypeId} (hn : H b = none) (l : List Int) (e : H1 = H.upd b (.cells (l.map (Value.int .i64)).toArray T)) : Sub H H1 ∧ HasI H1 (some ⟨b, 0, none⟩) l.length l := by
  subst e; exact ⟨Sub.upd_new hn, hasI_new l⟩
theorem isP_some {pre : List Ev} {id kind : Int} (h : isP pre id kind = true) : 1 ≤ id ∧ id ≤ pre.length ∧ ∃ x, pre[(id - 1).toNat]? = some x ∧ x.kind = kind := by
  unfold isP at h
  simp only [Bool.and_eq_true, decide_eq_true_eq] at h
  obtain ⟨⟨h1, h2⟩, h3⟩ := h
  refine ⟨h1, h2, ?_⟩
  split at h3
  · rename_i x hx; exact ⟨x, hx, by simpa using h3⟩
  · cases h3
theorem len_take {l : List Ev} {k : Nat} (hk : k ≤ l.length) : (l.take k).length = k := by rw [List.length_take, Nat.min_eq_left hk]
theorem get_take {l : List Ev} {k j : Nat} (hj : j < k) : (l.take k)[j]? = l[j]? := by rw [List.getElem?_take, if_pos hj]
theorem t64 {l : List Ev} (hb : l.length ≤ 100000000000000000) {H : Heap} {A : Option Addr} {n c : Nat} (h : HasEvs H A n l) {k : Nat} {e : Ev} (he : l[k]? = some e) :
    Tr Try.prog 64 #[.slice A n c, .int .i64 k] H (fun v H' => v = .bool (namesP (l.take k) e) ∧ Sub H H') := by
  have hk : k < l.length := get_lt he
  have hk' : k ≤ l.length := by omega
  obtain ⟨a, ha, hat⟩ := h.at_ k e he
  have hn := h.len; subst hn
  apply v64; unfold F64
  refine ⟨a, ⟨ha, by omega, by omega⟩, e.a, at_one 3 hat rfl, _, t66 hb h hk' e.a 3, _, t66 hb h hk' e.a 4, _, t66 hb h hk' e.a 5, _, t66 hb h hk' e.a 9, _, t66 hb h hk' e.a 21, ?_⟩
  intro b0 n0 H0 e0
  obtain ⟨s0, i0⟩ := newI n0 [6, 22, 23, 24] e0
  have S0 : Sub H H0 := s0
  refine ⟨_, t60 hb (h.sub S0) hk' e.a (by decide) (by decide) i0, ?_⟩
  intro b1 n1 H1 e1
  obtain ⟨s1, i1⟩ := newI n1 [7, 25] e1
  have S1 : Sub H H1 := S0.trans s1
  refine ⟨_, t60 hb (h.sub S1) hk' e.a (by decide) (by decide) i1, ?_⟩
  intro b2 n2 H2 e2
  obtain ⟨s2, i2⟩ := newI n2 [26, 27] e2
  have S2 : Sub H H2 := S1.trans s2
  refine ⟨_, t60 hb (h.sub S2) hk' e.a (by decide) (by decide) i2, ?_⟩
  intro b3 n3 H3 e3
  obtain ⟨s3, i3⟩ := newI n3 [26] e3
  have S3 : Sub H H3 := S2.trans s3
  refine ⟨_, t60 hb (h.sub S3) hk' e.a (by decide) (by decide) i3, ?_⟩
  intro b4 n4 H4 e4
  obtain ⟨s4, i4⟩ := newI n4 [28] e4
  have S4 : Sub H H4 := S3.trans s4
  refine ⟨_, t60 hb (h.sub S4) hk' e.a (by decide) (by decide) i4, ?_⟩
  intro b5 n5 H5 e5
  obtain ⟨s5, i5⟩ := newI n5 [8, 27, 28] e5
  have S5 : Sub H H5 := S4.trans s5
  refine ⟨_, t60 hb (h.sub S5) hk' e.a (by decide) (by decide) i5, ?_⟩
  intro b6 n6 H6 e6
  obtain ⟨s6, i6⟩ := newI n6 [29] e6
  have S6 : Sub H H6 := S5.trans s6
  refine ⟨_, t60 hb (h.sub S6) hk' e.a (by decide) (by decide) i6, ?_⟩
  intro b7 n7 H7 e7
  obtain ⟨s7, i7⟩ := newI n7 [12, 13] e7
  have S7 : Sub H H7 := S6.trans s7
  refine ⟨_, t60 hb (h.sub S7) hk' e.a (by decide) (by decide) i7, ?_⟩
  intro b8 n8 H8 e8
  obtain ⟨s8, i8⟩ := newI n8 [12] e8
  have S8 : Sub H H8 := S7.trans s8
  refine ⟨_, t60 hb (h.sub S8) hk' e.a (by decide) (by decide) i8, ?_⟩
  intro b9 n9 H9 e9
  obtain ⟨s9, i9⟩ := newI n9 [14] e9
  have S9 : Sub H H9 := S8.trans s9
  refine ⟨_, t60 hb (h.sub S9) hk' e.a (by decide) (by decide) i9, ?_⟩
  refine ⟨a, ⟨ha, by omega, by omega⟩, e.kind, (at_one 2 hat rfl).sub S9, ?_⟩
  refine ⟨fun q => ⟨by have q : e.kind = 6 := by simpa using q
                       unfold namesP; rw [q]; rfl, S9⟩, fun m0 => ?_⟩
  refine ⟨fun q => ⟨by have q : e.kind = 22 := by simpa using q
                       unfold namesP; rw [q]; rfl, S9⟩, fun m1 => ?_⟩
  refine ⟨fun q => ⟨by have q : e.kind = 23 := by simpa using q
                       unfold namesP; rw [q]; rfl, S9⟩, fun m2 => ?_⟩
  refine ⟨fun q => ⟨by have q : e.kind = 24 := by simpa using q
                       unfold namesP; rw [q]; rfl, S9⟩, fun m3 => ?_⟩
  refine ⟨fun q => ⟨by have q : e.kind = 7 := by simpa using q
                       unfold namesP; rw [q]; rfl, S9⟩, fun m4 => ?_⟩
  refine ⟨fun q => ?_, fun m5 => ?_⟩
  · have q : e.kind = 25 := by simpa using q
    by_cases hp : (isP (l.take k) e.a 4 && !anyP (l.take k) e.a [7, 25]) = true
    · have hi : isP (l.take k) e.a 4 = true := by simp only [Bool.and_eq_true] at hp; exact hp.1
      obtain ⟨g1, g2, x, g3, g4⟩ := isP_some hi
      rw [len_take hk'] at g2
      rw [get_take (by omega)] at g3
      obtain ⟨a', ha', hat'⟩ := h.at_ _ x g3
      have hw : IntKind.i64.wrap (e.a - 1) = e.a - 1 := wrapi (by omega) (by omega)
      refine ⟨a, fun _ => ⟨ha, by omega, by omega⟩, e.time, fun _ => (at_one 1 hat rfl).sub S9, a', fun _ => ⟨ha', by omega, by omega⟩, x.a, fun _ => by rw [hw]; exact (at_one 3 hat' rfl).sub S9, ?_, S9⟩
      have ht : atTime (l.take k) e = decide (e.time ≥ x.a) := by unfold atTime; rw [get_take (by omega), g3]
      unfold namesP; rw [q, ht]; rfl
    · refine ⟨⟨0, 0, none⟩, fun e => absurd e hp, 0, fun e => absurd e hp, ⟨0, 0, none⟩, fun e => absurd e hp, 0, fun e => absurd e hp, ?_, S9⟩
      have hp : (isP (l.take k) e.a 4 && !anyP (l.take k) e.a [7, 25]) = false := by simpa using hp
      unfold namesP; rw [q]
      show Value.bool (_ && _) = Value.bool (_ && _)
      rw [hp]; rfl
  refine ⟨fun q => ⟨by have q : e.kind = 26 := by simpa using q
                       unfold namesP; rw [q]; rfl, S9⟩, fun m6 => ?_⟩
  refine ⟨fun q => ⟨by have q : e.kind = 27 := by simpa using q
                       unfold namesP; rw [q]; rfl, S9⟩, fun m7 => ?_⟩
  refine ⟨fun q => ⟨by have q : e.kind = 28 := by simpa using q
                       unfold namesP; rw [q]; rfl, S9⟩, fun m8 => ?_⟩
  refine ⟨fun q => ⟨by have q : e.kind = 8 := by simpa using q
                       unfold namesP; rw [q]; rfl, S9⟩, fun m9 => ?_⟩
  refine ⟨fun q => ⟨by have q : e.kind = 9 := by simpa using q
                       unfold namesP; rw [q]; rfl, S9⟩, fun m10 => ?_⟩
  refine ⟨fun q => ⟨by have q : e.kind = 29 := by simpa using q
                       unfold namesP; rw [q]; rfl, S9⟩, fun m11 => ?_⟩
  refine ⟨fun q => ⟨by have q : e.kind = 12 := by simpa using q
                       unfold namesP; rw [q]; rfl, S9⟩, fun m12 => ?_⟩
  refine ⟨fun q => ⟨by have q : e.kind = 13 := by simpa using q
                       unfold namesP; rw [q]; rfl, S9⟩, fun m13 => ?_⟩
  refine ⟨fun q => ⟨by have q : e.kind = 14 := by simpa using q
                       unfold namesP; rw [q]; rfl, S9⟩, fun m14 => ?_⟩
  refine ⟨?_, S9⟩
  have z0 : ¬ e.kind = 6 := by simpa using m0
  have z1 : ¬ e.kind = 22 := by simpa using m1
  have z2 : ¬ e.kind = 23 := by simpa using m2
  have z3 : ¬ e.kind = 24 := by simpa using m3
  have z4 : ¬ e.kind = 7 := by simpa using m4
  have z5 : ¬ e.kind = 25 := by simpa using m5
  have z6 : ¬ e.kind = 26 := by simpa using m6
  have z7 : ¬ e.kind = 27 := by simpa using m7
  have z8 : ¬ e.kind = 28 := by simpa using m8
  have z9 : ¬ e.kind = 8 := by simpa using m9
  have z10 : ¬ e.kind = 9 := by simpa using m10
  have z11 : ¬ e.kind = 29 := by simpa using m11
  have z12 : ¬ e.kind = 12 := by simpa using m12
  have z13 : ¬ e.kind = 13 := by simpa using m13
  have z14 : ¬ e.kind = 14 := by simpa using m14
  unfold namesP
  rw [if_neg (by omega), if_neg (by omega), if_neg (by omega), if_neg (by omega), if_neg (by omega), if_neg (by omega), if_neg (by omega), if_neg (by omega), if_neg (by omega), if_neg (by omega)]
theorem last_take {l : List Ev} {k : Nat} {x : Ev} (h : l[k]? = some x) : lastP (l.take (k + 1)) = x := by
  unfold lastP; rw [take_snoc h]; simp
theorem t58 {l : List Ev} (hb : l.length ≤ 100000000000000000) {H : Heap} {A : Option Addr} {n c : Nat} (h : HasEvs H A n l) {k : Nat} {e : Ev} (he : l[k]? = some e) :
    Tr Try.prog 58 #[.slice A n c, .int .i64 k] H (fun v H' => v = .bool (mayP (l.take k) e) ∧ Sub H H') := by
  have hk : k < l.length := get_lt he
  obtain ⟨a, ha, hat⟩ := h.at_ k e he
  have hn := h.len; subst hn
  have hl : (l.take k).length = k := len_take (by omega)
  apply v58; unfold F58
  have hw : IntKind.i64.wrap ((k : Int) + 1) = (k : Int) + 1 := wrapi (by omega) (by omega)
  rw [hw]
  refine ⟨a, ⟨ha, by omega, by omega⟩, _, _, _, _, _, _, _, _, _, hat, _, t15 e H, fun q => ⟨?_, Sub.refl _⟩, fun q => ?_⟩
  · unfold mayP; rw [hl, if_pos q]
  · have m1 : mayP (l.take k) e = if l.take k = [] then true else if (decide (e.time < (lastP (l.take k)).time) || closeM (lastP (l.take k)).kind || e.kind == 2 && e.a != (l.take k).length) = true then false
        else if (cmdM e.kind && !(e.kind == 16 && e.a == -4) && ((lastP (l.take k)).kind != 2 && !cmdM (lastP (l.take k)).kind || e.time != (lastP (l.take k)).time)) = true then false else namesP (l.take k) e := by
      conv => lhs; unfold mayP
      rw [hl, if_neg (by rw [q]; simp)]
    refine ⟨fun q0 => ⟨?_, Sub.refl _⟩, fun q0 => ?_⟩
    · have : k = 0 := by have : (k : Int) = 0 := by simpa using q0
                         omega
      subst this
      rw [m1]; simp
    · have hk0 : k ≠ 0 := by intro e; subst e; simp at q0
      obtain ⟨j, rfl⟩ : ∃ j, k = j + 1 := ⟨k - 1, by omega⟩
      obtain ⟨x, hx⟩ := get_some (l := l) (i := j) (by omega)
      obtain ⟨a', ha', hat'⟩ := h.at_ j x hx
      have hw1 : IntKind.i64.wrap (((j + 1 : Nat) : Int) - 1) = (j : Int) := by rw [wrapi (by omega) (by omega)]; omega
      rw [hw1]
      have hne : l.take (j + 1) ≠ [] := fun e0 => by rw [e0] at hl; simp at hl
      rw [if_neg hne, last_take hx, hl] at m1
      refine ⟨a', ⟨ha', by omega, by omega⟩, _, _, _, _, _, _, _, _, _, hat', _, t25 x.kind H, fun q1 => ⟨?_, Sub.refl _⟩, fun q1 => ?_⟩
      · rw [m1, if_pos q1]
      · rw [if_neg (by rw [q1]; simp)] at m1
        refine ⟨_, t23 e.kind H, _, t23 x.kind H, fun q2 => ⟨?_, Sub.refl _⟩, fun q2 => ⟨_, t64 hb h he, ?_, Sub.refl _⟩⟩
        · rw [m1, if_pos q2]
        · rw [m1, if_neg (by rw [q2]; simp)]
structure RCk (l : List Ev) (H : Heap) (i : Int) (H1 : Heap) : Prop where
  heap : H1 = H
  k : ∃ m : Nat, i = m ∧ m ≤ l.length ∧ ∀ j, j < m → ∀ x, l[j]? = some x → mayP (l.take j) x = true
def checkV (l : List Ev) : Value := if stand l < l.length then .tuple #[.int .i64 52, .int .i64 (stand l : Nat)] else .tuple #[.int .i64 0, .int .i64 0]
theorem t35 {l : List Ev} (hb : l.length ≤ 100000000000000000) {H : Heap} {A : Option Addr} {n c : Nat} (h : HasEvs H A n l) : Tr Try.prog 35 #[.slice A n c] H (fun v H' => v = checkV l ∧ Sub H H') := by
  have hn := h.len; subst hn
  apply v35; unfold F35
  refine ⟨RCk l H, fun i _ => (l.length - i).toNat, ⟨rfl, 0, rfl, by omega, fun j hj => absurd hj (by omega)⟩, fun i H1 r => ?_⟩
  have hH := r.heap; subst hH
  obtain ⟨m, rfl, hm, hs⟩ := r.k
  refine ⟨fun hlt => ?_, fun hge => ⟨?_, Sub.refl _⟩⟩
  · have hlt := of_decide_eq_true hlt
    obtain ⟨x, hx⟩ := get_some (l := l) (i := m) (by omega)
    refine ⟨_, t58 hb h hx, fun q => ⟨?_, Sub.refl _⟩, fun q => ?_⟩
    · have q : mayP (l.take m) x = false := by simpa using q
      have : stand l = m := stand_spec hs (by omega) fun y hy => by rw [hx] at hy; cases hy; exact q
      unfold checkV; rw [this, if_pos (by omega)]
    · have q : mayP (l.take m) x = true := by simpa using q
      rw [wrapi (by omega) (by omega)]
      refine ⟨⟨rfl, m + 1, by omega, by omega, fun j hj y hy => ?_⟩, ?_⟩
      · by_cases hjm : j = m
        · subst hjm; rw [hx] at hy; cases hy; exact q
        · exact hs j (by omega) y hy
      · show (l.length - ((m : Int) + 1)).toNat < (l.length - (m : Int)).toNat
        omega
  · have hge := of_decide_eq_false hge
    have : m = l.length := by omega
    subst this
    have : stand l = l.length := stand_spec hs (by omega) fun y hy => by rw [List.getElem?_eq_none (Nat.le_refl _)] at hy; cases hy
    unfold checkV; rw [this, if_neg (by omega)]
end Go.Proofs.Ytbojjcmhdklhbaa
