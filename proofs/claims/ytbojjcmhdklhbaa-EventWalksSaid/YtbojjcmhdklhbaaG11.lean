/- Grammar: the law GrammarNames: each thing that may end is ended once at most, and what is open is what has not ended. Conditions: the list in memory, each event well formed. -/
import Derived.Test.YtbojjcmhdklhbaaG10
set_option maxRecDepth 100000
namespace Go.Proofs.Ytbojjcmhdklhbaa
open Go.Ax Go.RowKit

def endKs (k : Int) : List Int := if k = 3 then [6, 22, 23, 24] else if k = 4 then [7, 25] else if k = 5 then [27, 28] else if k = 21 then [13, 14] else []
def endB (ki kj : Int) : Bool := ki == 3 && (kj == 6 || decide (kj ≥ 22) && decide (kj ≤ 24)) || ki == 4 && (kj == 7 || kj == 25) || ki == 5 && (kj == 27 || kj == 28) || ki == 21 && (kj == 13 || kj == 14)
theorem endB_eq (ki kj : Int) : endB ki kj = (endKs ki).contains kj := by
  rw [Bool.eq_iff_iff]
  unfold endB endKs
  by_cases h3 : ki = 3
  · subst h3; simp; omega
  · by_cases h4 : ki = 4
    · subst h4; simp
    · by_cases h5 : ki = 5
      · subst h5; simp
      · by_cases h21 : ki = 21
        · subst h21; simp
        · simp [h3, h4, h5, h21]
theorem any_take {l : List Ev} {j : Nat} {id : Int} {ks : List Int} : anyP (l.take j) id ks = true ↔ ∃ q y, q < j ∧ l[q]? = some y ∧ y.kind ∈ ks ∧ y.a = id := by
  unfold anyP
  rw [List.any_eq_true]
  constructor
  · rintro ⟨y, hy, hq⟩
    obtain ⟨q, hq2⟩ := List.mem_iff_getElem?.1 hy
    have hqj : q < j := by have := get_lt hq2; rw [List.length_take] at this; omega
    rw [get_take hqj] at hq2
    simp only [Bool.and_eq_true, List.contains_iff_mem, beq_iff_eq] at hq
    exact ⟨q, y, hqj, hq2, hq.1, hq.2⟩
  · rintro ⟨q, y, hqj, hq2, h1, h2⟩
    refine ⟨y, List.mem_iff_getElem?.2 ⟨q, by rw [get_take hqj]; exact hq2⟩, ?_⟩
    simp only [Bool.and_eq_true, List.contains_iff_mem, beq_iff_eq]
    exact ⟨h1, h2⟩
/-- Of three kinds, the third needs the first, and the first two exclude one another: then the second and the third are one at most. -/
theorem three {l : List Ev} {k1 k2 k3 : Int} (hne : k1 ≠ k2) (h12 : ∀ j x, l[j]? = some x → (x.kind = k1 ∨ x.kind = k2) → anyP (l.take j) x.a [k1, k2] = false)
    (h3 : ∀ j x, l[j]? = some x → x.kind = k3 → anyP (l.take j) x.a [k1] = true ∧ anyP (l.take j) x.a [k3] = false) :
    ∀ j x, l[j]? = some x → (x.kind = k2 ∨ x.kind = k3) → anyP (l.take j) x.a [k2, k3] = false := by
  intro j x hx hk
  cases hc : anyP (l.take j) x.a [k2, k3] with
  | false => rfl
  | true =>
    obtain ⟨q, y, hq, hy, hyk, hya⟩ := any_take.1 hc
    simp only [List.mem_cons, List.not_mem_nil, or_false] at hyk
    rcases hk with hk | hk
    · have h := h12 j x hx (.inr hk)
      rcases hyk with hyk | hyk
      · rw [any_take.2 ⟨q, y, hq, hy, by simp [hyk], hya⟩] at h; cases h
      · obtain ⟨p, z, hp, hz, hzk, hza⟩ := any_take.1 (h3 q y hy hyk).1
        rw [any_take.2 ⟨p, z, by omega, hz, by simp at hzk; simp [hzk], hza.trans hya⟩] at h; cases h
    · obtain ⟨h, h'⟩ := h3 j x hx hk
      rcases hyk with hyk | hyk
      · obtain ⟨p, z, hp, hz, hzk, hza⟩ := any_take.1 h
        simp only [List.mem_cons, List.not_mem_nil, or_false] at hzk
        rcases Nat.lt_trichotomy p q with e | e | e
        · have := h12 q y hy (.inr hyk)
          rw [any_take.2 ⟨p, z, e, hz, by simp [hzk], hza.trans hya.symm⟩] at this; cases this
        · subst e
          rw [hz] at hy; cases hy
          exact absurd (hzk.symm.trans hyk) hne
        · have := h12 p z hz (.inl hzk)
          rw [any_take.2 ⟨q, y, e, hy, by simp [hyk], hya.trans hza.symm⟩] at this; cases this
      · rw [any_take.2 ⟨q, y, hq, hy, by simp [hyk], hya⟩] at h'; cases h'
theorem nm {l : List Ev} (hs : stand l = l.length) {j : Nat} {x : Ev} (hx : l[j]? = some x) (hk : x.kind ≠ 1) : namesP (l.take j) x = true := by
  have m := standG_all l [] hs j x hx
  rw [List.nil_append] at m
  by_cases hne : l.take j = []
  · rw [hne, may_nil] at m
    have hb : (x.kind == 1) = false := by simpa using hk
    rw [hb] at m; simp at m
  · rw [may_ne hne] at m
    split at m
    · cases m
    · split at m
      · cases m
      · split at m
        · cases m
        · exact m
theorem once {l : List Ev} (hs : stand l = l.length) (ki : Int) {j : Nat} {x : Ev} (hx : l[j]? = some x) (hk : x.kind ∈ endKs ki) : anyP (l.take j) x.a (endKs ki) = false := by
  have two : ∀ (j : Nat) (x : Ev), l[j]? = some x → (x.kind = 26 ∨ x.kind = 27) → anyP (l.take j) x.a [26, 27] = false := fun j x hx hk => by
    have h := nm hs hx (by omega)
    rcases hk with hk | hk <;> (unfold namesP at h; rw [hk] at h; simp at h; exact h.2)
  have third : ∀ (j : Nat) (x : Ev), l[j]? = some x → x.kind = 28 → anyP (l.take j) x.a [26] = true ∧ anyP (l.take j) x.a [28] = false := fun j x hx hk => by
    have h := nm hs hx (by omega)
    unfold namesP at h; rw [hk] at h; simp at h; exact ⟨h.1.2, h.2⟩
  have two' : ∀ (j : Nat) (x : Ev), l[j]? = some x → (x.kind = 12 ∨ x.kind = 13) → anyP (l.take j) x.a [12, 13] = false := fun j x hx hk => by
    have h := nm hs hx (by omega)
    rcases hk with hk | hk <;> (unfold namesP at h; rw [hk] at h; simp at h; exact h.2)
  have third' : ∀ (j : Nat) (x : Ev), l[j]? = some x → x.kind = 14 → anyP (l.take j) x.a [12] = true ∧ anyP (l.take j) x.a [14] = false := fun j x hx hk => by
    have h := nm hs hx (by omega)
    unfold namesP at h; rw [hk] at h; simp at h; exact ⟨h.1.2, h.2⟩
  unfold endKs at hk ⊢
  by_cases h3 : ki = 3
  · rw [if_pos h3] at hk ⊢
    simp only [List.mem_cons, List.not_mem_nil, or_false] at hk
    have h := nm hs hx (by omega)
    rcases hk with hk | hk | hk | hk <;> (unfold namesP at h; rw [hk] at h; simp at h; exact h.2)
  · rw [if_neg h3] at hk ⊢
    by_cases h4 : ki = 4
    · rw [if_pos h4] at hk ⊢
      simp only [List.mem_cons, List.not_mem_nil, or_false] at hk
      have h := nm hs hx (by omega)
      rcases hk with hk | hk
      · unfold namesP at h; rw [hk] at h; simp at h; exact h.2
      · unfold namesP at h; rw [hk] at h; simp at h; exact h.1.2
    · rw [if_neg h4] at hk ⊢
      by_cases h5 : ki = 5
      · rw [if_pos h5] at hk ⊢
        simp only [List.mem_cons, List.not_mem_nil, or_false] at hk
        exact three (by decide) two third j x hx hk
      · rw [if_neg h5] at hk ⊢
        by_cases h21 : ki = 21
        · rw [if_pos h21] at hk ⊢
          simp only [List.mem_cons, List.not_mem_nil, or_false] at hk
          exact three (by decide) two' third' j x hx hk
        · rw [if_neg h21] at hk; simp at hk
def endP (ki id : Int) (x : Ev) : Bool := x.a == id && endB ki x.kind
def cnt (l : List Ev) (ki id : Int) (m : Nat) : Nat := ((l.take m).filter (endP ki id)).length
theorem any_end (pre : List Ev) (ki id : Int) : pre.any (endP ki id) = anyP pre id (endKs ki) := by
  unfold anyP endP
  congr 1
  funext x
  rw [endB_eq, Bool.and_comm]
theorem cnt_zero (l : List Ev) (ki id : Int) (m : Nat) : cnt l ki id m = 0 ↔ anyP (l.take m) id (endKs ki) = false := by
  rw [← any_end]
  unfold cnt
  rw [List.length_eq_zero_iff, List.filter_eq_nil_iff, List.any_eq_false]
theorem cnt_succ {l : List Ev} {m : Nat} {x : Ev} (hx : l[m]? = some x) (ki id : Int) : cnt l ki id (m + 1) = cnt l ki id m + (if endP ki id x = true then 1 else 0) := by
  unfold cnt
  rw [take_snoc hx, List.filter_append, List.length_append]
  congr 1
  by_cases h : endP ki id x = true <;> simp [h]
theorem cnt_one {l : List Ev} (hs : stand l = l.length) (ki id : Int) : ∀ m, m ≤ l.length → cnt l ki id m ≤ 1
  | 0, _ => by simp [cnt]
  | m + 1, hm => by
    obtain ⟨x, hx⟩ := get_some (l := l) (i := m) (by omega)
    have ih := cnt_one hs ki id m (by omega)
    rw [cnt_succ hx]
    split
    · rename_i hp
      unfold endP at hp
      simp only [Bool.and_eq_true, beq_iff_eq] at hp
      have hk : x.kind ∈ endKs ki := by have := hp.2; rw [endB_eq, List.contains_iff_mem] at this; exact this
      have h0 := once hs ki hx hk
      rw [hp.1] at h0
      rw [(cnt_zero l ki id m).2 h0]; omega
    · omega
theorem cnt_le_m (l : List Ev) (ki id : Int) (m : Nat) : cnt l ki id m ≤ m := by
  unfold cnt
  have := List.length_filter_le (endP ki id) (l.take m)
  rw [List.length_take] at this; omega
theorem open_cnt {l : List Ev} {i : Nat} {x : Ev} (hx : l[i]? = some x) :
    decide (i ∈ openN l) = ((decide (x.kind ≥ 3) && decide (x.kind ≤ 5) || x.kind == 21) && ((cnt l x.kind (i + 1) l.length : Nat) : Int) == 0) := by
  have hil := get_lt hx
  have h1 : decide (i ∈ openN l) = (opK l i && opX l i) := by
    rw [Bool.eq_iff_iff, decide_eq_true_eq]
    unfold openN
    rw [List.mem_filter, List.mem_range]
    exact ⟨fun h => h.2, fun h => ⟨hil, h⟩⟩
  have h2 : (((cnt l x.kind (i + 1) l.length : Nat) : Int) == 0) = !anyP l (i + 1) (endKs x.kind) := by
    have := cnt_zero l x.kind (i + 1) l.length
    rw [List.take_length] at this
    cases ha : anyP l (i + 1) (endKs x.kind) with
    | false => rw [this.2 ha]; rfl
    | true =>
      have : cnt l x.kind (i + 1) l.length ≠ 0 := fun e => by rw [this.1 e] at ha; cases ha
      simp; omega
  rw [h1, h2, opK_of hx, opX_of hx]
  by_cases h3 : x.kind = 3
  · rw [h3]; rfl
  · by_cases h4 : x.kind = 4
    · rw [h4]; rfl
    · by_cases h5 : x.kind = 5
      · rw [h5]; rfl
      · by_cases h21 : x.kind = 21
        · rw [h21]; rfl
        · have ha : hasM [3, 4, 5, 21] x.kind = false := by simp [hasM, h3, h4, h5, h21]
          have hb : (decide (x.kind ≥ 3) && decide (x.kind ≤ 5) || x.kind == 21) = false := by simp [h21]; omega
          rw [ha, hb]; rfl
end Go.Proofs.Ytbojjcmhdklhbaa
