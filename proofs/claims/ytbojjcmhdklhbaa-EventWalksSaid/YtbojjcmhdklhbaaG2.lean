/- Grammar: the rules as plain functions, and contracts of the document's side: Has, named, is, names, May, Check. Conditions: the events in memory. -/
import Derived.Test.YtbojjcmhdklhbaaG1
import Derived.Test.YtbojjcmhdklhbaaV6
set_option maxRecDepth 100000
namespace Go.Proofs.Ytbojjcmhdklhbaa
open Go.Ax

/-! ### the rules -/
def isP (pre : List Ev) (id kind : Int) : Bool := decide (id ≥ 1) && decide (id ≤ pre.length) && (match pre[(id - 1).toNat]? with | some x => x.kind == kind | none => false)
def anyP (pre : List Ev) (id : Int) (ks : List Int) : Bool := pre.any fun x => ks.contains x.kind && x.a == id
def atTime (pre : List Ev) (e : Ev) : Bool := match pre[(e.a - 1).toNat]? with | some x => decide (e.time ≥ x.a) | none => false
def namesP (pre : List Ev) (e : Ev) : Bool :=
  if e.kind = 6 ∨ e.kind = 22 ∨ e.kind = 23 ∨ e.kind = 24 then isP pre e.a 3 && !anyP pre e.a [6, 22, 23, 24]
  else if e.kind = 7 then isP pre e.a 4 && !anyP pre e.a [7, 25]
  else if e.kind = 25 then isP pre e.a 4 && !anyP pre e.a [7, 25] && atTime pre e
  else if e.kind = 26 ∨ e.kind = 27 then isP pre e.a 5 && !anyP pre e.a [26, 27]
  else if e.kind = 28 then isP pre e.a 5 && anyP pre e.a [26] && !anyP pre e.a [28]
  else if e.kind = 8 then isP pre e.a 5 && !anyP pre e.a [8, 27, 28]
  else if e.kind = 9 then isP pre e.a 5
  else if e.kind = 29 then isP pre e.a 9 && !anyP pre e.a [29]
  else if e.kind = 12 ∨ e.kind = 13 then isP pre e.a 21 && !anyP pre e.a [12, 13]
  else if e.kind = 14 then isP pre e.a 21 && anyP pre e.a [12] && !anyP pre e.a [14]
  else true
def lastP (pre : List Ev) : Ev := (pre.getLast?).getD Ev.zero
def mayP (pre : List Ev) (e : Ev) : Bool :=
  if (!validM e || e.id != pre.length + 1 || e.kind == 1 && ((pre.length : Int) != 0) || e.kind != 1 && ((pre.length : Int) == 0)) = true then false
  else if pre = [] then true
  else if (decide (e.time < (lastP pre).time) || closeM (lastP pre).kind || e.kind == 2 && e.a != pre.length) = true then false
  else if (cmdM e.kind && !(e.kind == 16 && e.a == -4) && ((lastP pre).kind != 2 && !cmdM (lastP pre).kind || e.time != (lastP pre).time)) = true then false
  else namesP pre e
/-- how many events may stand where they do -/
def standG : List Ev → List Ev → Nat
  | _, [] => 0
  | pre, x :: l => if mayP pre x = true then standG (pre ++ [x]) l + 1 else 0
def stand (h : List Ev) : Nat := standG [] h
theorem standG_le : ∀ (l pre : List Ev), standG pre l ≤ l.length
  | [], _ => Nat.le_refl _
  | x :: l, pre => by unfold standG; split <;> simp; exact standG_le l _
theorem stand_le (h : List Ev) : stand h ≤ h.length := standG_le h []
theorem standG_spec : ∀ (l pre : List Ev) (k : Nat), (∀ j, j < k → ∀ x, l[j]? = some x → mayP (pre ++ l.take j) x = true) → k ≤ l.length →
    (∀ x, l[k]? = some x → mayP (pre ++ l.take k) x = false) → standG pre l = k
  | [], pre, k, _, hk, _ => by simp at hk; subst hk; rfl
  | x :: l, pre, 0, _, _, h => by
    have := h x rfl
    simp at this
    unfold standG; rw [if_neg (by rw [this]; simp)]
  | x :: l, pre, k + 1, h1, hk, h => by
    have h0 := h1 0 (by omega) x rfl
    simp at h0
    unfold standG; rw [if_pos h0]
    rw [standG_spec l (pre ++ [x]) k (fun j hj y hy => by have := h1 (j + 1) (by omega) y (by simpa using hy); simpa using this) (by simpa using hk) (fun y hy => by have := h y (by simpa using hy); simpa using this)]
theorem stand_spec {h : List Ev} {k : Nat} (h1 : ∀ j, j < k → ∀ x, h[j]? = some x → mayP (h.take j) x = true) (hk : k ≤ h.length) (h2 : ∀ x, h[k]? = some x → mayP (h.take k) x = false) : stand h = k :=
  standG_spec h [] k (by simpa using h1) hk (by simpa using h2)

/-! ### lists of kinds -/
structure HasI (H : Heap) (A : Option Addr) (n : Nat) (l : List Int) : Prop where
  len : n = l.length
  at_ : ∀ i x, l[i]? = some x → ∃ a, A = some a ∧ At H (a.add (i * 1)) [.int .i64 x]
theorem HasI.sub {H H' : Heap} {A : Option Addr} {n : Nat} {l : List Int} (h : HasI H A n l) (k : Sub H H') : HasI H' A n l :=
  ⟨h.len, fun i x e => let ⟨a, ha, hat⟩ := h.at_ i x e; ⟨a, ha, hat.sub k⟩⟩
theorem hasI_new {H : Heap} {b : Nat} {T : TypeId} (l : List Int) : HasI (H.upd b (.cells (l.map (Value.int .i64)).toArray T)) (some ⟨b, 0, none⟩) l.length l :=
  ⟨rfl, fun i x e => ⟨_, rfl, at_new1 (by simp [e])⟩⟩
def hasM (ks : List Int) (k : Int) : Bool := ks.contains k || ((ks.length : Int) == 0)
theorem contains_not {l : List Int} {k : Nat} {v : Int} (h : ∀ j, j < k → ∀ x, l[j]? = some x → x ≠ v) (hk : l.length ≤ k) : l.contains v = false := by
  cases hc : l.contains v with
  | false => rfl
  | true =>
    rw [List.contains_iff_mem] at hc
    obtain ⟨j, hj, e⟩ := List.mem_iff_getElem.1 hc
    exact absurd e (h j (by omega) _ (List.getElem?_eq_getElem hj))
structure RHs (l : List Int) (v : Int) (H : Heap) (i : Int) (H1 : Heap) : Prop where
  heap : H1 = H
  k : ∃ k : Nat, i = k ∧ k ≤ l.length ∧ ∀ j, j < k → ∀ x, l[j]? = some x → x ≠ v
theorem t31 {ks : List Int} (hb : ks.length ≤ 9223372036854775807) {H : Heap} {A : Option Addr} {n c : Nat} (h : HasI H A n ks) (k : Int) : Tr Try.prog 31 #[.slice A n c, .int .i64 k] H (fun v H' => v = .bool (hasM ks k) ∧ Sub H H') := by
  have hn := h.len; subst hn
  apply v31; unfold F31
  refine ⟨RHs ks k H, fun i _ => (ks.length - i).toNat, ⟨rfl, 0, rfl, by omega, fun j hj => absurd hj (by omega)⟩, fun i H1 r => ?_⟩
  have hH := r.heap; subst hH
  obtain ⟨m, rfl, hm, hs⟩ := r.k
  refine ⟨fun hlt => ?_, fun hge => ⟨?_, Sub.refl _⟩⟩
  · have hlt := of_decide_eq_true hlt
    obtain ⟨x, hx⟩ := get_some (l := ks) (i := m) (by omega)
    obtain ⟨a, ha, hat⟩ := h.at_ m x hx
    refine ⟨a, ⟨ha, by omega, by omega⟩, x, hat, fun he => ⟨?_, Sub.refl _⟩, fun he => ?_⟩
    · have e : x = k := by simpa using he
      have hc : ks.contains k = true := by rw [List.contains_iff_mem, ← e]; exact List.mem_of_getElem? hx
      unfold hasM; rw [hc]; rfl
    · have e : x ≠ k := by simpa using he
      rw [wrapi (by omega) (by omega)]
      refine ⟨⟨rfl, m + 1, by omega, by omega, fun j hj y hy => ?_⟩, ?_⟩
      · by_cases hjm : j = m
        · subst hjm; rw [hx] at hy; cases hy; exact e
        · exact hs j (by omega) y hy
      · show (ks.length - ((m : Int) + 1)).toNat < (ks.length - (m : Int)).toNat
        omega
  · have hge := of_decide_eq_false hge
    unfold hasM; rw [contains_not hs (by omega)]; simp
theorem t66 {l : List Ev} (hb : l.length ≤ 100000000000000000) {H : Heap} {A : Option Addr} {n c : Nat} (h : HasEvs H A n l) {k : Nat} (hk : k ≤ l.length) (id kind : Int) :
    Tr Try.prog 66 #[.slice A n c, .int .i64 k, .int .i64 id, .int .i64 kind] H (fun v H' => v = .bool (isP (l.take k) id kind) ∧ Sub H H') := by
  have hn := h.len; subst hn
  apply v66; unfold F66
  by_cases hid : 1 ≤ id ∧ id ≤ k
  · obtain ⟨x, hx⟩ := get_some (l := l) (i := (id - 1).toNat) (by omega)
    obtain ⟨a, ha, hat⟩ := h.at_ _ x hx
    have hw : IntKind.i64.wrap (id - 1) = id - 1 := wrapi (by omega) (by omega)
    refine ⟨a, fun _ => ⟨ha, by omega, by omega⟩, x.kind, fun _ => by rw [hw]; exact at_one 2 hat rfl, ?_, Sub.refl _⟩
    unfold isP
    rw [List.getElem?_take, if_pos (by omega), hx, List.length_take, Nat.min_eq_left hk]
  · have hf : (decide (id ≥ 1) && decide (id ≤ (k : Int))) = false := by
      cases hc : (decide (id ≥ 1) && decide (id ≤ (k : Int))) with
      | false => rfl
      | true => simp at hc; omega
    refine ⟨⟨0, 0, none⟩, fun e => (by rw [hf] at e; cases e), 0, fun e => (by rw [hf] at e; cases e), ?_, Sub.refl _⟩
    unfold isP
    rw [List.length_take, Nat.min_eq_left hk, hf]; rfl
structure RNm (l : List Ev) (id : Int) (ks : List Int) (k : Nat) (H : Heap) (i : Int) (H1 : Heap) : Prop where
  heap : H1 = H
  k : ∃ m : Nat, i = m ∧ m ≤ k ∧ anyP (l.take m) id ks = false
theorem anyP_snoc (pre : List Ev) (x : Ev) (id : Int) (ks : List Int) : anyP (pre ++ [x]) id ks = (anyP pre id ks || (ks.contains x.kind && x.a == id)) := by unfold anyP; simp
theorem take_snoc {α : Type} {l : List α} {m : Nat} {x : α} (h : l[m]? = some x) : l.take (m + 1) = l.take m ++ [x] := by rw [List.take_add_one, h]; rfl
theorem anyP_take {l : List Ev} {id : Int} {ks : List Int} {m k : Nat} (hm : m ≤ k) (h : anyP (l.take m) id ks = true) : anyP (l.take k) id ks = true := by
  unfold anyP at h ⊢
  rw [List.any_eq_true] at h ⊢
  obtain ⟨x, hx, hq⟩ := h
  refine ⟨x, ?_, hq⟩
  have : l.take m = (l.take k).take m := by rw [List.take_take, Nat.min_eq_left hm]
  rw [this] at hx
  exact List.mem_of_mem_take hx
theorem t60 {l : List Ev} (hb : l.length ≤ 100000000000000000) {H : Heap} {A : Option Addr} {n c : Nat} (h : HasEvs H A n l) {k : Nat} (hk : k ≤ l.length) (id : Int) {ks : List Int} (hks : ks ≠ []) (hkb : ks.length ≤ 9223372036854775807) {B : Option Addr} {n' c' : Nat} (hI : HasI H B n' ks) :
    Tr Try.prog 60 #[.slice A n c, .int .i64 k, .int .i64 id, .slice B n' c'] H (fun v H' => v = .bool (anyP (l.take k) id ks) ∧ Sub H H') := by
  have hn := h.len; subst hn
  apply v60; unfold F60
  refine ⟨RNm l id ks k H, fun i _ => (k - i).toNat, ⟨rfl, 0, rfl, by omega, by simp [anyP]⟩, fun i H1 r => ?_⟩
  have hH := r.heap; subst hH
  obtain ⟨m, rfl, hm, hs⟩ := r.k
  refine ⟨fun hlt => ?_, fun hge => ⟨?_, Sub.refl _⟩⟩
  · have hlt := of_decide_eq_true hlt
    obtain ⟨x, hx⟩ := get_some (l := l) (i := m) (by omega)
    obtain ⟨a, ha, hat⟩ := h.at_ m x hx
    have hh : hasM ks x.kind = ks.contains x.kind := by
      unfold hasM
      cases ks with
      | nil => exact absurd rfl hks
      | cons y l => simp; omega
    refine ⟨a, ⟨ha, by omega, by omega⟩, x.kind, at_one 2 hat rfl, _, t31 hkb hI x.kind, a, fun _ => ⟨ha, by omega, by omega⟩, x.a, fun _ => at_one 3 hat rfl, fun he => ⟨?_, Sub.refl _⟩, fun he => ?_⟩
    · rw [hh] at he
      have : anyP (l.take (m + 1)) id ks = true := by rw [take_snoc hx, anyP_snoc, he]; simp
      rw [anyP_take (by omega) this]
    · rw [hh] at he
      rw [wrapi (by omega) (by omega)]
      refine ⟨⟨rfl, m + 1, by omega, by omega, by rw [take_snoc hx, anyP_snoc, hs, he]; rfl⟩, ?_⟩
      show (k - ((m : Int) + 1)).toNat < (k - (m : Int)).toNat
      omega
  · have hge := of_decide_eq_false hge
    have : m = k := by omega
    subst this
    rw [hs]
end Go.Proofs.Ytbojjcmhdklhbaa
