/- Timing: the contracts of Least (both), Ends (both), Bound (both). Conditions: as each says. -/
import Derived.Test.YtanahoejlnmfiaaT1
set_option maxRecDepth 100000
namespace Go.Proofs.Ytanahoejlnmfiaa
open Go.Ax

/-- the first answer below n -/
def scan {α : Type} (n : Nat) (g : Nat → Option α) : Option α := (List.range n).findSome? g
theorem scan_none {α : Type} {n : Nat} {g : Nat → Option α} (h : ∀ j, j < n → g j = none) : scan n g = none := by
  unfold scan; rw [List.findSome?_eq_none_iff]; intro j hj; exact h j (by simpa using hj)
theorem scan_hit {α : Type} {n : Nat} {g : Nat → Option α} {k : Nat} {r : α} (hk : k < n) (h : ∀ j, j < k → g j = none) (e : g k = some r) : scan n g = some r := by
  unfold scan
  rw [show List.range n = List.range k ++ (k :: (List.range (n - k - 1)).map (k + 1 + ·)) by
    have : n = k + (1 + (n - k - 1)) := by omega
    rw [this, List.range_add, List.range_add]
    simp [List.range_succ]
    intro a _; omega]
  have q : (List.range k).findSome? g = none := by have := scan_none h; unfold scan at this; exact this
  rw [List.findSome?_append, q]
  simp [e]

/-! ### integers in a slice -/
structure Ints (H : Heap) (A : Option Addr) (n : Nat) (l : List Int) : Prop where
  len : n = l.length
  at_ : ∀ i x, l[i]? = some x → ∃ a, A = some a ∧ At H (a.add i) [.int .i64 x]
  big : n ≤ 9223372036854775807
def leastStep (out v : Int) : Int := if decide (v > 0) && (out == 0 || decide (v < out)) then v else out
def leastL (l : List Int) : Int := l.foldl leastStep 0
theorem least_snoc (l : List Int) (i : Nat) (x : Int) (h : l[i]? = some x) : leastL (l.take (i + 1)) = leastStep (leastL (l.take i)) x := by
  unfold leastL
  rw [List.take_add_one, h]; simp
structure RL (l : List Int) (H : Heap) (out i : Int) (H1 : Heap) : Prop where
  heap : H1 = H
  k : ∃ k : Nat, i = k ∧ k ≤ l.length ∧ out = leastL (l.take k)
theorem RL.next {l : List Int} {H H1 : Heap} {out i : Int} {k : Nat} {x : Int} (r : RL l H out i H1) (hi : i = (k : Int)) (hb : l.length ≤ 9223372036854775807) (hx : l[k]? = some x) (v : Int) (hv : leastStep out x = v) :
    RL l H v (IntKind.i64.wrap (i + 1)) H1 ∧ (l.length - IntKind.i64.wrap (i + 1)).toNat < (l.length - i).toNat := by
  obtain ⟨k', hk', _, ho⟩ := r.k
  have : k' = k := by omega
  subst this
  have hk : k' < l.length := by
    rcases Nat.lt_or_ge k' l.length with h | h
    · exact h
    · rw [List.getElem?_eq_none h] at hx; cases hx
  rw [wrap_id (x := i + 1) (by omega) (by omega)]
  exact ⟨⟨r.heap, k' + 1, by omega, by omega, by rw [← hv, least_snoc l k' x hx, ho]⟩, by omega⟩
theorem t21 {H : Heap} {A : Option Addr} {n c : Nat} {l : List Int} (h : Ints H A n l) : Tr Try.prog 21 #[.slice A n c] H (fun v H' => v = .int .i64 (leastL l) ∧ Sub H H') := by
  have hn := h.len; have hb := h.big
  apply v21; unfold F21
  refine ⟨RL l H, fun _ i _ => (l.length - i).toNat, ⟨rfl, 0, rfl, Nat.zero_le _, rfl⟩, fun out i H1 r => ?_⟩
  obtain ⟨k, rfl, hk, ho⟩ := r.k
  refine ⟨fun hlt => ?_, fun hge => ⟨?_, r.heap ▸ Sub.refl _⟩⟩
  · have hlt := of_decide_eq_true hlt
    have hx : l[k]? = some l[k] := List.getElem?_eq_getElem (by omega)
    obtain ⟨a, ha, hat⟩ := h.at_ k _ hx
    refine ⟨a, ⟨ha, by omega, hlt⟩, l[k], ?_, fun e => ?_, fun e => ?_⟩
    · rw [r.heap]; simpa using hat
    · exact RL.next r rfl (by omega) hx _ (by unfold leastStep; rw [e]; rfl)
    · exact RL.next r rfl (by omega) hx _ (by unfold leastStep; rw [e]; rfl)
  · have hge := of_decide_eq_false hge
    rw [ho, List.take_of_length_le (by omega)]
theorem t22 {H : Heap} {A : Option Addr} {n c : Nat} {l : List Int} (h : Ints H A n l) : Tr Try.prog 22 #[.slice A n c] H (fun v H' => v = .int .i64 (leastL l) ∧ Sub H H') := by
  have hn := h.len; have hb := h.big
  apply v22; unfold F22
  refine ⟨RL l H, fun _ i _ => (l.length - i).toNat, ⟨rfl, 0, rfl, Nat.zero_le _, rfl⟩, fun out i H1 r => ?_⟩
  obtain ⟨k, rfl, hk, ho⟩ := r.k
  refine ⟨fun hlt => ?_, fun hge => ⟨?_, r.heap ▸ Sub.refl _⟩⟩
  · have hlt := of_decide_eq_true hlt
    have hx : l[k]? = some l[k] := List.getElem?_eq_getElem (by omega)
    obtain ⟨a, ha, hat⟩ := h.at_ k _ hx
    have hat' : At H1 (a.add ((k : Int).toNat * 1)) [.int .i64 l[k]] := by rw [r.heap]; simpa using hat
    refine ⟨a, ⟨ha, by omega, hlt⟩, l[k], hat', a, fun _ => ⟨ha, by omega, hlt⟩, l[k], fun _ => hat', fun e => ⟨a, ⟨ha, by omega, hlt⟩, l[k], hat', ?_⟩, fun e => ?_⟩
    · exact RL.next r rfl (by omega) hx _ (by unfold leastStep; rw [e]; rfl)
    · exact RL.next r rfl (by omega) hx _ (by unfold leastStep; rw [e]; rfl)
  · have hge := of_decide_eq_false hge
    rw [ho, List.take_of_length_le (by omega)]

def endsI (from_ wait : Int) : Int × Bool := if wait ≤ 0 then (0, false) else (IntKind.i64.wrap (from_ + wait), true)
theorem t23 (from_ wait : Int) (H : Heap) : Tr Try.prog 23 #[.int .i64 from_, .int .i64 wait] H (fun v H' => v = .tuple #[.int .i64 (endsI from_ wait).1, .bool (endsI from_ wait).2] ∧ Sub H H') := by
  apply v23; unfold F23 endsI
  exact ⟨fun h => ⟨by rw [if_pos (of_decide_eq_true h)], Sub.refl _⟩, fun h => ⟨by rw [if_neg (of_decide_eq_false h)], Sub.refl _⟩⟩
theorem t24 (from_ wait : Int) (H : Heap) : Tr Try.prog 24 #[.int .i64 from_, .int .i64 wait] H (fun v H' => v = .tuple #[.int .i64 (endsI from_ wait).1, .bool (endsI from_ wait).2] ∧ Sub H H') := by
  apply v24; unfold F24 endsI
  exact ⟨fun h => ⟨by rw [if_pos (of_decide_eq_true h)], Sub.refl _⟩, fun h => ⟨by rw [if_neg (of_decide_eq_false h)], Sub.refl _⟩⟩

/-! ### Bound -/
structure BOk (o : O) : Prop extends WOk o where
  s0 : 0 ≤ o.start
  s1 : o.start ≤ 1048576
  c0 : 0 ≤ o.close
  c1 : o.close ≤ 1048576
  t0 : 0 ≤ o.tries
  t1 : o.tries ≤ 1000
def O.ws (o : O) : Nat → Int
  | 0 => 0
  | k + 1 => O.ws o k + o.w k
theorem ws_range {o : O} (h : WOk o) (k : Nat) : 0 ≤ o.ws k ∧ o.ws k ≤ 1048576 * k := by
  induction k with
  | zero => exact ⟨Int.le_refl _, by simp [O.ws]⟩
  | succ k ih =>
    have := w_range h k; have := lim_range h
    show 0 ≤ o.ws k + o.w k ∧ o.ws k + o.w k ≤ 1048576 * ((k + 1 : Nat) : Int)
    omega
def O.bound (o : O) : Int × Bool :=
  if o.total != 0 then (o.total, true) else
  if o.start == 0 || o.close == 0 || o.tries == 0 then (0, false) else (o.tries * (o.start + o.close) + o.ws (o.tries - 1).toNat, true)
theorem mul_bound {o : O} (h : BOk o) (k : Int) (k0 : 0 ≤ k) (k1 : k ≤ 1000) : 0 ≤ k * (o.start + o.close) ∧ k * (o.start + o.close) ≤ 1000 * 2097152 := by
  have := h.s0; have := h.s1; have := h.c0; have := h.c1
  exact ⟨Int.mul_nonneg k0 (by omega), Int.mul_le_mul k1 (by omega) (by omega) (by omega)⟩
structure R25 (o : O) (H : Heap) (x i : Int) (H1 : Heap) : Prop where
  heap : H1 = H
  one : 1 ≤ i
  top : i ≤ 1 ∨ i ≤ o.tries
  val : x = o.tries * (o.start + o.close) + o.ws (i - 1).toNat
theorem t25 {o : O} (h : BOk o) (H : Heap) : Tr Try.prog 25 #[o.val] H (fun v H' => v = .tuple #[.int .i64 o.bound.1, .bool o.bound.2] ∧ Sub H H') := by
  apply v25; unfold F25 O.bound
  have s0 := h.s0; have s1 := h.s1; have c0 := h.c0; have c1 := h.c1; have q0 := h.t0; have q1 := h.t1
  have mb := mul_bound h o.tries q0 q1
  refine ⟨fun e => ⟨by simp only [e]; rfl, Sub.refl _⟩, fun e => ⟨fun e2 => ⟨by simp only [e, e2]; rfl, Sub.refl _⟩, fun e2 => ?_⟩⟩
  have e3 : IntKind.i64.wrap (o.tries * IntKind.i64.wrap (o.start + o.close)) = o.tries * (o.start + o.close) := by
    rw [wrap_id (x := o.start + o.close) (by omega) (by omega), wrap_id (by omega) (by omega)]
  have e4 : (o.tries == 0) = false := by revert e2; cases (o.tries == 0) <;> simp
  have e5 : o.tries ≠ 0 := by simpa using e4
  refine ⟨R25 o H, fun _ i _ => (o.tries - i).toNat, ⟨rfl, by omega, .inl (by omega), by rw [e3]; simp [O.ws]⟩, fun x i H1 r => ?_⟩
  have r1 := r.one; have r2 := r.top
  refine ⟨fun hlt => ?_, fun hge => ⟨?_, r.heap ▸ Sub.refl _⟩⟩
  · have hlt := of_decide_eq_true hlt
    have wr := ws_range h.toWOk (i - 1).toNat
    have w1 := w_range h.toWOk (i - 1).toNat; have lr := lim_range h.toWOk
    refine ⟨_, t16 h.toWOk (by omega) H1, ?_⟩
    have hw : o.wait i = o.w (i - 1).toNat := rfl
    rw [hw, r.val, wrap_id (x := i + 1) (by omega) (by omega), wrap_id (x := _ + o.w _) (by omega) (by omega)]
    refine ⟨⟨r.heap, by omega, by omega, ?_⟩, show (o.tries - (i + 1)).toNat < (o.tries - i).toNat by omega⟩
    have e6 : (i + 1 - 1).toNat = (i - 1).toNat + 1 := by omega
    rw [e6]; show _ = _ + (o.ws (i - 1).toNat + o.w (i - 1).toNat); omega
  · have hge := of_decide_eq_false hge
    have e6 : (i - 1).toNat = (o.tries - 1).toNat := by omega
    simp only [e, e2]; rw [r.val, e6]; rfl
structure R26 (o : O) (H : Heap) (x i : Int) (H1 : Heap) : Prop where
  heap : H1 = H
  one : 1 ≤ i
  top : i ≤ o.tries + 1
  val : x = (i - 1) * (o.start + o.close) + o.ws (if i ≤ o.tries then (i - 1).toNat else (o.tries - 1).toNat)
theorem t26 {o : O} (h : BOk o) (H : Heap) : Tr Try.prog 26 #[o.val] H (fun v H' => v = .tuple #[.int .i64 o.bound.1, .bool o.bound.2] ∧ Sub H H') := by
  apply v26; unfold F26 O.bound
  have s0 := h.s0; have s1 := h.s1; have c0 := h.c0; have c1 := h.c1; have q0 := h.t0; have q1 := h.t1
  refine ⟨fun e => ⟨by simp only [e]; rfl, Sub.refl _⟩, fun e => ⟨fun e2 => ⟨by simp only [e, e2]; rfl, Sub.refl _⟩, fun e2 => ?_⟩⟩
  have e4 : (o.tries == 0) = false := by revert e2; cases (o.tries == 0) <;> simp
  have e5 : o.tries ≠ 0 := by simpa using e4
  refine ⟨R26 o H, fun _ i _ => (o.tries + 1 - i).toNat, ⟨rfl, by omega, by omega, by rw [if_pos (by omega)]; simp [O.ws]⟩, fun x i H1 r => ?_⟩
  have r1 := r.one; have r2 := r.top
  refine ⟨fun hle => ?_, fun hgt => ⟨?_, r.heap ▸ Sub.refl _⟩⟩
  · have hle := of_decide_eq_true hle
    have wr := ws_range h.toWOk (i - 1).toNat
    have w1 := w_range h.toWOk (i - 1).toNat; have lr := lim_range h.toWOk
    have mb := mul_bound h (i - 1) (by omega) (by omega)
    have hv := r.val
    rw [if_pos hle] at hv
    have e7 : (i + 1 - 1) * (o.start + o.close) = (i - 1) * (o.start + o.close) + (o.start + o.close) := by
      rw [show i + 1 - 1 = (i - 1) + 1 by omega, Int.add_mul, Int.one_mul]
    refine ⟨fun hlt => ?_, fun hge => ?_⟩
    · have hlt := of_decide_eq_true hlt
      refine ⟨_, t17 h.toWOk H1, ?_⟩
      have hw : o.wait i = o.w (i - 1).toNat := rfl
      rw [hw, wrap_id (x := i + 1) (by omega) (by omega), wrap_id (x := x + o.start) (by omega) (by omega), wrap_id (x := x + o.start + o.close) (by omega) (by omega), wrap_id (x := _ + o.w _) (by omega) (by omega)]
      refine ⟨⟨r.heap, by omega, by omega, ?_⟩, show (o.tries + 1 - (i + 1)).toNat < (o.tries + 1 - i).toNat by omega⟩
      have e6 : (i + 1 - 1).toNat = (i - 1).toNat + 1 := by omega
      rw [if_pos (by omega), e6, e7]; show _ = _ + (o.ws (i - 1).toNat + o.w (i - 1).toNat); omega
    · have hge := of_decide_eq_false hge
      rw [wrap_id (x := i + 1) (by omega) (by omega), wrap_id (x := x + o.start) (by omega) (by omega), wrap_id (x := x + o.start + o.close) (by omega) (by omega)]
      refine ⟨⟨r.heap, by omega, by omega, ?_⟩, show (o.tries + 1 - (i + 1)).toNat < (o.tries + 1 - i).toNat by omega⟩
      have e6 : i = o.tries := by omega
      rw [if_neg (by omega), e7, hv, e6]; omega
  · have hgt := of_decide_eq_false hgt
    have e6 : i = o.tries + 1 := by omega
    simp only [e, e2]
    have hv := r.val
    rw [if_neg hgt, e6, show o.tries + 1 - 1 = o.tries by omega] at hv
    rw [hv]; rfl
end Go.Proofs.Ytanahoejlnmfiaa
