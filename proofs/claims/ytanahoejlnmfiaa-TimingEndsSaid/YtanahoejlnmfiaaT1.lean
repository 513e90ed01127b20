/- Timing: the contracts of limit, Wait (both), Again (both), fit, Ends (both), Least (both). Conditions: where a contract asks for options that may be, it says so (WOk). -/
import Derived.Test.YtanahoejlnmfiaaV1
import Derived.Test.YtanahoejlnmfiaaV2
set_option maxRecDepth 100000
namespace Go.Proofs.Ytanahoejlnmfiaa
open Go.Ax

structure O where
  (queue start close total beat first num den most tries never : Int)
def O.cells (o : O) : List Value := [.int .i64 o.queue, .int .i64 o.start, .int .i64 o.close, .int .i64 o.total, .int .i64 o.beat, .int .i64 o.first, .int .i64 o.num, .int .i64 o.den, .int .i64 o.most, .int .i64 o.tries, .int .i64 o.never]
abbrev O.val (o : O) : Value := .agg #[.int .i64 o.queue, .int .i64 o.start, .int .i64 o.close, .int .i64 o.total, .int .i64 o.beat, .int .i64 o.first, .int .i64 o.num, .int .i64 o.den, .int .i64 o.most, .int .i64 o.tries, .int .i64 o.never]
/-- options that may be, as far as the waits ask -/
structure WOk (o : O) : Prop where
  d1 : 1 ≤ o.den
  dn : o.den ≤ o.num
  n1 : o.num ≤ 1000
  f0 : 0 ≤ o.first
  f1 : o.first ≤ 1048576
  m0 : 0 ≤ o.most
  m1 : o.most ≤ 1048576
def O.lim (o : O) : Int := if o.most == 0 then 1048576 else o.most
def stepW (lim num den v : Int) : Int := if lim < (v * num).tdiv den then lim else (v * num).tdiv den
def iterW (lim num den : Int) : Nat → Int → Int
  | 0, v => v
  | k + 1, v => stepW lim num den (iterW lim num den k v)
def O.w (o : O) (k : Nat) : Int := iterW o.lim o.num o.den k (if o.lim < o.first then o.lim else o.first)
def O.wait (o : O) (attempt : Int) : Int := o.w (attempt - 1).toNat

theorem lim_range {o : O} (h : WOk o) : 0 ≤ o.lim ∧ o.lim ≤ 1048576 := by
  unfold O.lim; split
  · exact ⟨by decide, by decide⟩
  · exact ⟨h.m0, h.m1⟩

theorem step_range {lim num den v : Int} (h1 : 1 ≤ den) (h2 : den ≤ num) (h3 : num ≤ 1000) (hv : 0 ≤ v) (hl : v ≤ lim) (hm : lim ≤ 1048576) :
    v ≤ stepW lim num den v ∧ stepW lim num den v ≤ lim ∧ (v * num).tdiv den ≤ 1048576000 ∧ 0 ≤ (v * num).tdiv den ∧ v * num ≤ 1048576000 ∧ 0 ≤ v * num := by
  have a0 : 0 ≤ v * num := Int.mul_nonneg hv (by omega)
  have a1 : v * num ≤ 1048576 * 1000 := Int.mul_le_mul (by omega) h3 (by omega) (by decide)
  have e : (v * num).tdiv den = (v * num) / den := Int.tdiv_eq_ediv_of_nonneg a0
  have b0 : 0 ≤ (v * num) / den := Int.ediv_nonneg a0 (by omega)
  have b1 : (v * num) / den ≤ v * num := Int.ediv_le_self _ a0
  have b2 : v ≤ (v * num) / den := by
    rw [Int.le_ediv_iff_mul_le (by omega)]
    exact Int.mul_le_mul_of_nonneg_left h2 hv
  unfold stepW; rw [e]
  refine ⟨?_, ?_, by omega, b0, by omega, a0⟩ <;> split <;> omega

theorem w_range {o : O} (h : WOk o) (k : Nat) : 0 ≤ o.w k ∧ o.w k ≤ o.lim ∧ o.w k ≤ o.w (k + 1) := by
  have hl := lim_range h
  have hs : ∀ v, 0 ≤ v → v ≤ o.lim → v ≤ stepW o.lim o.num o.den v ∧ stepW o.lim o.num o.den v ≤ o.lim := fun v a b =>
    let q := step_range h.d1 h.dn h.n1 a b hl.2; ⟨q.1, q.2.1⟩
  have base : 0 ≤ o.w k ∧ o.w k ≤ o.lim := by
    induction k with
    | zero => show 0 ≤ (if o.lim < o.first then o.lim else o.first) ∧ (if o.lim < o.first then o.lim else o.first) ≤ o.lim; have := h.f0; split <;> omega
    | succ k ih => have := hs _ ih.1 ih.2; exact ⟨Int.le_trans ih.1 this.1, this.2⟩
  exact ⟨base.1, base.2, (hs _ base.1 base.2).1⟩
theorem w_fix {o : O} (k j : Nat) (e : o.w (k + 1) = o.w k) : o.w (k + j) = o.w k := by
  induction j with
  | zero => rfl
  | succ j ih =>
    show stepW _ _ _ (o.w (k + j)) = _
    rw [ih]; exact e
theorem w_grow {o : O} (h : WOk o) (k : Nat) (g : ∀ j, j < k → o.w (j + 1) ≠ o.w j) : (k : Int) ≤ o.w k := by
  induction k with
  | zero => exact (w_range h 0).1
  | succ k ih =>
    have a := ih fun j hj => g j (by omega)
    have b := (w_range h k).2.2
    have c := g k (by omega)
    omega
theorem wrap_id {x : Int} (h : -9223372036854775808 ≤ x) (h' : x ≤ 9223372036854775807) : IntKind.i64.wrap x = x := by
  have e : IntKind.i64.wrap x = (x + 9223372036854775808) % 18446744073709551616 - 9223372036854775808 := by
    simp [IntKind.wrap, IntKind.bits, IntKind.signed]
    split <;> omega
  rw [e]; omega

theorem t42 (o : O) (H : Heap) : Tr Try.prog 42 #[o.val] H (fun v H' => v = .int .i64 o.lim ∧ Sub H H') := by
  apply v42; unfold F42 O.lim
  refine ⟨fun h => ⟨?_, Sub.refl _⟩, fun h => ⟨?_, Sub.refl _⟩⟩ <;> rw [h] <;> rfl

theorem w_wrap {o : O} (h : WOk o) (k : Nat) : IntKind.i64.wrap ((IntKind.i64.wrap (o.w k * o.num)).tdiv o.den) = (o.w k * o.num).tdiv o.den := by
  have r := w_range h k
  have q := step_range h.d1 h.dn h.n1 r.1 r.2.1 (lim_range h).2
  rw [wrap_id (x := o.w k * o.num) (by omega) (by omega), wrap_id (by omega) (by omega)]

/-- the loop of timing.Wait -/
structure R16 (o : O) (attempt : Int) (H : Heap) (v i : Int) (H1 : Heap) : Prop where
  heap : H1 = H
  one : 1 ≤ i
  top : i ≤ 1 ∨ i ≤ attempt
  val : v = o.w (i - 1).toNat
theorem wait_end {o : O} {attempt : Int} {H : Heap} {v i : Int} {H1 : Heap} (r : R16 o attempt H v i H1) (h : ¬ i < attempt) : v = o.wait attempt := by
  have := r.one; have := r.top
  rw [r.val]; unfold O.wait; congr 1; omega
theorem wait_fix {o : O} {attempt : Int} {H : Heap} {v i : Int} {H1 : Heap} (r : R16 o attempt H v i H1) (h : i < attempt) (e : stepW o.lim o.num o.den v = v) : v = o.wait attempt := by
  have := r.one
  have hv := r.val
  rw [hv] at e
  have := w_fix (o := o) (i - 1).toNat ((attempt - 1).toNat - (i - 1).toNat) e
  have q : (i - 1).toNat + ((attempt - 1).toNat - (i - 1).toNat) = (attempt - 1).toNat := by omega
  rw [q] at this
  unfold O.wait; rw [this]; exact hv
theorem wait_next {o : O} {attempt : Int} {H : Heap} {v i : Int} {H1 : Heap} (ha : attempt ≤ 9223372036854775807) (r : R16 o attempt H v i H1) (h : i < attempt) :
    R16 o attempt H (stepW o.lim o.num o.den v) (IntKind.i64.wrap (i + 1)) H1 ∧ (attempt - IntKind.i64.wrap (i + 1)).toNat < (attempt - i).toNat := by
  have := r.one
  rw [wrap_id (x := i + 1) (by omega) (by omega)]
  refine ⟨⟨r.heap, by omega, by omega, ?_⟩, by omega⟩
  rw [r.val]
  show o.w ((i - 1).toNat + 1) = _
  congr 1; omega
theorem wait_step {o : O} (ho : WOk o) {attempt : Int} {H : Heap} {v i : Int} {H1 : Heap} (r : R16 o attempt H v i H1) : IntKind.i64.wrap ((IntKind.i64.wrap (v * o.num)).tdiv o.den) = (v * o.num).tdiv o.den := by
  rw [r.val]; exact w_wrap ho _

theorem t16 {o : O} (ho : WOk o) {attempt : Int} (ha : attempt ≤ 9223372036854775807) (H : Heap) : Tr Try.prog 16 #[o.val, .int .i64 attempt] H (fun v H' => v = .int .i64 (o.wait attempt) ∧ Sub H H') := by
  have body : ∀ lim, lim = o.lim → ∀ v i H1, R16 o attempt H v i H1 →
      (decide (i < attempt) = true → (decide (o.den < 1) = true → Value.int .i64 v = .int .i64 (o.wait attempt) ∧ Sub H H1) ∧
        (decide (o.den < 1) = false → o.den ≠ 0 ∧
          (((if lim < IntKind.i64.wrap ((IntKind.i64.wrap (v * o.num)).tdiv o.den) then lim else IntKind.i64.wrap ((IntKind.i64.wrap (v * o.num)).tdiv o.den)) == v) = true →
            Value.int .i64 v = .int .i64 (o.wait attempt) ∧ Sub H H1) ∧
          (((if lim < IntKind.i64.wrap ((IntKind.i64.wrap (v * o.num)).tdiv o.den) then lim else IntKind.i64.wrap ((IntKind.i64.wrap (v * o.num)).tdiv o.den)) == v) = false →
            R16 o attempt H (if lim < IntKind.i64.wrap ((IntKind.i64.wrap (v * o.num)).tdiv o.den) then lim else IntKind.i64.wrap ((IntKind.i64.wrap (v * o.num)).tdiv o.den)) (IntKind.i64.wrap (i + 1)) H1 ∧
            (attempt - IntKind.i64.wrap (i + 1)).toNat < (attempt - i).toNat))) ∧
      (decide (i < attempt) = false → Value.int .i64 v = .int .i64 (o.wait attempt) ∧ Sub H H1) := by
    intro lim hl v i H1 r
    subst hl
    rw [wait_step ho r]
    have hd := ho.d1
    refine ⟨fun h => ⟨fun h2 => absurd (of_decide_eq_true h2) (by omega), fun _ => ⟨by omega, fun e => ⟨?_, r.heap ▸ Sub.refl _⟩, fun _ => wait_next ha r (of_decide_eq_true h)⟩⟩,
      fun h => ⟨by rw [wait_end r (of_decide_eq_false h)], r.heap ▸ Sub.refl _⟩⟩
    rw [← wait_fix r (of_decide_eq_true h) (by simpa [stepW] using e)]
  have start : R16 o attempt H (if o.lim < o.first then o.lim else o.first) 1 H := ⟨rfl, by omega, .inl (by omega), rfl⟩
  apply v16; unfold F16
  refine ⟨fun h => ?_, fun h => ?_⟩
  · have hl : o.lim = 1048576 := by unfold O.lim; rw [h]; rfl
    refine ⟨R16 o attempt H, fun _ i _ => (attempt - i).toNat, ?_, body 1048576 hl.symm⟩
    rw [hl] at start; exact start
  · have hl : o.lim = o.most := by unfold O.lim; rw [h]; rfl
    refine ⟨R16 o attempt H, fun _ i _ => (attempt - i).toNat, ?_, body o.most hl.symm⟩
    rw [hl] at start; exact start

/-- the loop of the document's Wait -/
structure R17 (o : O) (attempt : Int) (H : Heap) (v i : Int) (H1 : Heap) : Prop where
  heap : H1 = H
  two : 2 ≤ i
  top : i ≤ 2 ∨ i ≤ attempt + 1
  val : v = o.w (i - 2).toNat
  grow : ∀ j, j < (i - 2).toNat → o.w (j + 1) ≠ o.w j
theorem t17 {o : O} (ho : WOk o) {attempt : Int} (H : Heap) : Tr Try.prog 17 #[o.val, .int .i64 attempt] H (fun v H' => v = .int .i64 (o.wait attempt) ∧ Sub H H') := by
  apply v17; unfold F17
  refine ⟨_, t42 o H, R17 o attempt H, fun _ i _ => (1048580 - i).toNat, ⟨rfl, by omega, .inl (by omega), rfl, fun j hj => absurd hj (by simp)⟩, ?_⟩
  intro v i H1 r
  have h2 := r.two; have hd := ho.d1
  have hst : IntKind.i64.wrap ((IntKind.i64.wrap (v * o.num)).tdiv o.den) = (v * o.num).tdiv o.den := by rw [r.val]; exact w_wrap ho _
  have gr := w_grow ho _ r.grow
  have ran := w_range ho (i - 2).toNat
  have lr := lim_range ho
  refine ⟨fun h => ⟨by omega, _, t42 o H1, ?_, ?_⟩, fun h => ⟨?_, r.heap ▸ Sub.refl _⟩⟩
  · rw [hst]; intro e
    have e : stepW o.lim o.num o.den v = v := by simpa [stepW] using e
    refine ⟨?_, r.heap ▸ Sub.refl _⟩
    have h := of_decide_eq_true h
    have hv := r.val; rw [hv] at e
    have := w_fix (o := o) (i - 2).toNat ((attempt - 1).toNat - (i - 2).toNat) e
    have q : (i - 2).toNat + ((attempt - 1).toNat - (i - 2).toNat) = (attempt - 1).toNat := by omega
    rw [q] at this
    unfold O.wait; rw [this, hv]
  · rw [hst]; intro e
    have e : stepW o.lim o.num o.den v ≠ v := by simpa [stepW] using e
    have h := of_decide_eq_true h
    rw [wrap_id (x := i + 1) (by omega) (by omega)]
    refine ⟨⟨r.heap, by omega, by omega, ?_, ?_⟩, show (1048580 - (i + 1)).toNat < (1048580 - i).toNat by omega⟩
    · show stepW o.lim o.num o.den v = _
      rw [r.val]; show o.w ((i - 2).toNat + 1) = _; congr 1; omega
    · intro j hj
      by_cases hj' : j < (i - 2).toNat
      · exact r.grow j hj'
      · have : j = (i - 2).toNat := by omega
        rw [this]; rw [r.val] at e; exact e
  · have h := of_decide_eq_false h
    have := r.top
    rw [r.val]; unfold O.wait; congr 2; omega

def O.again (o : O) (attempt code from_ now : Int) : Int × Bool :=
  if (o.never != 0 && code == o.never) || (o.tries != 0 && decide (attempt ≥ o.tries)) then (0, false) else
  if o.total != 0 && decide (IntKind.i64.wrap (now + o.wait attempt) ≥ IntKind.i64.wrap (from_ + o.total)) then (0, false) else (IntKind.i64.wrap (now + o.wait attempt), true)
theorem t18 {o : O} (ho : WOk o) {attempt : Int} (ha : attempt ≤ 9223372036854775807) (code from_ now : Int) (H : Heap) :
    Tr Try.prog 18 #[o.val, .int .i64 attempt, .int .i64 code, .int .i64 from_, .int .i64 now] H (fun v H' => v = .tuple #[.int .i64 (o.again attempt code from_ now).1, .bool (o.again attempt code from_ now).2] ∧ Sub H H') := by
  apply v18; unfold F18
  refine ⟨_, t16 ho ha H, ?_⟩
  unfold O.again
  refine ⟨fun h => ⟨by simp only [h]; rfl, Sub.refl _⟩, fun h => ⟨fun h2 => ⟨by simp only [h, h2]; rfl, Sub.refl _⟩, fun h2 => ⟨fun h3 => ⟨by simp only [h, h2, h3]; rfl, Sub.refl _⟩, fun h3 => ⟨by simp only [h, h2, h3]; rfl, Sub.refl _⟩⟩⟩⟩
theorem t20 {o : O} (ho : WOk o) {attempt : Int} (code from_ now : Int) (H : Heap) :
    Tr Try.prog 20 #[o.val, .int .i64 attempt, .int .i64 code, .int .i64 from_, .int .i64 now] H (fun v H' => v = .tuple #[.int .i64 (o.again attempt code from_ now).1, .bool (o.again attempt code from_ now).2] ∧ Sub H H') := by
  apply v20; unfold F20
  unfold O.again
  refine ⟨fun h => ⟨by simp only [h]; rfl, Sub.refl _⟩, fun h => ⟨_, t17 ho H, fun h3 => ⟨by simp only [h, h3]; rfl, Sub.refl _⟩, fun h3 => ⟨by simp only [h, h3]; rfl, Sub.refl _⟩⟩⟩
def fitI (t : Int) : Int := if t.tmod 1099511627776 < 0 then - t.tmod 1099511627776 else t.tmod 1099511627776
theorem tmod_range (t : Int) : -1099511627776 < t.tmod 1099511627776 ∧ t.tmod 1099511627776 < 1099511627776 := by
  rw [Int.tmod_eq_emod]; split <;> omega
theorem fit_range (t : Int) : 0 ≤ fitI t ∧ fitI t < 1099511627776 := by have := tmod_range t; unfold fitI; split <;> omega
theorem t19 (t : Int) (H : Heap) : Tr Try.prog 19 #[.int .i64 t] H (fun v H' => v = .int .i64 (fitI t) ∧ Sub H H') := by
  apply v19; unfold F19 fitI
  refine ⟨by decide, fun h => ⟨?_, Sub.refl _⟩, fun h => ⟨?_, Sub.refl _⟩⟩
  · have h := of_decide_eq_true h
    have := tmod_range t
    rw [wrap_id (by omega) (by omega), if_pos h]; simp
  · rw [if_neg (of_decide_eq_false h)]
end Go.Proofs.Ytanahoejlnmfiaa
