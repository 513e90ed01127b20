/- Ax: a range over a function: the law of the statement, the body's walk told of what the assignments left; and how an operation's outcome outside a round is its outcome within one. Conditions: those of each lemma. -/
import Derived.Test.YtanahoejlnmfiaaAxC
import Derived.RangeFuncNested
import Derived.RangeFuncLeaves
import Derived.OrdersIn
import Derived.TacticsIn
import Derived.OrdersHeld
import Derived.Deep.Quiet
import Derived.Sort.LoopGhostIn
import Derived.Shelf.Abstract
namespace Go.Ax
open Go.RowKit

/-- within a round of loop l, or outside (none): nothing is fenced -/
def Fz (r : Option Nat) : Fence := { Fence.wide with round := r }
theorem Fz_fn (r : Option Nat) (f : FuncId) : (Fz r).fn f := trivial
theorem callsIn_fz {r : Option Nat} {n : Nat} {P : Program} {f : FuncId} {args : Array Value} {w : World} {R : Ending → World → Prop} : CallsIn (Fz r) n P f args w R ↔ Calls P f args w R :=
  (show CallsIn (Fz r) n P f args w R ↔ CallsIn Fence.wide n P f args w R from Iff.rfl).trans callsIn_wide
section
variable {P : Program} {r : Option Nat} {n : Nat} {Q : Exit → Act → World → Prop}
theorem semAt_fz {o : Oper} (h : noDefer o = true) (ρ : Operand → Value) : o.semAt (Fz r).round ρ = execOp ρ o :=
  Oper.semAt_eq _ _ _ fun c e => by unfold noDefer at h; rw [e] at h; cases h
theorem fz_depth (h : (Fz r).depth.isSome = true) : 1 ≤ n := by simp [Fz, Fence.wide] at h
theorem rowsIn_fz {row : String} {args : Array Value} {w : World} {R : Value → World → Prop} (h : Rows P row args w R) : RowsIn (Fz r) n P row args w R :=
  fun c cs _ => let ⟨v, w', q, s⟩ := h c cs; ⟨v, w', q, stepsIn_wide.2 s⟩
theorem wpIn_of_wp {o : Oper} {a : Act} {w : World} {K : Act → World → Prop} (hd : noDefer o = true) (h : o.wp P a w K Q) : o.wpIn (Fz r) n P a w K Q := by
  refine ⟨fun _ _ => trivial, ?_⟩
  rw [semAt_fz hd]
  unfold Oper.wp at h
  generalize (execOp a.eval o).run P w = res at *
  cases res with
  | ok x w' =>
    cases x <;> simp only [Oper.upon, Oper.uponIn] at h ⊢ <;> first
      | exact h
      | exact ⟨fz_depth, callsIn_fz.2 h⟩
      | exact ⟨fz_depth, rowsIn_fz h⟩
  | halt x w' => cases x <;> simp only [Oper.upon, Oper.uponIn] at h ⊢ <;> exact h
theorem noDefs_mem : ∀ (l : List Oper), noDefs l = true → ∀ o ∈ l, noDefer o = true
  | [], _, o, h => by cases h
  | x :: l, h, o, ho => by
    simp only [noDefs, Bool.and_eq_true] at h
    rcases List.mem_cons.1 ho with rfl | ho
    · exact h.1
    · exact noDefs_mem l h.2 o ho
theorem listIn {ops : Array Oper} (hL : ¬ LetsOut Q) : ∀ (l : List Oper) (a : Act) (w : World), noDefs l = true → wpList P ops Q l a w → wpListIn (Fz r) n P ops Q l a w
  | [], a, w, _, h => h
  | o :: l, a, w, hd, h => by
    simp only [noDefs, Bool.and_eq_true] at hd
    unfold wpList at h
    unfold wpListIn
    split at h
    · rename_i hw
      rw [if_pos hw]
      rcases h with h | ⟨_, h⟩
      · exact Oper.wpIn_mono (fun a w h => listIn hL l a w hd.2 h) (wpIn_of_wp hd.1 h)
      · exact absurd h hL
    · rename_i hw
      rw [if_neg hw]
      exact ⟨fun _ _ => trivial, listIn hL l _ w hd.2 h⟩
theorem anyIn {md : Region.Mode} {ops : Array Oper} (hL : ¬ LetsOut Q) (hd : noDefs ops.toList = true) : ∀ (fuel : Nat) (listed : Array Bool) (a : Act) (w : World), wpAny P md ops Q fuel listed a w → wpAnyIn (Fz r) n P md ops Q fuel listed a w
  | 0, listed, a, w, h => h
  | fuel + 1, listed, a, w, h => by
    refine ⟨h.1, fun i hi => ?_⟩
    have h := h.2 i hi
    unfold wpOp at h
    unfold wpOpIn
    split
    · rename_i ho
      rw [ho] at h
      exact anyIn hL hd fuel _ a w h
    · rename_i o ho
      rw [ho] at h
      simp only at h
      have hdo := noDefs_mem _ hd o (by
        have := List.mem_of_getElem? (l := ops.toList) (i := i) (a := o) (by simpa using ho)
        exact this)
      split
      · rename_i hw
        rw [if_pos hw] at h
        rcases h with h | ⟨_, h⟩
        · exact Oper.wpIn_mono (fun a w h => anyIn hL hd fuel _ a w h) (wpIn_of_wp hdo h)
        · exact absurd h hL
      · rename_i hw
        rw [if_neg hw] at h
        exact ⟨fun _ _ => trivial, anyIn hL hd fuel _ _ w h⟩
theorem scopeIn {c : Code} {a : Act} {w : World} (h : c.wpIn (Fz r) n P (Exit.noGoto Q) a w) : (Code.scope c).wpIn (Fz r) n P Q a w := by
  intro b k cs hro hb hr
  obtain ⟨e, a1, w1, hq, harr⟩ := h b (.inScope c :: k) cs hro hb hr
  have s1 : StepsIn (Machine.fenced P (Fz r)) P (lone (b.atR a (.code (.scope c) :: k)) cs w) (lone (b.atR a (.code c :: .inScope c :: k)) cs w) :=
    .one (fenced_calm hb hr rfl) (step_lone_go (by simp [stepG, stepG.exec, Frame.atR]))
  have s2 : StepsIn (Machine.fenced P (Fz r)) P (lone (b.atR a1 (.inScope c :: k)) cs w1) (lone (b.atR a1 k) cs w1) :=
    .one (fenced_calm hb hr rfl) (step_lone_go (by simp [stepG, stepG.exec, Frame.atR]))
  cases e with
  | normal => exact ⟨.normal, a1, w1, hq, StepsIn.trans s1 (StepsIn.trans harr s2)⟩
  | exit id => exact ⟨.exit id, a1, w1, hq, ⟨fun k' hk => StepsIn.trans s1 (harr.1 k' (by simp [exitTo, hk])), fun hr' hk => by
      obtain ⟨k1, hk1, hs⟩ := harr.2 hr' (by simp [exitTo, hk])
      exact ⟨k1, hk1, StepsIn.trans s1 hs⟩⟩⟩
  | goto l => exact hq.elim
  | ret => exact ⟨_, a1, w1, hq, .of_steps s1 harr⟩
  | panic ch => exact ⟨_, a1, w1, hq, .of_steps s1 harr⟩
  | outgrown => exact ⟨_, a1, w1, hq, .of_steps s1 harr⟩

/-- A range over a function: the body is walked behind the assignments, whatever they left. -/
theorem rf_law {α : Type} {g : Operand} {ps : Array Tmp} {assign body : Code} {a : Act} {w : World} {gf : Nat} {lb : Array Value} (hg : a.eval g = .func (.func gf) #[] lb) (eg : ∀ (args : Array Value) (w : World), (callFunc gf args).run P w = .ok (.enter gf args) w)
    {encs : α → Array Value} {Kp : World → World → Prop} {S Sp : List α → Prop} {N : Nat} (hseq : SeqStopsK (Fz none) 1 P gf lb encs Kp S Sp N w)
    (hKt : ∀ {A B C : World}, Kp A B → Kp B C → Kp A C) (hKb : ∀ (W : World) (l : Nat) (o : Obj), w.heap.size ≤ l → Kp W (W.putObj l o)) (hps : ∀ x, (encs x).size = ps.size)
    (I : List α → World → Prop) (Ix : Code × List α → World → Prop) (hI : OwnFrom w.heap.size I) (hIx : OwnFrom w.heap.size Ix) (h0 : I [] w)
    (round : ∀ (l : Nat) (pre : List α) (x : α) (W : World), w.heap.size ≤ l → I pre W → pre.length < N →
      assign.wpIn (Fz (some l)) 0 P (Exit.then (fun a1 W1 => KeepsFrom w.heap.size W W1 ∧ Kp W W1 ∧ ∀ rec, W1.heap[l]? = some (.loop rec) → ∀ rec', body.wpIn (Fz (some l)) 0 P (ownPostG w.heap.size Kp I (fun c xs => Ix (c, xs)) (pre ++ [x]) (W1.putObj l (.loop rec'))) a1 (W1.putObj l (.loop rec'))) (fun _ _ _ => False))
        { tmps := (ps.zip (encs x)).foldl (fun t (p, v) => t.setIfInBounds p v) a.tmps, defers := [] } W)
    (hdone : ∀ (xs : List α) (D : Nat) (W : World), w.heap.size ≤ D → S xs → I xs W → W.heap[D]? = some (.deferred (some [])) → Q .normal { a with defers := { target := .collected D, args := #[] } :: a.defers } W)
    (hstop : ∀ (c : Code) (xs : List α) (D : Nat) (W : World), w.heap.size ≤ D → Sp xs → Ix (c, xs) W → W.heap[D]? = some (.deferred (some [])) → c.wpIn (Fz none) 2 P Q { a with defers := { target := .collected D, args := #[] } :: a.defers } W) :
    (Code.rangeFunc g ps assign body).wpIn (Fz none) 2 P Q a w := by
  refine wpIn_rangeFunc fun fn _ => ?_
  let rc : LoopState → Option Code → Loop := fun st pe => { state := st, pending := pe, fn, tmps := a.tmps, params := ps, assign, body, defers := w.heap.size }
  let W1 := (w.alloc (.deferred (some []))).alloc (.loop (rc .ready none))
  have szD : (w.alloc (.deferred (some []))).heap.size = w.heap.size + 1 := World.size_alloc _ _
  have hL1 : W1.heap[w.heap.size + 1]? = some (.loop (rc .ready none)) := by
    have := World.alloc_heap_new (w.alloc (.deferred (some []))) (.loop (rc .ready none))
    rwa [szD] at this
  have hD1 : W1.heap[w.heap.size]? = some (.deferred (some [])) := (Below.heap_alloc _ _ _ (by rw [szD]; omega)).trans (World.alloc_heap_new w _)
  have hI1 : I [] W1 := hI.alloc _ (hI.alloc _ h0)
  have hb1 : Below w.heap.size w W1 := ((Below.refl _ w).alloc (Nat.le_refl _) _).alloc (by rw [szD]; omega) _
  have size1 : w.heap.size ≤ W1.heap.size := hb1.size
  refine ⟨w.heap.size + 1, [{ target := .collected w.heap.size, args := #[] }], W1, { target := .fn (.func gf) lb, args := #[.func (.yield (w.heap.size + 1)) #[] #[]] }, W1, gf,
    #[.func (.yield (w.heap.size + 1)) #[] #[]] ++ lb, W1, run_enterLoop_outer _ _ _ _ _, ?_, fun _ _ => trivial, ?_, fun _ => by decide, ?_⟩
  · simp only [resolve, hg]; simp [go_sem]
  · simp [invoke, go_sem, eg]
  have walk : ∀ {A : World} {row : Option Nat}, (∀ r, row = some r → W1.heap.size ≤ r ∧ ∃ o : Obj, A.heap[r]? = some o ∧ o.isWalk = true) → ∀ r, row = some r → w.heap.size ≤ r ∧ ∃ o : Obj, A.heap[r]? = some o ∧ o.isCells = false :=
    fun hr r e => by obtain ⟨hB, o, ho, hw⟩ := hr r e; exact ⟨Nat.le_trans size1 hB, o, ho, Obj.not_cells_of_walk hw⟩
  refine (hseq (w.heap.size + 1) (fun pre W => I pre W ∧ W.heap[w.heap.size + 1]? = some (.loop (rc .ready none)) ∧ W.heap[w.heap.size]? = some (.deferred (some [])))
    (fun s W => ∃ c, Ix (c, s) W ∧ W.heap[w.heap.size + 1]? = some (.loop (rc .done (some c))) ∧ W.heap[w.heap.size]? = some (.deferred (some []))) W1 hb1
    (fun s A B row hs hgr hr => ⟨hI s A B row hs.1 hgr (walk hr), (grownBy_keeps hgr (fun r e => (hr r e).2) hs.2.1 rfl).trans hs.2.1, (grownBy_keeps hgr (fun r e => (hr r e).2) hs.2.2 rfl).trans hs.2.2⟩)
    (fun s A B row hs hgr hr => by
      obtain ⟨c, hc, hl, hk⟩ := hs
      exact ⟨c, hIx (c, s) A B row hc hgr (walk hr), (grownBy_keeps hgr (fun r e => (hr r e).2) hl rfl).trans hl, (grownBy_keeps hgr (fun r e => (hr r e).2) hk rfl).trans hk⟩)
    ?_ ⟨hI1, hL1, hD1⟩).mono ?_
  · rintro pre x W ⟨hi, hl, hk⟩ hlen
    refine ⟨fn, _, assign, body, run_yield (P := P) hl (hps x), roundIn_of_wpIn trivial (wpIn_mono (round (w.heap.size + 1) pre x W (by omega) hi hlen) ?_)⟩
    intro e a1 Wa hq
    cases e with
    | normal =>
      obtain ⟨k1, kp1, hbody⟩ := hq
      have hl1 := k1.same _ _ (by omega) hl rfl
      have hk1 := k1.same _ _ (Nat.le_refl _) hk rfl
      have hlt : w.heap.size + 1 < Wa.heap.size := (Array.getElem?_eq_some_iff.1 hl1).1
      refine ⟨_, run_beginRound hl1 rfl, wpIn_mono (hbody _ hl1 _) ?_⟩
      have hl2 : (Wa.putObj (w.heap.size + 1) (.loop { rc .ready none with state := .busy })).heap[w.heap.size + 1]? = some (.loop { rc .ready none with state := .busy }) := World.putObj_heap_same hlt
      have hk2 : (Wa.putObj (w.heap.size + 1) (.loop { rc .ready none with state := .busy })).heap[w.heap.size]? = some (.deferred (some [])) := (World.putObj_heap_other (by omega)).trans hk1
      have leave : ∀ (jump : Option Code) (W3 : World), KeepsFrom w.heap.size (Wa.putObj (w.heap.size + 1) (.loop { rc .ready none with state := .busy })) W3 →
          (Instr.endRound (w.heap.size + 1) jump).run P W3 = .ok (.bool jump.isNone) (W3.putObj (w.heap.size + 1) (.loop (rc (if jump.isNone then .ready else .done) jump))) ∧
          W3.heap[w.heap.size + 1]? = some (.loop { rc .ready none with state := .busy }) ∧
          (W3.putObj (w.heap.size + 1) (.loop (rc (if jump.isNone then .ready else .done) jump))).heap[w.heap.size + 1]? = some (.loop (rc (if jump.isNone then .ready else .done) jump)) ∧
          (W3.putObj (w.heap.size + 1) (.loop (rc (if jump.isNone then .ready else .done) jump))).heap[w.heap.size]? = some (.deferred (some [])) := fun jump W3 k3 => by
        have hl3 := k3.same _ _ (by omega) hl2 rfl
        exact ⟨run_endRound (P := P) jump hl3, hl3, World.putObj_heap_same (Array.getElem?_eq_some_iff.1 hl3).1, (World.putObj_heap_other (by omega)).trans (k3.same _ _ (Nat.le_refl _) hk2 rfl)⟩
      intro e a3 W3 hp
      cases e with
      | normal =>
        obtain ⟨k3, kp3, i3⟩ := hp
        obtain ⟨q1, q2, q3, q4⟩ := leave none W3 k3
        exact ⟨_, _, q1, .inl ⟨rfl, ⟨hI.putObj _ i3 (by omega) q2 rfl, q3, q4⟩, hKt kp1 (hKt (hKb _ _ _ (by omega)) (hKt kp3 (hKb _ _ _ (by omega))))⟩⟩
      | ret =>
        obtain ⟨k3, i3⟩ := hp
        obtain ⟨q1, q2, q3, q4⟩ := leave (some .ret) W3 k3
        exact ⟨_, _, q1, .inr ⟨rfl, .ret, hIx.putObj _ i3 (by omega) q2 rfl, q3, q4⟩⟩
      | exit id =>
        obtain ⟨k3, i3⟩ := hp
        obtain ⟨q1, q2, q3, q4⟩ := leave (some (.exit id)) W3 k3
        exact ⟨_, _, q1, .inr ⟨rfl, .exit id, hIx.putObj _ i3 (by omega) q2 rfl, q3, q4⟩⟩
      | goto t =>
        obtain ⟨k3, i3⟩ := hp
        obtain ⟨q1, q2, q3, q4⟩ := leave (some (.goto t)) W3 k3
        exact ⟨_, _, q1, .inr ⟨rfl, .goto t, hIx.putObj _ i3 (by omega) q2 rfl, q3, q4⟩⟩
      | panic ch => exact hp.elim
      | outgrown => exact hp.elim
    | _ => exact hq.elim
  · rintro e W ⟨⟨v, rfl⟩, hh⟩
    rcases hh with ⟨xs, hS, hi, hl, hk⟩ | ⟨pre, hsp, c, hx, hl, hk⟩
    · exact ⟨none, _, run_endLoop hl (by simp [rc]), hdone xs _ _ (Nat.le_refl _) hS (hI.putObj _ hi (by omega) hl rfl) ((World.putObj_heap_other (by omega)).trans hk)⟩
    · exact ⟨some c, _, run_endLoop hl (by simp [rc]), hstop c pre _ _ (Nat.le_refl _) hsp (hIx.putObj _ hx (by omega) hl rfl) ((World.putObj_heap_other (by omega)).trans hk)⟩
end
end Go.Ax
