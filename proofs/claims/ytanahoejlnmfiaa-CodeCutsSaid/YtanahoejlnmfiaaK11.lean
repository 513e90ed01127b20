/- Code: the readers of a function and of options, the program's and the document's. Conditions: the reader lies in a block of its own, its place within the text. -/
import Derived.Test.YtanahoejlnmfiaaK10
set_option maxRecDepth 100000
namespace Go.Ax

/-- Rounds of a reader: so many done, 'out' read, now 'r'. -/
structure RdL {α : Type} (f : Rd → α × Rd) (N : Nat) (r0 : Rd) (k : Nat) (out : List α) (r : Rd) : Prop where
  le : k ≤ N
  len : out.length = k
  last : (rdN f N r0).2 = (rdN f (N - k) r).2
  val : (rdN f N r0).2.err = 0 → (rdN f N r0).1 = out ++ (rdN f (N - k) r).1
theorem rdN_err {α : Type} {f : Rd → α × Rd} {n : Nat} {r : Rd} (h : r.err ≠ 0) : rdN f n r = ([], r) := by
  cases n with
  | zero => rfl
  | succ n => rw [rdN, if_pos h]
theorem RdL.zero {α : Type} (f : Rd → α × Rd) (N : Nat) (r0 : Rd) : RdL f N r0 0 [] r0 := ⟨Nat.zero_le _, rfl, by rw [Nat.sub_zero], fun _ => by rw [Nat.sub_zero, List.nil_append]⟩
theorem RdL.next {α : Type} {f : Rd → α × Rd} {N : Nat} {r0 : Rd} {k : Nat} {out : List α} {r : Rd} (h : RdL f N r0 k out r) (hk : k < N) (stay : r.err ≠ 0 → (f r).2 = r) (x : α) (hx : (f r).2.err = 0 → x = (f r).1) : RdL f N r0 (k + 1) (out ++ [x]) (f r).2 := by
  have e : N - k = (N - (k + 1)) + 1 := by omega
  have h1 := h.last; have h2 := h.val
  by_cases hr : r.err = 0
  · have step : rdN f (N - k) r = ((f r).1 :: (rdN f (N - (k + 1)) (f r).2).1, (rdN f (N - (k + 1)) (f r).2).2) := by rw [e, rdN, if_neg (by rw [hr]; simp)]
    rw [step] at h1 h2
    refine ⟨hk, by simp [h.len], h1, fun q => ?_⟩
    rw [h2 q]
    have : (f r).2.err = 0 := by
      rcases Nat.eq_zero_or_pos (f r).2.err with c | c
      · exact c
      · exfalso
        have hne : (f r).2.err ≠ 0 := by omega
        rw [h1, rdN_err hne] at q
        exact hne q
    rw [hx this, List.append_assoc]; rfl
  · have s := stay hr
    rw [rdN_err hr] at h1 h2
    rw [s]
    refine ⟨hk, by simp [h.len], by rw [rdN_err hr, h1], fun q => ?_⟩
    rw [h1] at q; exact absurd q hr
theorem RdL.done {α : Type} {f : Rd → α × Rd} {N : Nat} {r0 : Rd} {k : Nat} {out : List α} {r : Rd} (h : RdL f N r0 k out r) (hk : ¬ k < N ∨ r.err ≠ 0) : (rdN f N r0).2 = r ∧ (r.err = 0 → (rdN f N r0).1 = out) := by
  rcases hk with hk | hk
  · have e : N - k = 0 := by have := h.le; omega
    have h1 := h.last; have h2 := h.val
    rw [e] at h1 h2
    refine ⟨h1, fun q => ?_⟩
    have h1' : (rdN f N r0).2 = r := h1
    rw [h2 (by rw [h1']; exact q)]
    simp [rdN]
  · have h1 := h.last
    rw [rdN_err hk] at h1
    exact ⟨h1, fun q => absurd q hk⟩
/-- The same of rounds that go on whatever is wrong. -/
structure RdW {α : Type} (f : Rd → α × Rd) (N : Nat) (r0 : Rd) (k : Nat) (out : List α) (r : Rd) : Prop where
  le : k ≤ N
  len : out.length = k
  val : rdV f N r0 = (out ++ (rdV f (N - k) r).1, (rdV f (N - k) r).2)
theorem RdW.zero {α : Type} (f : Rd → α × Rd) (N : Nat) (r0 : Rd) : RdW f N r0 0 [] r0 := ⟨Nat.zero_le _, rfl, by rw [Nat.sub_zero, List.nil_append]⟩
theorem RdW.next {α : Type} {f : Rd → α × Rd} {N : Nat} {r0 : Rd} {k : Nat} {out : List α} {r : Rd} (h : RdW f N r0 k out r) (hk : k < N) : RdW f N r0 (k + 1) (out ++ [(f r).1]) (f r).2 := by
  have e : N - k = (N - (k + 1)) + 1 := by omega
  refine ⟨hk, by simp [h.len], ?_⟩
  rw [h.val, e, rdV, List.append_assoc]; rfl
theorem RdW.done {α : Type} {f : Rd → α × Rd} {N : Nat} {r0 : Rd} {k : Nat} {out : List α} {r : Rd} (h : RdW f N r0 k out r) (hk : ¬ k < N) : rdV f N r0 = (out, r) := by
  have e : N - k = 0 := by have := h.le; omega
  rw [h.val, e]; simp [rdV]
/-- a known block is written, beside what the call owns -/
theorem OwnS.turn {F H1 : Heap} {A : Option Addr} {n c sz : Nat} {cs : List Value} (o : OwnS F H1 A n c sz cs) {b : Nat} {x y : Obj} (hb : F b = some x) : OwnS (F.upd b y) (H1.upd b y) A n c sz cs := by
  refine ⟨⟨fun i z hz => ?_⟩, o.len, o.cap, ?_⟩
  · by_cases e : i = b
    · subst e; rw [Heap.upd_same] at hz ⊢; exact hz
    · rw [Heap.upd_other e] at hz ⊢; exact o.sub.sub i z hz
  · rcases o.at_ with h | ⟨g, cur, T, h1, h2, h3, h4⟩
    · exact .inl h
    · have hg : g ≠ b := fun e => by subst e; rw [hb] at h2; cases h2
      exact .inr ⟨g, cur, T, h1, by rw [Heap.upd_other hg]; exact h2, by rw [Heap.upd_other hg]; exact h3, h4⟩
theorem RdAt.own {F H1 : Heap} {A : Option Addr} {n c sz : Nat} {cs : List Value} {T : TypeId} {b : Nat} {s : ByteArray} {r : Rd} (h : RdAt F T b s r) (o : OwnS F H1 A n c sz cs) : RdAt H1 T b s r := h.sub o.sub
theorem upd_twice {H : Heap} {b : Nat} {x y : Obj} : (H.upd b x).upd b y = H.upd b y := Heap.upd_upd
theorem rdOp_eq (s : List UInt8) (r : Rd) : rdOp s r = (((rdU s mostR r).1, if opd (rdU s mostR r).1 = true then (rdI s (rdU s mostR r).2).1 else 0), if opd (rdU s mostR r).1 = true then (rdI s (rdU s mostR r).2).2 else (rdU s mostR r).2) := by
  unfold rdOp rdB rdA
  cases opd (rdU s mostR r).1 <;> simp
/-- What a reader of a function leaves. -/
structure FnV (T : TypeId) (s : ByteArray) (b : Nat) (r : Rd) (H : Heap) (v : Value) (H' : Heap) : Prop where
  out : ∃ (f : Fnc) (A : Option Addr) (n c : Nat), v = .agg #[.int .i64 f.kind, .int .i64 f.name, .slice A n c] ∧ n = f.ops.length ∧ n ≤ 128 ∧
    OwnS (H.upd b (rdCell T s (rdFn s.data.toList r).2)) H' A n c 2 (f.ops.flatMap opC) ∧ ((rdFn s.data.toList r).2.err = 0 → f = (rdFn s.data.toList r).1)
theorem rdU_range {s : List UInt8} {lim : Nat} (r : Rd) : 0 ≤ (rdU s lim r).1 ∧ (rdU s lim r).1 ≤ lim := by
  unfold rdU
  split
  · simp only; omega
  · split
    · simp only; omega
    · split
      · simp only; omega
      · simp only; omega
end Go.Ax
namespace Go.Proofs.Ytanahoejlnmfiaa
open Go.Ax

theorem t59 {H : Heap} {b : Nat} {s : ByteArray} {r : Rd} (h : RdAt H 90 b s r) : Tr Try.prog 59 #[.pointer (some ⟨b, 0, none⟩)] H (fun v H' => FnV 90 s b r H v H') := by
  have hs := h.size; have sz := size_list s
  have up : ∀ {lim : Nat}, lim < 18446744073709551616 → ∀ r : Rd, r.pos ≤ s.size → (rdU s.data.toList lim r).2.pos ≤ s.size := fun hl r hp => by
    have := (reads_U s.data.toList hl).pos_le (r := r) (by omega); omega
  have ip : ∀ r : Rd, r.pos ≤ s.size → (rdI s.data.toList r).2.pos ≤ s.size := fun r hp => by
    have := (reads_I s.data.toList).pos_le (r := r) (by omega); omega
  apply v59; unfold F59
  refine (t58 h (lim := mostR) (by decide)).mono ?_
  rintro v H1 ⟨rfl, rfl⟩
  have h1 := h.upd (up mostR_lt r h.pos)
  refine ⟨_, rfl, (t58 h1 (lim := mostR) (by decide)).mono ?_⟩
  rintro v H2 ⟨rfl, rfl⟩
  rw [upd_twice]
  have h2 := h.upd (up mostR_lt _ h1.pos)
  refine ⟨_, rfl, (t58 h2 (lim := 128) (by decide)).mono ?_⟩
  rintro v H3 ⟨rfl, rfl⟩
  rw [upd_twice]
  have h3 := h.upd (up (lim := 128) (by decide) _ h2.pos)
  generalize e1 : rdU s.data.toList mostR r = q1 at h1 h2 h3 ⊢
  generalize e2 : rdU s.data.toList mostR q1.2 = q2 at h2 h3 ⊢
  generalize e3 : rdU s.data.toList 128 q2.2 = q3 at h3 ⊢
  have rg := rdU_range (s := s.data.toList) (lim := 128) q2.2
  rw [e3] at rg
  have eF : rdFn s.data.toList r = (⟨q1.1, q2.1, (rdN (rdOp s.data.toList) q3.1.toNat q3.2).1⟩, (rdN (rdOp s.data.toList) q3.1.toNat q3.2).2) := by
    unfold rdFn rdM rdB rdL; simp only; rw [e1, e2, e3]
  refine ⟨_, rfl, fun x A n c H1 => ∃ (k : Nat) (out : List (Int × Int)) (σ : Rd), x = k ∧ n = k ∧ σ.pos ≤ s.size ∧ RdL (rdOp s.data.toList) q3.1.toNat q3.2 k out σ ∧ OwnS (H.upd b (rdCell 90 s σ)) H1 A n c 2 (out.flatMap opC), fun x _ _ _ _ => (q3.1 - x).toNat,
    ⟨0, [], q3.2, rfl, rfl, h3.pos, RdL.zero _ _ _, OwnS.nil _ 2⟩, ?_⟩
  rintro x A n c H4 ⟨k, out, σ, rfl, rfl, hσ, L, o⟩
  have hlen := L.len
  refine ⟨fun hlt => ?_, fun hge => ?_⟩
  · have hlt : (n : Int) < q3.1 := of_decide_eq_true hlt
    have hm := h.upd (r' := σ) hσ
    refine (t58 (hm.own o) (lim := mostR) (by decide)).mono ?_
    rintro v H5 ⟨rfl, rfl⟩
    have hu := up mostR_lt σ hσ
    have o5 := o.turn (y := rdCell 90 s (rdU s.data.toList mostR σ).2) hm.at_
    rw [upd_twice] at o5
    have ho := rdOp_eq s.data.toList σ
    have stay := (reads_Op s.data.toList).stay σ
    have w1 : IntKind.i64.wrap ((n : Int) + 1) = ((n + 1 : Nat) : Int) := by rw [wrapi (by omega) (by omega)]; omega
    have m1 : (q3.1 - ((n + 1 : Nat) : Int)).toNat < (q3.1 - (n : Int)).toNat := by omega
    refine ⟨_, rfl, _, t28 _ _, fun hp => ?_, fun hp => ?_⟩
    · have hm5 := (h.upd (r' := (rdU s.data.toList mostR σ).2) hu).own o5
      refine (t69 hm5).mono ?_
      rintro v H6 ⟨rfl, rfl⟩
      have o6 := o5.turn (y := rdCell 90 s (rdI s.data.toList (rdU s.data.toList mostR σ).2).2) (h.upd hu).at_
      rw [upd_twice] at o6
      refine ⟨_, rfl, own_app o6 rfl rfl (show (n + 1) * 16 ≤ 140737488355328 by omega) (by omega) fun A' c' H7 o7 => ?_⟩
      rw [if_pos hp, if_pos hp] at ho
      have L2 := L.next (by omega) stay (x := ((rdU s.data.toList mostR σ).1, (rdI s.data.toList (rdU s.data.toList mostR σ).2).1)) fun _ => by rw [ho]
      rw [w1]
      refine ⟨⟨n + 1, _, _, rfl, rfl, ?_, L2, ?_⟩, m1⟩
      · rw [ho]; exact ip _ hu
      · rw [ho, List.flatMap_append]; exact o7
    · refine own_app o5 rfl rfl (show (n + 1) * 16 ≤ 140737488355328 by omega) (by omega) fun A' c' H7 o7 => ?_
      rw [if_neg (by rw [hp]; simp), if_neg (by rw [hp]; simp)] at ho
      have L2 := L.next (by omega) stay (x := ((rdU s.data.toList mostR σ).1, 0)) fun _ => by rw [ho]
      rw [w1]
      refine ⟨⟨n + 1, _, _, rfl, rfl, ?_, L2, ?_⟩, m1⟩
      · rw [ho]; exact hu
      · rw [ho, List.flatMap_append]; exact o7
  · have hge : ¬ (n : Int) < q3.1 := of_decide_eq_false hge
    obtain ⟨d1, d2⟩ := L.done (.inl (by omega))
    have hle := L.le
    refine ⟨⟨q1.1, q2.1, out⟩, A, n, c, rfl, hlen.symm, by omega, ?_, fun q => ?_⟩
    · rw [eF]; simp only; rw [d1]; exact o
    · rw [eF] at q ⊢; simp only at q ⊢
      rw [d1] at q; rw [d2 q]

theorem t62 {H : Heap} {b : Nat} {s : ByteArray} {r : Rd} (h : RdAt H 95 b s r) : Tr Try.prog 62 #[.pointer (some ⟨b, 0, none⟩)] H (fun v H' => FnV 95 s b r H v H') := by
  have hs := h.size; have sz := size_list s
  have up : ∀ {lim : Nat}, lim < 18446744073709551616 → ∀ r : Rd, r.pos ≤ s.size → (rdU s.data.toList lim r).2.pos ≤ s.size := fun hl r hp => by
    have := (reads_U s.data.toList hl).pos_le (r := r) (by omega); omega
  have ip : ∀ r : Rd, r.pos ≤ s.size → (rdI s.data.toList r).2.pos ≤ s.size := fun r hp => by
    have := (reads_I s.data.toList).pos_le (r := r) (by omega); omega
  apply v62; unfold F62
  refine (t61 h (lim := mostR) (by decide)).mono ?_
  rintro v H1 ⟨rfl, rfl⟩
  have h1 := h.upd (up mostR_lt r h.pos)
  refine ⟨_, rfl, (t61 h1 (lim := mostR) (by decide)).mono ?_⟩
  rintro v H2 ⟨rfl, rfl⟩
  rw [upd_twice]
  have h2 := h.upd (up mostR_lt _ h1.pos)
  refine ⟨_, rfl, (t61 h2 (lim := 128) (by decide)).mono ?_⟩
  rintro v H3 ⟨rfl, rfl⟩
  rw [upd_twice]
  have h3 := h.upd (up (lim := 128) (by decide) _ h2.pos)
  generalize e1 : rdU s.data.toList mostR r = q1 at h1 h2 h3 ⊢
  generalize e2 : rdU s.data.toList mostR q1.2 = q2 at h2 h3 ⊢
  generalize e3 : rdU s.data.toList 128 q2.2 = q3 at h3 ⊢
  have rg := rdU_range (s := s.data.toList) (lim := 128) q2.2
  rw [e3] at rg
  have eF : rdFn s.data.toList r = (⟨q1.1, q2.1, (rdN (rdOp s.data.toList) q3.1.toNat q3.2).1⟩, (rdN (rdOp s.data.toList) q3.1.toNat q3.2).2) := by
    unfold rdFn rdM rdB rdL; simp only; rw [e1, e2, e3]
  refine ⟨_, rfl, fun x A n c H1 => ∃ (k : Nat) (out : List (Int × Int)) (σ : Rd), x = k ∧ n = k ∧ σ.pos ≤ s.size ∧ RdL (rdOp s.data.toList) q3.1.toNat q3.2 k out σ ∧ OwnS (H.upd b (rdCell 95 s σ)) H1 A n c 2 (out.flatMap opC), fun x _ _ _ _ => (q3.1 - x).toNat,
    ⟨0, [], q3.2, rfl, rfl, h3.pos, RdL.zero _ _ _, OwnS.nil _ 2⟩, ?_⟩
  rintro x A n c H4 ⟨k, out, σ, rfl, rfl, hσ, L, o⟩
  have hlen := L.len
  have hm := h.upd (r' := σ) hσ
  refine ⟨_, fun _ => rfl, _, fun _ => (hm.own o).err, fun hlt => ?_, fun hge => ?_⟩
  · have hlt : (n : Int) < q3.1 ∧ σ.err = 0 := by simpa using hlt
    refine (t61 (hm.own o) (lim := mostR) (by decide)).mono ?_
    rintro v H5 ⟨rfl, rfl⟩
    have hu := up mostR_lt σ hσ
    have o5 := o.turn (y := rdCell 95 s (rdU s.data.toList mostR σ).2) hm.at_
    rw [upd_twice] at o5
    have ho := rdOp_eq s.data.toList σ
    have stay := (reads_Op s.data.toList).stay σ
    have w1 : IntKind.i64.wrap ((n : Int) + 1) = ((n + 1 : Nat) : Int) := by rw [wrapi (by omega) (by omega)]; omega
    have m1 : (q3.1 - ((n + 1 : Nat) : Int)).toNat < (q3.1 - (n : Int)).toNat := by omega
    have hm5 := (h.upd (r' := (rdU s.data.toList mostR σ).2) hu).own o5
    refine ⟨_, rfl, _, t29 _ _, _, fun _ => rfl, _, fun _ => hm5.err, fun hp => ?_, fun hp => ?_⟩
    · have hp : opd (rdU s.data.toList mostR σ).1 = true ∧ (rdU s.data.toList mostR σ).2.err = 0 := by simpa using hp
      refine (t71 hm5).mono ?_
      rintro v H6 ⟨rfl, rfl⟩
      have o6 := o5.turn (y := rdCell 95 s (rdI s.data.toList (rdU s.data.toList mostR σ).2).2) (h.upd hu).at_
      rw [upd_twice] at o6
      refine ⟨_, rfl, own_app o6 rfl rfl (show (n + 1) * 16 ≤ 140737488355328 by omega) (by omega) fun A' c' H7 o7 => ?_⟩
      rw [if_pos hp.1, if_pos hp.1] at ho
      have L2 := L.next (by omega) stay (x := ((rdU s.data.toList mostR σ).1, (rdI s.data.toList (rdU s.data.toList mostR σ).2).1)) fun _ => by rw [ho]
      rw [w1]
      refine ⟨⟨n + 1, _, _, rfl, rfl, ?_, L2, ?_⟩, m1⟩
      · rw [ho]; exact ip _ hu
      · rw [ho, List.flatMap_append]; exact o7
    · refine own_app o5 rfl rfl (show (n + 1) * 16 ≤ 140737488355328 by omega) (by omega) fun A' c' H7 o7 => ?_
      have ho2 : rdOp s.data.toList σ = (((rdU s.data.toList mostR σ).1, 0), (rdU s.data.toList mostR σ).2) := by
        rw [ho]
        cases hc : opd (rdU s.data.toList mostR σ).1 with
        | false => simp
        | true =>
          rw [hc] at hp
          have : (rdU s.data.toList mostR σ).2.err ≠ 0 := by simpa using hp
          rw [rdI_err this]; simp
      have L2 := L.next (by omega) stay (x := ((rdU s.data.toList mostR σ).1, 0)) fun _ => by rw [ho2]
      rw [w1]
      refine ⟨⟨n + 1, _, _, rfl, rfl, ?_, L2, ?_⟩, m1⟩
      · rw [ho2]; exact hu
      · rw [ho2, List.flatMap_append]; exact o7
  · have hge : ¬ (n : Int) < q3.1 ∨ σ.err ≠ 0 := by
      by_cases c : (n : Int) < q3.1
      · right
        rw [decide_eq_true c] at hge
        simpa using hge
      · exact .inl c
    obtain ⟨d1, d2⟩ := L.done (hge.imp (fun q => by omega) id)
    have hle := L.le
    refine ⟨⟨q1.1, q2.1, out⟩, A, n, c, rfl, hlen.symm, by omega, ?_, fun q => ?_⟩
    · rw [eF]; simp only; rw [d1]; exact o
    · rw [eF] at q ⊢; simp only at q ⊢
      rw [d1] at q; rw [d2 q]
end Go.Proofs.Ytanahoejlnmfiaa
