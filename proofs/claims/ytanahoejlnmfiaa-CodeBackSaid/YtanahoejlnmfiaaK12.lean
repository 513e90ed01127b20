/- Code: the readers of options, the program's and the document's. Conditions: the reader lies in a block of its own, its place within the text. -/
import Derived.Test.YtanahoejlnmfiaaK11
set_option maxRecDepth 100000
namespace Go.Ax

theorem upd_comm {H : Heap} {a b : Nat} {x y : Obj} (h : a ≠ b) : (H.upd a x).upd b y = (H.upd b y).upd a x := by
  funext i
  by_cases h1 : i = a
  · subst h1; rw [Heap.upd_other h, Heap.upd_same, Heap.upd_same]
  · by_cases h2 : i = b
    · subst h2; rw [Heap.upd_same, Heap.upd_other h1, Heap.upd_same]
    · rw [Heap.upd_other h2, Heap.upd_other h1, Heap.upd_other h1, Heap.upd_other h2]
def intL (l : List Int) : List Value := l.map (Value.int .i64)
theorem set_mid {out : List Int} {k n : Nat} (h : out.length = k) (hk : k < n) (x : Int) : (out ++ List.replicate (n - k) 0).set k x = (out ++ [x]) ++ List.replicate (n - (k + 1)) 0 := by
  have e : n - k = (n - (k + 1)) + 1 := by omega
  rw [e, List.replicate_succ, List.set_append_right _ _ (by omega), h, Nat.sub_self]
  simp
theorem splice_int {l : List Int} {k : Nat} (h : k < l.length) (x : Int) : splice ⟨intL l⟩ k [.int .i64 x] = ⟨intL (l.set k x)⟩ := by
  rw [splice_one (by unfold intL; rw [List.length_map]; exact h)]
  unfold intL; rw [List.map_set]
end Go.Ax
namespace Go.Proofs.Ytanahoejlnmfiaa
open Go.Ax

theorem t60 {H : Heap} {b : Nat} {s : ByteArray} {r : Rd} (h : RdAt H 90 b s r) :
    Tr Try.prog 60 #[.pointer (some ⟨b, 0, none⟩)] H (fun v H' => v = (rdO s.data.toList r).1.val ∧ Sub (H.upd b (rdCell 90 s (rdO s.data.toList r).2)) H') := by
  have hs := h.size; have sz := size_list s
  have up : ∀ r : Rd, r.pos ≤ s.size → (rdU s.data.toList mostR r).2.pos ≤ s.size := fun r hp => by
    have := (reads_U s.data.toList mostR_lt).pos_le (r := r) (by omega); omega
  apply v60; unfold F60
  intro b2 hb2 H1 e1
  have hne : b2 ≠ b := fun e => by subst e; rw [h.at_] at hb2; cases hb2
  refine ⟨fun x H1 => ∃ (k : Nat) (out : List Int) (σ : Rd), x = k ∧ σ.pos ≤ s.size ∧ RdW (rdU s.data.toList mostR) 10 r k out σ ∧ H1 = (H.upd b2 (.cells ⟨intL (out ++ List.replicate (10 - k) 0)⟩ 103)).upd b (rdCell 90 s σ), fun x _ => (10 - x).toNat,
    ⟨0, [], r, rfl, h.pos, RdW.zero _ _ _, ?_⟩, ?_⟩
  · have e : (H.upd b2 (.cells ⟨intL ([] ++ List.replicate (10 - 0) 0)⟩ 103)) b = some (rdCell 90 s r) := by rw [Heap.upd_other hne.symm]; exact h.at_
    rw [Heap.upd_eq e]; exact e1
  rintro x H2 ⟨k, out, σ, rfl, hσ, W, rfl⟩
  have hlen := W.len
  have hm : RdAt ((H.upd b2 (.cells ⟨intL (out ++ List.replicate (10 - k) 0)⟩ 103)).upd b (rdCell 90 s σ)) 90 b s σ := ⟨Heap.upd_same, hσ, hs⟩
  refine ⟨fun hlt => ?_, fun hge => ?_⟩
  · have hlt : (k : Int) < 10 := of_decide_eq_true hlt
    refine (t58 hm (lim := mostR) (by decide)).mono ?_
    rintro v H3 ⟨rfl, rfl⟩
    rw [upd_twice]
    have hk : ((k : Int).toNat * 1) = k := by omega
    rw [hk, add_block, add_spot, add_off]
    refine ⟨_, rfl, ⟨by omega, hlt⟩, ⟨intL (out ++ List.replicate (10 - k) 0)⟩, 103, by rw [Heap.upd_other hne]; exact Heap.upd_same, rfl, ?_, fun H4 e4 => ?_⟩
    · show k + 1 ≤ (intL (out ++ List.replicate (10 - k) 0)).length
      unfold intL; simp; omega
    · have w1 : IntKind.i64.wrap ((k : Int) + 1) = ((k + 1 : Nat) : Int) := by rw [wrapi (by omega) (by omega)]; omega
      rw [w1]
      refine ⟨⟨k + 1, _, _, rfl, up σ hσ, W.next (by omega), ?_⟩, show (10 - ((k + 1 : Nat) : Int)).toNat < (10 - (k : Int)).toNat by omega⟩
      rw [e4, splice_int (by simp; omega), set_mid hlen (by omega), upd_comm hne.symm, upd_twice]
  · have hge : ¬ (k : Int) < 10 := of_decide_eq_false hge
    have W2 := W.done (by omega)
    have hk : k = 10 := by have := W.le; omega
    subst hk
    have eO : rdO s.data.toList r = (mkO (out, (rdI s.data.toList σ).1), (rdI s.data.toList σ).2) := by
      unfold rdO rdM rdB; rw [W2]
    have e0 : out ++ List.replicate (10 - 10) 0 = out := by simp
    rw [e0] at hm ⊢
    have sb : ∀ r', Sub (Heap.upd (fun _ => none) b2 (.cells ⟨intL out⟩ 103)) ((H.upd b2 (.cells ⟨intL out⟩ 103)).upd b (rdCell 90 s r')) := fun r' => ⟨fun i o ho => by
      by_cases e : i = b2
      · subst e; rw [Heap.upd_same] at ho; rw [Heap.upd_other hne]; rw [Heap.upd_same]; exact ho
      · rw [Heap.upd_other e] at ho; cases ho⟩
    match out, hlen with
    | [a0, a1, a2, a3, a4, a5, a6, a7, a8, a9], _ =>
      refine ⟨_, sb σ, by decide, by decide, by decide, by decide, by decide, by decide, by decide, by decide, by decide, by decide,
        a0, at_new1 rfl, a1, at_new1 rfl, a2, at_new1 rfl, a3, at_new1 rfl, a4, at_new1 rfl, a5, at_new1 rfl, a6, at_new1 rfl, a7, at_new1 rfl, a8, at_new1 rfl, a9, at_new1 rfl, (t69 hm).mono ?_⟩
      rintro v H3 ⟨rfl, rfl⟩
      rw [upd_twice]
      refine ⟨_, rfl, sb _, sb _, by rw [eO]; rfl, ?_⟩
      rw [eO]
      refine ⟨fun i o ho => ?_⟩
      by_cases e : i = b
      · subst e; rw [Heap.upd_same] at ho ⊢; exact ho
      · rw [Heap.upd_other e] at ho ⊢
        rw [Heap.upd_other (fun e2 => by subst e2; rw [hb2] at ho; cases ho)]; exact ho
theorem t63 {H : Heap} {b : Nat} {s : ByteArray} {r : Rd} (h : RdAt H 95 b s r) :
    Tr Try.prog 63 #[.pointer (some ⟨b, 0, none⟩)] H (fun v H' => v = (rdO s.data.toList r).1.val ∧ Sub (H.upd b (rdCell 95 s (rdO s.data.toList r).2)) H') := by
  have hs := h.size; have sz := size_list s
  have up : ∀ r : Rd, r.pos ≤ s.size → (rdU s.data.toList mostR r).2.pos ≤ s.size := fun r hp => by
    have := (reads_U s.data.toList mostR_lt).pos_le (r := r) (by omega); omega
  apply v63; unfold F63
  refine ⟨fun A n c x H1 => ∃ (k : Nat) (out : List Int) (σ : Rd), x = k ∧ n = k ∧ σ.pos ≤ s.size ∧ RdW (rdU s.data.toList mostR) 10 r k out σ ∧ OwnS (H.upd b (rdCell 95 s σ)) H1 A n c 1 (intL out), fun _ _ _ x _ => (10 - x).toNat,
    ⟨0, [], r, rfl, rfl, h.pos, RdW.zero _ _ _, by rw [← h.same]; exact OwnS.nil H 1⟩, ?_⟩
  rintro A n c x H1 ⟨k, out, σ, rfl, rfl, hσ, W, o⟩
  have hlen := W.len
  have hm := (h.upd (r' := σ) hσ).own o
  refine ⟨fun hlt => ?_, fun hge => ?_⟩
  · have hlt : (n : Int) < 10 := of_decide_eq_true hlt
    refine (t61 hm (lim := mostR) (by decide)).mono ?_
    rintro v H3 ⟨rfl, rfl⟩
    have o5 := o.turn (y := rdCell 95 s (rdU s.data.toList mostR σ).2) (h.upd (r' := σ) hσ).at_
    rw [upd_twice] at o5
    refine ⟨_, rfl, own_app o5 rfl rfl (show (n + 1) * 8 ≤ 140737488355328 by omega) (by omega) fun A' c' H7 o7 => ?_⟩
    have w1 : IntKind.i64.wrap ((n : Int) + 1) = ((n + 1 : Nat) : Int) := by rw [wrapi (by omega) (by omega)]; omega
    rw [w1]
    exact ⟨⟨n + 1, _, _, rfl, rfl, up σ hσ, W.next (by omega), by unfold intL at o7 ⊢; rw [List.map_append]; exact o7⟩, show (10 - ((n + 1 : Nat) : Int)).toNat < (10 - (n : Int)).toNat by omega⟩
  · have hge : ¬ (n : Int) < 10 := of_decide_eq_false hge
    have W2 := W.done (by omega)
    have hk : n = 10 := by have := W.le; omega
    subst hk
    have eO : rdO s.data.toList r = (mkO (out, (rdI s.data.toList σ).1), (rdI s.data.toList σ).2) := by
      unfold rdO rdM rdB; rw [W2]
    refine (t71 hm).mono ?_
    rintro v H3 ⟨rfl, rfl⟩
    have o6 := o.turn (y := rdCell 95 s (rdI s.data.toList σ).2) (h.upd hσ).at_
    rw [upd_twice] at o6
    match out, hlen with
    | [a0, a1, a2, a3, a4, a5, a6, a7, a8, a9], _ =>
      rcases o6.src with e | ⟨a, rfl, hat⟩
      · simp [intL] at e
      refine ⟨_, rfl, _, Sub.refl _, a, ⟨rfl, by decide⟩, a, ⟨rfl, by decide⟩, a, ⟨rfl, by decide⟩, a, ⟨rfl, by decide⟩, a, ⟨rfl, by decide⟩, a, ⟨rfl, by decide⟩, a, ⟨rfl, by decide⟩, a, ⟨rfl, by decide⟩, a, ⟨rfl, by decide⟩, a, ⟨rfl, by decide⟩,
        a0, at_one 0 hat rfl, a1, at_one 1 hat rfl, a2, at_one 2 hat rfl, a3, at_one 3 hat rfl, a4, at_one 4 hat rfl, a5, at_one 5 hat rfl, a6, at_one 6 hat rfl, a7, at_one 7 hat rfl, a8, at_one 8 hat rfl, a9, at_one 9 hat rfl, Sub.refl _, by rw [eO]; rfl, ?_⟩
      rw [eO]; exact o6.sub
end Go.Proofs.Ytanahoejlnmfiaa
