/- The law EventWalks: the iterator of event.Of yields what a walk by hand collects. Conditions: the list and the kinds in memory. -/
import Derived.Test.YtbojjcmhdklhbaaG12
set_option maxRecDepth 100000
namespace Go.Proofs.Ytbojjcmhdklhbaa
open Go.Ax Go.RowKit

structure RW1 (l : List Ev) (ks : List Int) (H : Heap) (x : Int) (A : Option Addr) (n c : Nat) (H1 : Heap) : Prop where
  k : ∃ m : Nat, x = m ∧ m ≤ l.length ∧ OwnS H H1 A n c 1 (ints ((List.range m).filter fun i => hasM ks ((l[i]?).getD Ev.zero).kind))
theorem pre_at {pre ys : List Nat} {i : Nat} (h : List.IsPrefix (pre ++ [i]) ys) : ys[pre.length]? = some i := by
  obtain ⟨t, rfl⟩ := h
  simp
theorem t7 {l : List Ev} (hb : l.length * 72 ≤ 140737488355328) {ks : List Int} (hkb : ks.length ≤ 9223372036854775807) (most : Int) {H : Heap} {A B : Option Addr} {n c n' c' : Nat} (h : HasEvs H A n l) (hI : HasI H B n' ks) :
    Tr Try.prog 7 #[.slice A n c, .slice B n' c', .int .i64 most] H (fun v H' => v = .bool true ∧ Sub H H') := by
  have hn := h.len; subst hn
  apply v7; unfold F7
  refine ⟨_, t13 H, fun q => (by simp at q), fun _ => ⟨fun x A n c H1 => RW1 l ks H x A n c H1, fun x _ _ _ _ => (l.length - x).toNat, ⟨0, rfl, by omega, OwnS.nil _ _⟩, fun x W nw cw H1 r => ?_⟩⟩
  obtain ⟨m, rfl, hm, o⟩ := r.k
  have hnw : nw ≤ m := by
    have h1 := o.len
    have h2 := List.length_filter_le (fun i => hasM ks ((l[i]?).getD Ev.zero).kind) (List.range m)
    simp [ints] at h1 h2; omega
  refine ⟨fun hlt => ?_, fun hge => ?_⟩
  · have hlt := of_decide_eq_true hlt
    have hml : m < l.length := by omega
    obtain ⟨x, hx⟩ := get_some (l := l) (i := m) hml
    obtain ⟨a, ha, hat⟩ := h.at_ m x hx
    rw [wrapi (by omega) (by omega)]
    have hmu : (l.length - ((m : Int) + 1)).toNat < (l.length - (m : Int)).toNat := by omega
    have hkm : hasM ks ((l[m]?).getD Ev.zero).kind = hasM ks x.kind := by rw [hx]; rfl
    refine ⟨a, ⟨ha, by omega, by omega⟩, x.kind, (at_one 2 hat rfl).sub o.sub, _, t31 hkb (hI.sub o.sub) x.kind, fun q => ?_, fun q => ⟨⟨m + 1, by omega, by omega, ?_⟩, hmu⟩⟩
    · refine own_app o (m := 1) rfl rfl (Nat.le_trans (Nat.mul_le_mul_right 8 (show nw + 1 ≤ l.length by omega)) (by omega)) (by omega) fun A' c' H' o2 => ⟨⟨m + 1, by omega, by omega, ?_⟩, hmu⟩
      have : ints ((List.range (m + 1)).filter fun i => hasM ks ((l[i]?).getD Ev.zero).kind) = ints ((List.range m).filter fun i => hasM ks ((l[i]?).getD Ev.zero).kind) ++ [.int .i64 m] := by
        rw [range_f, if_pos (by rw [hkm]; exact q)]; simp [ints]
      rw [this]; exact o2
    · rw [range_f, if_neg (by rw [hkm, q]; simp), List.append_nil]; exact o
  · have hge := of_decide_eq_false hge
    have hml : m = l.length := by omega
    subst hml
    rw [← ofY_eq] at o
    have hWI := own_intsI o
    have hnw2 : nw = (ofY l ks).length := by have := hWI.len; simpa using this
    subst hnw2
    apply v32; unfold F32
    intro x1 hx1 H2 e2 x2 hx2 H3 e3
    have s2 : Sub H1 H2 := by subst e2; exact Sub.upd_new hx1
    have s3 : Sub H2 H3 := by subst e3; exact Sub.upd_new hx2
    have n12 : x1 ≠ x2 := fun e => by subst e; rw [e2, Heap.upd_same] at hx2; cases hx2
    have g1 : H3 x1 = some (.cells #[.slice A l.length c] 38 (0, 0)) := by rw [e3, Heap.upd_other n12, e2]; exact Heap.upd_same
    have g2 : H3 x2 = some (.cells #[.slice B n' c'] 47 (0, 0)) := by rw [e3]; exact Heap.upd_same
    have sH : Sub H H3 := o.sub.trans (s2.trans s3)
    refine ⟨_, rfl, 54, [.pointer (some ⟨x1, 0, none⟩), .pointer (some ⟨x2, 0, none⟩)], ⟨rfl, by kernel_rfl⟩, H3, l.length, evE l, ofY l ks, Sub.refl _,
      it54 g1 g2 (h.sub sH) (hI.sub sH) (by omega) hkb, fun pre x b Hc => x = pre.length ∧ b = true ∧ Sub H3 Hc, ⟨rfl, rfl, Sub.refl _⟩, fun pre i hi hpre x b Hc hr hsub hncs y1 y2 y3 y4 y5 y6 y7 y8 y9 y10 he => ?_, fun x b Hc hr hncs => ?_⟩
    · obtain ⟨rfl, rfl, hs3⟩ := hr
      obtain ⟨x, hx⟩ := get_some (l := l) (i := i) hi
      have hE : evE l i = ((i : Int), x.id, x.time, x.kind, x.a, x.b, x.c, x.d, x.e, x.f, ()) := by unfold evE; rw [hx]; rfl
      rw [hE] at he
      injection he with he1 he; injection he with he2 he; injection he with he3 he; injection he with he4 he; injection he with he5 he; injection he with he6 he; injection he with he7 he; injection he with he8 he; injection he with he9 he; injection he with he10 he
      subst he1 he2 he3 he4 he5 he6 he7 he8 he9 he10
      obtain ⟨y, hy⟩ := get_some (l := ofY l ks) (i := pre.length) hpre
      have hy2 : ((ofY l ks).map fun i : Nat => (i : Int))[pre.length]? = some (y : Int) := by simp [hy]
      obtain ⟨a1, ha1, hat1⟩ := hWI.at_ pre.length _ hy2
      have hat1 := hat1.sub ((s2.trans s3).trans hs3)
      obtain ⟨a2, ha2, hat2⟩ := h.at_ i x hx
      have hat2 := hat2.sub (sH.trans hs3)
      have hlt0 : decide ((pre.length : Int) ≥ ((ofY l ks).length : Int)) = false := decide_eq_false (by omega)
      have hlen : pre.length < 9223372036854775807 := by
        have : (ofY l ks).length ≤ l.length := by
          rw [ofY_eq]
          have := List.length_filter_le (fun i => hasM ks ((l[i]?).getD Ev.zero).kind) (List.range l.length)
          simpa using this
        omega
      rw [wrapi (by omega) (by omega)]
      refine ⟨⟨hncs, hsub⟩, a1, fun _ => ⟨ha1, by omega, by omega⟩, (y : Int), fun _ => hat1, a2, fun _ => ⟨ha2, by omega, by omega⟩, _, _, _, _, _, _, _, _, _, fun _ => hat2, fun q hp => ?_, fun q => ⟨fun q2 hp => ?_, fun q2 => ⟨⟨by simp, rfl, cutN_keep (Sub.refl _) hs3⟩, hsub⟩⟩⟩
      · have := pre_at hp
        rw [hy] at this; cases this
        rw [hlt0] at q
        simp at q
      · refine ⟨?_, cutN_keep sH (sH.trans hs3)⟩
        rw [q2]; simp
    · obtain ⟨rfl, rfl, hs3⟩ := hr
      refine ⟨by simp, sH.trans hs3⟩
theorem openInts {P : Program} {W : World} {t e : TypeId} (ht : P.underlying t = some (.slice e)) (he : P.underlying e = some (.int .i64)) (hc : P.cellsOf e = 1)
    {H : Type} {enc : TypeId × Value → H} {b0 : Nat} {spare : Nat → Bool} {held : Bool} {d : DataW H} {p : List MemPlace} {A : Option Addr} {n c : Nat} (h : DataW.Trod enc P W b0 spare held t (.slice A n c) d p) :
    ∃ l : List Int, HasI (hp W) A n l ∧ l.length ≤ 9223372036854775807 := by
  have f := fit_of_Trod 2 h
  unfold Fit at f
  rw [ht] at f
  obtain ⟨A', n', c', e1, h1, h2, h3, h4⟩ := f
  simp [Value.cells] at e1
  obtain ⟨rfl, rfl, rfl⟩ := e1
  obtain ⟨l, hl, hp'⟩ := list_of (p := fun i x => ∃ a, A = some a ∧ At (hp W) (a.add i) [.int .i64 x]) n fun i hi => by
    cases hA : A with
    | none => have := h3 hA; omega
    | some a =>
      obtain ⟨cs', hl, hat, hf⟩ := h4 a hA i hi
      unfold Fit at hf
      rw [he] at hf
      obtain ⟨x, hx, _⟩ := hf
      rw [hc] at hat
      subst hx
      exact ⟨x, a, rfl, by simpa using hat (by decide)⟩
  refine ⟨l, ⟨hl.symm, fun i x hx => ?_⟩, by unfold maxLen at h2; omega⟩
  rw [Nat.mul_one]; exact hp' i x hx
end Go.Proofs.Ytbojjcmhdklhbaa
