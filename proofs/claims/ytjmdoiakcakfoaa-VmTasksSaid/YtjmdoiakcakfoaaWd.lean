/- Lemmas that the claim needs, in order. Conditions: those of each lemma. -/
import Derived.Test.YtjmdoiakcakfoaaWc
set_option maxRecDepth 100000
namespace Go.Proofs.Ytjmdoiakcakfoaa
open Go.Ax
section
variable {p : Prg} {G0 H0 G H : Heap} {m rb tb : Nat} {q : SlH} {pf po : SlH} {sl : Nat → SlH} {F : Heap} {ex : Value} {st : List SlH} {r : Rn}
theorem RX.app (h : RX p G0 H0 G H m rb tb q pf po sl F ex st r) {e : TypeId} {bytes : Nat} {l : List Int} (hb : (q.n + l.length) * bytes ≤ 140737488355328) (hl : q.n + l.length ≤ 9223372036854775807)
    {K : Option Addr → Nat → Nat → Heap → Prop} (k : ∀ A' c' G' F' H', RX p G0 H0 G' H' m rb tb q pf po sl F' ex st r → SlOk G' ⟨A', q.n + l.length, c'⟩ 1 (intsC (r.t.stack ++ l)) → (∀ b, (⟨A', q.n + l.length, c'⟩ : SlH).blk = some b → H0 b = none ∧ b ≠ rb ∧ b ≠ tb) → K A' (q.n + l.length) c' H') :
    appC e 1 bytes H q.A q.n q.c (intsC l) l.length K := by
  have ok := h.sq
  have okH := ok.sub h.gh
  have hi : (intsC l).length = l.length := by unfold intsC; rw [List.length_map]
  have hs : (intsC r.t.stack).length = q.n := by rw [ok.len, Nat.mul_one]
  refine ⟨⟨intsC r.t.stack, okH.src, ok.len, by rw [hi, Nat.mul_one], intsC_one l, hb, hl, fun hcap => ?_, fun hcap b cap rest hbn hle hr => ?_⟩⟩
  · rcases ok.at_ with ⟨a1, a2, a3⟩ | ⟨b, off, cur, T, a1, a2, a3, a4⟩
    · left
      have k0 : l = [] := List.length_eq_zero_iff.1 (by omega)
      subst k0
      refine ⟨rfl, k _ _ _ _ _ h ⟨by rw [List.append_nil]; exact ok.len, hcap, .inl ⟨a1, by show q.n + 0 = 0; omega, a3⟩⟩ fun b hb => ?_⟩
      unfold SlH.blk at hb; simp only at hb; rw [a1] at hb; cases hb
    · right
      have hsz : (off + q.n * 1) + (intsC l).length ≤ cur.size := by rw [hi]; omega
      have hblk : q.blk = some b := by unfold SlH.blk; rw [a1]; rfl
      obtain ⟨o1, o2, o3⟩ := h.oq b hblk
      have old : ∀ j v, (intsC r.t.stack)[j]? = some v → (splice cur (off + q.n * 1) (intsC l))[off + j]? = some v := fun j v hv => by
        rw [splice_get hsz, if_pos (by have := get_lt hv; omega)]; exact a4 j v hv
      have h' : RX p G0 H0 (G.upd b (.cells (splice cur (off + q.n * 1) (intsC l)) T (0, 0))) (H.upd b (.cells (splice cur (off + q.n * 1) (intsC l)) T (0, 0))) m rb tb q pf po sl (F.upd b (.cells (splice cur (off + q.n * 1) (intsC l)) T (0, 0))) ex st r :=
        ⟨h.vm.turn a2 _, h.pr.sub (dif_turn a2 _), base_upd h.base (none_below h.g0h o1) _, base_upd h.keep o1 _, h.g0h, by rw [Heap.upd_other o2.symm]; exact h.gr, by rw [Heap.upd_other o3.symm]; exact h.gt, h.r0, h.t0, h.ne,
          ⟨ok.len, ok.cap, .inr ⟨b, off, _, T, a1, Heap.upd_same, by rw [splice_size hsz]; exact a3, old⟩⟩, h.oq⟩
      refine ⟨⟨b, off, none⟩, cur, T, a1, rfl, h.gh.sub _ _ a2, hsz, k _ _ _ _ _ h' ⟨by rw [intsC_app, List.length_append, hs, hi]; show _ = (q.n + l.length) * 1; omega, hcap, .inr ⟨b, off, _, T, a1, Heap.upd_same, by rw [splice_size hsz]; exact a3, fun j v hv => ?_⟩⟩ fun b' hb' => ?_⟩
      · rw [intsC_app] at hv
        by_cases hj : j < q.n
        · rw [List.getElem?_append_left (by omega)] at hv
          exact old j v hv
        · have hlt := get_lt hv
          rw [List.length_append] at hlt
          rw [List.getElem?_append_right (by omega), hs] at hv
          rw [splice_get hsz, if_neg (by omega), if_pos (by omega)]
          rw [← hv]; congr 1; omega
      · unfold SlH.blk at hb'; simp only at hb'; rw [a1] at hb'; cases hb'
        exact ⟨o1, o2, o3⟩
  · have hG := none_below h.gh hbn
    have hF := none_below h.vm.fh hbn
    have hne : b ≠ rb := fun e => by subst e; rw [h.hr] at hbn; cases hbn
    have hnt : b ≠ tb := fun e => by subst e; rw [h.ht] at hbn; cases hbn
    have hG0 := none_below h.base hG
    have hH0 := none_below h.keep hbn
    have h' : RX p G0 H0 (G.upd b (.cells ⟨intsC r.t.stack ++ intsC l ++ rest⟩ e (0, 0))) (H.upd b (.cells ⟨intsC r.t.stack ++ intsC l ++ rest⟩ e (0, 0))) m rb tb q pf po sl (F.upd b (.cells ⟨intsC r.t.stack ++ intsC l ++ rest⟩ e (0, 0))) ex st r :=
      ⟨h.vm.ext hbn _, h.pr.sub (dif_ext hF _), base_upd h.base hG0 _, h.keep.trans (Sub.upd_new hbn), h.g0h, by rw [Heap.upd_other hne.symm]; exact h.gr, by rw [Heap.upd_other hnt.symm]; exact h.gt, h.r0, h.t0, h.ne, h.sq.sub (Sub.upd_new hG), h.oq⟩
    refine k _ _ _ _ _ h' ⟨by rw [intsC_app, List.length_append, hs, hi]; show _ = (q.n + l.length) * 1; omega, hle, .inr ⟨b, 0, _, e, rfl, Heap.upd_same, ?_, fun j v hv => ?_⟩⟩ fun b' hb' => ?_
    · simp only [List.size_toArray, List.length_append, hs, hi, hr]
      omega
    · have hj := get_lt hv
      rw [intsC_app] at hv hj
      simp only [List.getElem?_toArray, Nat.zero_add]
      rw [List.getElem?_append_left hj]; exact hv
    · unfold SlH.blk at hb'; simp only at hb'; cases hb'
      exact ⟨hH0, hne, hnt⟩
theorem t72 (h : RX p G0 H0 G H m rb tb q pf po sl F ex st r) {A : Option Addr} {c : Nat} {l : List Int} (ha : Src H A (intsC l)) (hb : r.t.stack.length + l.length ≤ 100000) :
    Tr Try.prog 72 #[.pointer (some ⟨rb, 0, none⟩), .slice A l.length c] H fun v H' => v = .tuple #[] ∧ ∃ G' F' q', RX p G0 H0 G' H' m rb tb q' pf po sl F' ex st (r.leave l) := by
  have hl := h.len
  apply v72; unfold F72
  have hsub : ∀ {G1 H1 q1 F1 t1}, RX p G0 H0 G1 H1 m rb tb q1 pf po sl F1 ex st { r with t := t1 } → Sub (onlyB rb (.cells ⟨runC m tb r.fault⟩ 131 (0, 0))) H1 := fun k => onlyB_sub k.hr
  have hs0 := onlyB_sub h.hr
  refine ⟨_, hs0, _, rfl, _, rfl, _, at_cells onlyB_at rfl, _, h.r1, hs0, _, rfl, _, _, _, h.t3, hs0, ⟨⟨intsC l, ha, by unfold intsC; simp, h.app (show (q.n + l.length) * 8 ≤ 140737488355328 by omega) (by omega) fun A' c' G1 F1 H1 h1 sq oq => ⟨onlyB_sub h1.hr, _, rfl, ?_⟩⟩⟩⟩
  refine h1.setT (i := 3) (by decide) { r.t with stack := r.t.stack ++ l } ⟨A', q.n + l.length, c'⟩ rfl sq oq fun G2 F2 H2 h2 => ⟨hsub h2, _, rfl, _, h2.r1, _, rfl, _, _, _, h2.t3, fun e => ⟨_, rfl, ?_⟩, fun e => ⟨rfl, G2, F2, ⟨A', q.n + l.length, c'⟩, ?_⟩⟩
  · have e' : decide ((r.t.stack.length + l.length : Int) > 32) = true := by rw [← e]; congr 1; simp [hl]
    refine h2.setF (b := true) fun G3 F3 H3 h3 => ⟨rfl, G3, F3, ⟨A', q.n + l.length, c'⟩, ?_⟩
    unfold Rn.leave
    rw [e']; exact h3
  · have e' : decide ((r.t.stack.length + l.length : Int) > 32) = false := by rw [← e]; congr 1; simp [hl]
    unfold Rn.leave
    rw [e']; exact h2
end
theorem t73 (b : Bool) (H : Heap) : Tr Try.prog 73 #[.bool b] H fun v H' => v = .int .i64 (truthM b) ∧ Sub H H' := by
  apply v73; unfold F73 truthM
  exact ⟨fun e => ⟨by rw [if_pos e], Sub.refl _⟩, fun e => ⟨by rw [if_neg (by rw [e]; simp)], Sub.refl _⟩⟩
end Go.Proofs.Ytjmdoiakcakfoaa
set_option maxRecDepth 100000
namespace Go.Proofs.Ytjmdoiakcakfoaa
open Go.Ax
theorem t74 (op a b : Int) (H : Heap) : Tr Try.prog 74 #[.int .i64 op, .int .i64 a, .int .i64 b] H fun v H' => v = .int .i64 (twoM op a b) ∧ Sub H H' := by
  apply v74; unfold F74 twoM
  have nf : ∀ {k : Int}, (op == k) = false → ¬ op = k := fun e e2 => by subst e2; simp at e
  have yf : ∀ {k : Int}, (op == k) = true → op = k := fun e => by simpa using e
  refine ⟨fun e => ?_, fun e1 => ⟨fun e => ?_, fun e2 => ⟨fun e => ?_, fun e3 => ⟨fun e => ?_, fun e4 => ⟨fun e => ?_, fun e5 => ⟨fun e => ?_, fun e6 => ⟨fun e => ?_, fun e7 => ?_⟩⟩⟩⟩⟩⟩⟩
  · rw [if_pos (yf e)]; exact ⟨rfl, Sub.refl _⟩
  · rw [if_neg (nf e1), if_pos (yf e)]; exact ⟨rfl, Sub.refl _⟩
  · rw [if_neg (nf e1), if_neg (nf e2), if_pos (yf e)]; exact ⟨rfl, Sub.refl _⟩
  · rw [if_neg (nf e1), if_neg (nf e2), if_neg (nf e3), if_pos (yf e)]; exact ⟨_, t73 _ _, rfl, Sub.refl _⟩
  · rw [if_neg (nf e1), if_neg (nf e2), if_neg (nf e3), if_neg (nf e4), if_pos (yf e)]; exact ⟨_, t73 _ _, rfl, Sub.refl _⟩
  · rw [if_neg (nf e1), if_neg (nf e2), if_neg (nf e3), if_neg (nf e4), if_neg (nf e5), if_pos (show b = 0 by simpa using e)]; exact ⟨rfl, Sub.refl _⟩
  · have hb : b ≠ 0 := by simpa using e6
    rw [if_neg (nf e1), if_neg (nf e2), if_neg (nf e3), if_neg (nf e4), if_neg (nf e5), if_neg hb, if_pos (yf e)]; exact ⟨hb, rfl, Sub.refl _⟩
  · have hb : b ≠ 0 := by simpa using e6
    rw [if_neg (nf e1), if_neg (nf e2), if_neg (nf e3), if_neg (nf e4), if_neg (nf e5), if_neg hb, if_neg (nf e7)]; exact ⟨hb, rfl, Sub.refl _⟩
section
variable {p : Prg} {G0 H0 G H : Heap} {m rb tb : Nat} {q : SlH} {pf po : SlH} {sl : Nat → SlH} {F : Heap} {ex : Value} {st : List SlH} {r : Rn}
theorem RX.grow (h : RX p G0 H0 G H m rb tb q pf po sl F ex st r) {H' : Heap} (k : Sub H H') : RX p G0 H0 G H' m rb tb q pf po sl F ex st r :=
  ⟨h.vm.grow k, h.pr, h.base, h.keep.trans k, h.g0h, h.gr, h.gt, h.r0, h.t0, h.ne, h.sq, h.oq⟩
theorem src_new {b : Nat} {H : Heap} {l : List Int} {T : TypeId} : Src (H.upd b (.cells ⟨intsC l⟩ T (0, 0))) (some ⟨b, 0, none⟩) (intsC l) :=
  .inr ⟨_, rfl, ⟨⟨_, T, (0, 0), Heap.upd_same, rfl, fun j v hv => by simpa using hv⟩⟩⟩
theorem RX.leaves (h : RX p G0 H0 G H m rb tb q pf po sl F ex st r) (l : List Int) {c : Nat} (hb : r.t.stack.length + l.length ≤ 100000) {b : Nat} (hn : H b = none) {T : TypeId} {H1 : Heap} (e : H1 = H.upd b (.cells ⟨intsC l⟩ T (0, 0))) {Q : Heap → Prop}
    (k : ∀ G' F' q' H', RX p G0 H0 G' H' m rb tb q' pf po sl F' ex st (r.leave l) → Q H') : Tr Try.prog 72 #[.pointer (some ⟨rb, 0, none⟩), .slice (some ⟨b, 0, none⟩) l.length c] H1 fun v H' => v = .tuple #[] ∧ Q H' := by
  subst e
  exact (t72 (h.grow (Sub.upd_new hn)) src_new hb).mono fun v H' ⟨e, G', F', q', h'⟩ => ⟨e, k G' F' q' H' h'⟩
theorem RX.takes (h : RX p G0 H0 G H m rb tb q pf po sl F ex st r) (hb : r.t.stack.length ≤ 100000) {K : Value → Heap → Prop}
    (k : ∀ G' F' q' H', RX p G0 H0 G' H' m rb tb q' pf po sl F' ex st r.take.2 → K (.int .i64 r.take.1) H') : Tr Try.prog 52 #[.pointer (some ⟨rb, 0, none⟩)] H K := by
  exact (t52 h hb).mono fun v H' ⟨e, G', F', q', h'⟩ => by rw [e]; exact k G' F' q' H' h'
theorem take_len (r : Rn) : r.take.2.t.stack.length ≤ r.t.stack.length := by
  unfold Rn.take
  cases hh : r.t.stack.getLast? with
  | none => exact Nat.le_refl _
  | some v => show r.t.stack.dropLast.length ≤ _; rw [List.length_dropLast]; omega
theorem take_s (r : Rn) : r.take.2.s = r.s := by unfold Rn.take; cases r.t.stack.getLast? <;> rfl
theorem RX.pos (h : RX p G0 H0 G H m rb tb q pf po sl F ex st r) {i : Nat} {x : Int} (hx : r.t.stack[i]? = some x) : ∃ a, q.A = some a ∧ At H (a.add (i * 1)) [.int .i64 x] := by
  rcases h.sq.src with e0 | ⟨a, ha, hat⟩
  · have := congrArg List.length e0
    have hl := get_lt hx
    unfold intsC at this; simp at this; rw [this] at hl; simp at hl
  · refine ⟨a, ha, ?_⟩
    rw [Nat.mul_one]
    exact at_one _ (hat.sub h.gh) (by unfold intsC; rw [List.getElem?_map, hx]; rfl)
theorem t89 (h : RX p G0 H0 G H m rb tb q pf po sl F ex st r) (hb : r.t.stack.length ≤ 100000) :
    Tr Try.prog 89 #[.pointer (some ⟨rb, 0, none⟩)] H fun v H' => v = .int .i64 r.scope.1 ∧ ∃ G' F' q', RX p G0 H0 G' H' m rb tb q' pf po sl F' ex st r.scope.2 := by
  apply v89; unfold F89
  refine h.takes hb fun G1 F1 q1 H1 h1 => ⟨_, rfl, _, fun _ => rfl, _, fun _ => h1.r0_, _, fun _ => rfl, _, _, _, fun _ => h1.vm.c25, ?_⟩
  rw [h1.vm.scpLen]
  unfold Rn.scope
  refine ⟨fun e => ⟨_, rfl, ?_⟩, fun e => ⟨rfl, G1, F1, q1, ?_⟩⟩
  · refine h1.setF (b := true) fun G2 F2 H2 h2 => ⟨rfl, G2, F2, q1, ?_⟩
    simp only
    rw [if_pos e]; exact h2
  · simp only
    rw [if_neg (by rw [e]; simp)]; exact h1
theorem asked_at (r : Rn) (d : Nat) (hd : d < r.t.stack.length) : (r.t.stack.reverse)[d]? = r.t.stack[r.t.stack.length - 1 - d]? := by
  rw [List.getElem?_reverse hd]
theorem t88 (h : RX p G0 H0 G H m rb tb q pf po sl F ex st r) (hb : r.t.stack.length ≤ 100000) (d : Nat) (hd : d ≤ 10) :
    Tr Try.prog 88 #[.pointer (some ⟨rb, 0, none⟩), .int .i64 d] H fun v H' => v = .int .i64 (r.asked d).1 ∧ ∃ G' F' q', RX p G0 H0 G' H' m rb tb q' pf po sl F' ex st (r.asked d).2 := by
  have hl := h.len
  apply v88; unfold F88
  refine ⟨_, rfl, _, h.r1, _, rfl, _, _, _, h.t3, ?_⟩
  have w1 : IntKind.i64.wrap ((q.n : Int) - 1) = (q.n : Int) - 1 := wrapi (by omega) (by omega)
  have w2 : IntKind.i64.wrap ((q.n : Int) - 1 - (d : Int)) = (q.n : Int) - 1 - (d : Int) := wrapi (by omega) (by omega)
  rw [w1, w2]
  by_cases hlow : (q.n : Int) - 1 - (d : Int) < 0
  · have e0 : decide ((q.n : Int) - 1 - (d : Int) < 0) = true := decide_eq_true hlow
    have hnone : (r.t.stack.reverse)[d]? = none := by rw [List.getElem?_eq_none_iff, List.length_reverse]; omega
    have ha : r.asked d = (-1, { r with fault := true }) := by unfold Rn.asked; rw [hnone]
    rw [e0, ha]
    refine ⟨⟨0, 0, none⟩, fun e => absurd e (by simp), none, fun e => absurd e (by simp), ⟨0, 0, none⟩, fun e => absurd e (by simp), none, 0, 0, fun e => absurd e (by simp), ⟨0, 0, none⟩, fun e => absurd e (by simp), 0, fun e => absurd e (by simp),
      ⟨0, 0, none⟩, fun e => absurd e (by simp), none, fun e => absurd e (by simp), ⟨0, 0, none⟩, fun e => absurd e (by simp), none, 0, 0, fun e => absurd e (by simp), ⟨0, 0, none⟩, fun e => absurd e (by simp), 0, fun e => absurd e (by simp),
      ⟨0, 0, none⟩, fun e => absurd e (by simp), none, fun e => absurd e (by simp), ⟨0, 0, none⟩, fun e => absurd e (by simp), none, 0, 0, fun e => absurd e (by simp), fun _ => ⟨_, rfl, ?_⟩, fun e => absurd e (by simp)⟩
    exact h.setF (b := true) fun G2 F2 H2 h2 => ⟨rfl, G2, F2, q, h2⟩
  · have e0 : decide ((q.n : Int) - 1 - (d : Int) < 0) = false := decide_eq_false hlow
    obtain ⟨x, hx⟩ := get_some (l := r.t.stack) (i := r.t.stack.length - 1 - d) (by omega)
    obtain ⟨a, ha, hat⟩ := h.pos hx
    have ht : ((q.n : Int) - 1 - (d : Int)).toNat = r.t.stack.length - 1 - d := by omega
    have hask : r.asked d = if (decide (x < 0) || decide (x ≥ (r.s.futures.length : Int))) = true then (-1, { r with fault := true }) else (x, r) := by
      unfold Rn.asked; rw [asked_at r d (by omega), hx]
    rw [e0, ht]
    have bd : (0 : Int) ≤ (q.n : Int) - 1 - (d : Int) ∧ (q.n : Int) - 1 - (d : Int) < (q.n : Int) := ⟨by omega, by omega⟩
    refine ⟨_, fun _ => rfl, _, fun _ => h.r1, _, fun _ => rfl, _, _, _, fun _ => h.t3, a, fun _ => ⟨ha, bd⟩, x, fun _ => hat,
      _, fun _ => rfl, _, fun _ => h.r1, _, fun _ => rfl, _, _, _, fun _ => h.t3, a, fun _ => ⟨ha, bd⟩, x, fun _ => hat,
      _, fun _ => rfl, _, fun _ => h.r0_, _, fun _ => rfl, _, _, _, fun _ => h.vm.c24, ?_⟩
    rw [h.vm.futLen, hask]
    refine ⟨fun e => ⟨_, rfl, ?_⟩, fun e => ⟨_, rfl, _, h.r1, _, rfl, _, _, _, h.t3, a, ⟨ha, bd⟩, x, hat, ?_⟩⟩
    · rw [Bool.false_or] at e
      rw [if_pos e]
      exact h.setF (b := true) fun G2 F2 H2 h2 => ⟨rfl, G2, F2, q, h2⟩
    · rw [Bool.false_or] at e
      rw [if_neg (by rw [e]; simp)]
      exact ⟨rfl, G, F, q, h⟩
end
end Go.Proofs.Ytjmdoiakcakfoaa
set_option maxRecDepth 100000
set_option linter.unusedVariables false
namespace Go.Proofs.Ytjmdoiakcakfoaa
open Go.Ax
noncomputable def c33 : Cx := { P := Try.prog, res := [], pub := [18, 20], loops := [⟨2, [(3, .int .i64)], [8, 9, 10, 12, 13, 21, 22, 23, 24, 25, 26, 27, 28, 29, 30, 31, 32, 33, 34, 35, 36, 37, 38, 39, 40, 41, 42, 43, 44, 45, 46, 47, 48, 49, 50, 51, 52, 53, 54, 55, 56, 57, 58, 59, 60, 61, 62, 63, 64, 65, 66, 67, 68, 69, 70, 71, 72, 73, 74], []⟩], quiet := [], draws := [⟨5, [4, 8, 12, 15, 17], [0], true, true⟩], asm := true }
def F33 (m : Option Addr) (fn : Int) (arg : Int) (fuel : Int) (H : Heap) (K : Value → Heap → Prop) : Prop :=
 ∀ (b : Nat),
 H b = none →
 ∀ (H1 : Heap),
 H1 = H.upd b (Obj.cells #[Value.int IntKind.i64 fn, Value.int IntKind.i64 (0 : Int), Value.int IntKind.i64 (0 : Int), Value.slice none (0 : Nat) (0 : Nat), Value.int IntKind.i64 arg, Value.int IntKind.i64 (0 : Int), Value.int IntKind.i64 (0 : Int), Value.int IntKind.i64 (0 : Int), Value.int IntKind.i64 (0 : Int)] (60 : Nat)) →
 ∀ (b1 : Nat),
 H1 b1 = none →
 ∀ (H11 : Heap),
 H11 = H1.upd b1 (Obj.cells #[Value.pointer m, Value.pointer (some ({ block := b, off := (0 : Nat) } : Addr)), Value.bool false] (131 : Nat)) →
 ∃ (Rel : Int → Heap → Prop),
 ∃ (mu : Int → Heap → Nat),
 Rel fuel H11 ∧
 ∀ (x : Int) (H1 : Heap),
 Rel x H1 →
 ((x == (0 : Int)) = true → K (Value.tuple #[Value.int IntKind.i64 (0 : Int), Value.int IntKind.i64 (3 : Int), Value.int IntKind.i64 (0 : Int)]) H1) ∧
 ((x == (0 : Int)) = false →
 ∃ (Hs : Heap),
 Ax.Sub Hs H1 ∧
 ∃ (a : Addr),
 m = some a ∧
 ∃ (a1 : Addr),
 some ({ block := b1, off := (0 : Nat) } : Addr) = some a1 ∧
 ∃ (A : Option Addr),
 ∃ (n : Nat),
 ∃ (c : Nat),
 At Hs ((a.add (nat_lit 0)).add (nat_lit 0)) [Value.slice A n c] ∧
 ∃ (a2 : Addr),
 (A = some a2 ∧ (0 : Int) ≤ fn ∧ fn < (↑n : Int)) ∧
 ∃ (A1 : Option Addr),
 ∃ (n1 : Nat),
 ∃ (c1 : Nat),
 At Hs ((a2.add (fn.toNat * nat_lit 3)).add (nat_lit 2)) [Value.slice A1 n1 c1] ∧
 ∃ (v : Option Addr),
 At Hs (a1.add (nat_lit 1)) [Value.pointer v] ∧
 ∃ (a3 : Addr),
 v = some a3 ∧
 ∃ (x1 : Int),
 At Hs (a3.add (nat_lit 1)) [Value.int IntKind.i64 x1] ∧
 ∃ (a4 : Addr),
 (A1 = some a4 ∧ (0 : Int) ≤ x1 ∧ x1 < (↑n1 : Int)) ∧
 ∃ (x2 : Int),
 ∃ (x3 : Int),
 At Hs (a4.add (x1.toNat * nat_lit 2)) [Value.int IntKind.i64 x2, Value.int IntKind.i64 x3] ∧
 Ax.Sub Hs H1 ∧
 Ax.Sub Hs H1 ∧
 ((x2 == (36 : Int) || x2 == (37 : Int)) = true →
 Tr Try.prog (52 : Nat) #[Value.pointer (some ({ block := b1, off := (0 : Nat) } : Addr))] H1 fun (v1 : Value) (H' : Heap) =>
 ∃ (x4 : Int),
 v1 = Value.int IntKind.i64 x4 ∧
 ∃ (a5 : Addr),
 some ({ block := b1, off := (0 : Nat) } : Addr) = some a5 ∧
 ∃ (b2 : Bool),
 At H' (a5.add (nat_lit 2)) [Value.bool b2] ∧
 (b2 = true → K (Value.tuple #[Value.int IntKind.i64 (0 : Int), Value.int IntKind.i64 (2 : Int), Value.int IntKind.i64 (IntKind.i64.wrap (x - (1 : Int)))]) H') ∧
 (b2 = false → ((x2 == (37 : Int)) = true → K (Value.tuple #[Value.int IntKind.i64 x4, Value.int IntKind.i64 (1 : Int), Value.int IntKind.i64 (IntKind.i64.wrap (x - (1 : Int)))]) H') ∧ ((x2 == (37 : Int)) = false → K (Value.tuple #[Value.int IntKind.i64 x4, Value.int IntKind.i64 (0 : Int), Value.int IntKind.i64 (IntKind.i64.wrap (x - (1 : Int)))]) H'))) ∧
 ((x2 == (36 : Int) || x2 == (37 : Int)) = false →
 Tr Try.prog (53 : Nat) #[Value.pointer (some ({ block := b1, off := (0 : Nat) } : Addr)), Value.agg #[Value.int IntKind.i64 x2, Value.int IntKind.i64 x3]] H1 fun (v2 : Value) (H'1 : Heap) =>
 v2 = Value.tuple #[] ∧ ∃ (a6 : Addr), some ({ block := b1, off := (0 : Nat) } : Addr) = some a6 ∧ ∃ (b3 : Bool), At H'1 (a6.add (nat_lit 2)) [Value.bool b3] ∧ (b3 = true → K (Value.tuple #[Value.int IntKind.i64 (0 : Int), Value.int IntKind.i64 (2 : Int), Value.int IntKind.i64 (IntKind.i64.wrap (x - (1 : Int)))]) H'1) ∧ (b3 = false → Rel (IntKind.i64.wrap (x - (1 : Int))) H'1 ∧ mu (IntKind.i64.wrap (x - (1 : Int))) H'1 < mu x H1)))
theorem v33 {m : Option Addr} {fn : Int} {arg : Int} {fuel : Int} {H : Heap} {K : Value → Heap → Prop} (h : F33 m fn arg fuel H K) : Tr Try.prog 33 #[.pointer m, .int .i64 fn, .int .i64 arg, .int .i64 fuel] H K :=
  tr_of_eq (C := c33) Try.func33 (show vcFn c33 Try.f33 [.pointer m, .int .i64 fn, .int .i64 arg, .int .i64 fuel] H K = F33 m fn arg fuel H K by kernel_rfl) h
noncomputable def c48 : Cx := { P := Try.prog, res := [], pub := [], loops := [⟨3, [(4, .sl), (28, .int .i64)], [5, 6, 29, 30, 31, 32, 33, 34, 35, 36, 37, 38, 39, 40, 41, 42, 43, 44, 45, 46, 47], []⟩, ⟨10, [(58, .int .i64)], [8, 9, 10, 11, 12, 59, 60, 61, 62, 63, 64, 65, 66, 67, 68, 69, 70, 71, 72, 73, 74, 75, 76, 77, 78, 79, 80, 81, 82, 83, 84, 85, 86, 87, 88, 89, 90, 91, 92, 93, 94, 95, 96, 97, 98, 99], []⟩], quiet := [68], asm := true }
def F48 (m : Option Addr) (s : Int) (H : Heap) (K : Value → Heap → Prop) : Prop :=
 ∃ (a : Addr),
 m = some a ∧
 ∃ (A : Option Addr),
 ∃ (n : Nat),
 ∃ (c : Nat),
 At H ((a.add (nat_lit 2)).add (nat_lit 23)) [Value.slice A n c] ∧
 ∃ (a1 : Addr),
 (A = some a1 ∧ (0 : Int) ≤ s ∧ s < (↑n : Int)) ∧
 ∃ (b : Bool),
 At H ((a1.add (s.toNat * nat_lit 2)).add (nat_lit 1)) [Value.bool b] ∧
 (b = true → K (Value.tuple #[]) H) ∧
 (b = false →
 ∃ (a2 : Addr),
 m = some a2 ∧
 ∃ (A1 : Option Addr),
 ∃ (n1 : Nat),
 ∃ (c1 : Nat),
 At H ((a2.add (nat_lit 2)).add (nat_lit 22)) [Value.slice A1 n1 c1] ∧
 ∃ (Rel : Option Addr → Nat → Nat → Int → Heap → Prop),
 ∃ (mu : Option Addr → Nat → Nat → Int → Heap → Nat),
 Rel none (0 : Nat) (0 : Nat) (0 : Int) H ∧
 ∀ (A2 : Option Addr) (n2 c2 : Nat) (x : Int) (H1 : Heap),
 Rel A2 n2 c2 x H1 →
 (decide (x < (↑n1 : Int)) = true →
 ∃ (a3 : Addr),
 (A1 = some a3 ∧ (0 : Int) ≤ x ∧ x < (↑n1 : Int)) ∧
 ∃ (x1 : Int),
 ∃ (x2 : Int),
 ∃ (x3 : Int),
 ∃ (b1 : Bool),
 ∃ (x4 : Int),
 ∃ (x5 : Int),
 At H1 (a3.add (x.toNat * nat_lit 6)) [Value.int IntKind.i64 x1, Value.int IntKind.i64 x2, Value.int IntKind.i64 x3, Value.bool b1, Value.int IntKind.i64 x4, Value.int IntKind.i64 x5] ∧
 ∃ (b2 : Bool),
 ((!b1) = true → Tr Try.prog (68 : Nat) #[Value.pointer m, Value.int IntKind.i64 x3] H1 fun (v : Value) (H' : Heap) => v = Value.bool b2 ∧ Ax.Sub H1 H') ∧
 ((!b1 && !b2) = true → appC (3 : Nat) (nat_lit 1) (nat_lit 8) H1 A2 n2 c2 [Value.int IntKind.i64 x] (1 : Nat) fun (A' : Option Addr) (n' c' : Nat) (H'1 : Heap) => Rel A' n' c' (IntKind.i64.wrap (x + (1 : Int))) H'1 ∧ mu A' n' c' (IntKind.i64.wrap (x + (1 : Int))) H'1 < mu A2 n2 c2 x H1) ∧ ((!b1 && !b2) = false → Rel A2 n2 c2 (IntKind.i64.wrap (x + (1 : Int))) H1 ∧ mu A2 n2 c2 (IntKind.i64.wrap (x + (1 : Int))) H1 < mu A2 n2 c2 x H1)) ∧
 (decide (x < (↑n1 : Int)) = false →
 ∃ (a4 : Addr),
 m = some a4 ∧
 ∃ (A3 : Option Addr),
 ∃ (n3 : Nat),
 ∃ (c3 : Nat),
 At H1 ((a4.add (nat_lit 2)).add (nat_lit 23)) [Value.slice A3 n3 c3] ∧
 ∃ (a5 : Addr),
 (A3 = some a5 ∧ (0 : Int) ≤ s ∧ s < (↑n3 : Int)) ∧
 ∃ (c4 : Array Value),
 ∃ (T : TypeId),
 H1 ((a5.add (s.toNat * nat_lit 2)).add (nat_lit 1)).block = some (Obj.cells c4 T) ∧
 ((a5.add (s.toNat * nat_lit 2)).add (nat_lit 1)).spot = none ∧
 ((a5.add (s.toNat * nat_lit 2)).add (nat_lit 1)).off + [Value.bool true].length ≤ c4.size ∧
 ∀ (H1_1 : Heap),
 H1_1 = H1.upd ((a5.add (s.toNat * nat_lit 2)).add (nat_lit 1)).block (Obj.cells (splice c4 ((a5.add (s.toNat * nat_lit 2)).add (nat_lit 1)).off [Value.bool true]) T) →
 ∃ (Rel1 : Int → Heap → Prop),
 ∃ (mu1 : Int → Heap → Nat),
 Rel1 (0 : Int) H1_1 ∧
 ∀ (x6 : Int) (H2 : Heap),
 Rel1 x6 H2 →
 (decide (x6 < (↑n2 : Int)) = true →
 ∃ (a6 : Addr),
 (A2 = some a6 ∧ (0 : Int) ≤ x6 ∧ x6 < (↑n2 : Int)) ∧
 ∃ (x7 : Int),
 At H2 (a6.add (x6.toNat * nat_lit 1)) [Value.int IntKind.i64 x7] ∧
 ∃ (a7 : Addr),
 m = some a7 ∧
 ∃ (A4 : Option Addr),
 ∃ (n4 : Nat),
 ∃ (c5 : Nat),
 At H2 ((a7.add (nat_lit 2)).add (nat_lit 22)) [Value.slice A4 n4 c5] ∧
 ∃ (a8 : Addr),
 (A4 = some a8 ∧ (0 : Int) ≤ x7 ∧ x7 < (↑n4 : Int)) ∧
 ∃ (x8 : Int),
 ∃ (x9 : Int),
 ∃ (x10 : Int),
 ∃ (b3 : Bool),
 ∃ (x11 : Int),
 ∃ (x12 : Int),
 At H2 (a8.add (x7.toNat * nat_lit 6)) [Value.int IntKind.i64 x8, Value.int IntKind.i64 x9, Value.int IntKind.i64 x10, Value.bool b3, Value.int IntKind.i64 x11, Value.int IntKind.i64 x12] ∧
 ∃ (b4 : Bool),
 (Tr Try.prog (68 : Nat) #[Value.pointer m, Value.int IntKind.i64 x10] H2 fun (v1 : Value) (H'2 : Heap) => v1 = Value.bool b4 ∧ Ax.Sub H2 H'2) ∧
 ((!b4) = true → Rel1 (IntKind.i64.wrap (x6 + (1 : Int))) H2 ∧ mu1 (IntKind.i64.wrap (x6 + (1 : Int))) H2 < mu1 x6 H2) ∧
 ((!b4) = false →
 ∀ (b5 : Nat),
 H2 b5 = none →
 ∀ (H11 : Heap),
 H11 = H2.upd b5 (Obj.map #[] (0 : Nat)) →
 Sm Try.prog (updU (Instr.mapUpdate (142 : Nat) (Value.map (some b5)) (Value.int IntKind.i64 (3 : Int)) (Value.int IntKind.i64 (6 : Int)))) H11 fun (v2 : Value) (H'3 : Heap) =>
 Sm Try.prog (updU (Instr.mapUpdate (142 : Nat) (Value.map (some b5)) (Value.int IntKind.i64 (4 : Int)) (Value.int IntKind.i64 (7 : Int)))) H'3 fun (v3 : Value) (H'4 : Heap) =>
 Sm Try.prog (updU (Instr.mapUpdate (142 : Nat) (Value.map (some b5)) (Value.int IntKind.i64 (5 : Int)) (Value.int IntKind.i64 (8 : Int)))) H'4 fun (v4 : Value) (H'5 : Heap) =>
 Sm Try.prog (Instr.lookup (142 : Nat) (Value.map (some b5)) (Value.int IntKind.i64 x8) false) H'5 fun (v5 : Value) (H'6 : Heap) =>
 ∃ (x13 : Int),
 v5 = Value.int IntKind.i64 x13 ∧
 ((x13 == (0 : Int)) = true → Rel1 (IntKind.i64.wrap (x6 + (1 : Int))) H'6 ∧ mu1 (IntKind.i64.wrap (x6 + (1 : Int))) H'6 < mu1 x6 H2) ∧
 ((x13 == (0 : Int)) = false →
 Tr Try.prog (69 : Nat) #[Value.pointer m, Value.agg #[Value.int IntKind.i64 (0 : Int), Value.int IntKind.i64 (0 : Int), Value.int IntKind.i64 x13, Value.int IntKind.i64 x9, Value.int IntKind.i64 (0 : Int), Value.int IntKind.i64 (0 : Int), Value.int IntKind.i64 (0 : Int), Value.int IntKind.i64 (0 : Int), Value.int IntKind.i64 (0 : Int)]] H'6 fun (v6 : Value) (H'7 : Heap) =>
 ∃ (x14 : Int),
 ∃ (b6 : Bool),
 v6 = Value.tuple #[Value.int IntKind.i64 x14, Value.bool b6] ∧
 ((!b6) = true → K (Value.tuple #[]) H'7) ∧
 ((!b6) = false →
 ((x8 != (5 : Int)) = true → Tr Try.prog (29 : Nat) #[Value.pointer m, Value.int IntKind.i64 x7, Value.int IntKind.i64 (0 : Int), Value.int IntKind.i64 (3 : Int)] H'7 fun (v7 : Value) (H'8 : Heap) => v7 = Value.tuple #[] ∧ Rel1 (IntKind.i64.wrap (x6 + (1 : Int))) H'8 ∧ mu1 (IntKind.i64.wrap (x6 + (1 : Int))) H'8 < mu1 x6 H2) ∧
 ((x8 != (5 : Int)) = false → Rel1 (IntKind.i64.wrap (x6 + (1 : Int))) H'7 ∧ mu1 (IntKind.i64.wrap (x6 + (1 : Int))) H'7 < mu1 x6 H2))))) ∧
 (decide (x6 < (↑n2 : Int)) = false → K (Value.tuple #[]) H2)))
theorem v48 {m : Option Addr} {s : Int} {H : Heap} {K : Value → Heap → Prop} (h : F48 m s H K) : Tr Try.prog 48 #[.pointer m, .int .i64 s] H K :=
  tr_of_eq (C := c48) Try.func48 (show vcFn c48 Try.f48 [.pointer m, .int .i64 s] H K = F48 m s H K by kernel_rfl) h
noncomputable def c49 : Cx := { P := Try.prog, res := [], pub := [], loops := [], quiet := [32, 33], draws := [⟨19, [8, 10], [], false, true⟩], asm := true }
def F49 (m : Option Addr) (eId : Int) (eTime : Int) (eKind : Int) (eA : Int) (eB : Int) (eC : Int) (eD : Int) (eE : Int) (eF : Int) (H : Heap) (K : Value → Heap → Prop) : Prop :=
 ∃ (a : Addr),
 m = some a ∧
 ∃ (A : Option Addr),
 ∃ (n : Nat),
 ∃ (c : Nat),
 ∃ (A1 : Option Addr),
 ∃ (n1 : Nat),
 ∃ (c1 : Nat),
 At H (a.add (nat_lit 0)) [Value.slice A n c, Value.slice A1 n1 c1] ∧
 ∃ (x : Int),
 (Tr Try.prog (32 : Nat) #[Value.agg #[Value.slice A n c, Value.slice A1 n1 c1], Value.int IntKind.i64 (3 : Int), Value.int IntKind.i64 eA] H fun (v : Value) (H' : Heap) => v = Value.int IntKind.i64 x ∧ Ax.Sub H H') ∧
 (decide (x < (0 : Int)) = true → Tr Try.prog (69 : Nat) #[Value.pointer m, Value.agg #[Value.int IntKind.i64 (0 : Int), Value.int IntKind.i64 (0 : Int), Value.int IntKind.i64 (13 : Int), Value.int IntKind.i64 eId, Value.int IntKind.i64 (50 : Int), Value.int IntKind.i64 (0 : Int), Value.int IntKind.i64 (0 : Int), Value.int IntKind.i64 (0 : Int), Value.int IntKind.i64 (0 : Int)]] H fun (v1 : Value) (H'1 : Heap) => ∃ (x1 : Int), ∃ (b : Bool), v1 = Value.tuple #[Value.int IntKind.i64 x1, Value.bool b] ∧ K (Value.tuple #[]) H'1) ∧
 (decide (x < (0 : Int)) = false →
 ∃ (a1 : Addr),
 m = some a1 ∧
 ∃ (A2 : Option Addr),
 ∃ (n2 : Nat),
 ∃ (c2 : Nat),
 ∃ (A3 : Option Addr),
 ∃ (n3 : Nat),
 ∃ (c3 : Nat),
 At H (a1.add (nat_lit 0)) [Value.slice A2 n2 c2, Value.slice A3 n3 c3] ∧
 ∃ (x2 : Int),
 (Tr Try.prog (32 : Nat) #[Value.agg #[Value.slice A2 n2 c2, Value.slice A3 n3 c3], Value.int IntKind.i64 (4 : Int), Value.int IntKind.i64 eA] H fun (v2 : Value) (H'2 : Heap) => v2 = Value.int IntKind.i64 x2 ∧ Ax.Sub H H'2) ∧
 (decide (x2 ≥ (0 : Int)) = true →
 ∃ (a2 : Addr),
 m = some a2 ∧
 ∃ (x3 : Int),
 At H (a2.add (nat_lit 31)) [Value.int IntKind.i64 x3] ∧
 ∃ (x4 : Int),
 ∃ (x5 : Int),
 ∃ (x6 : Int),
 (Tr Try.prog (33 : Nat) #[Value.pointer m, Value.int IntKind.i64 x2, Value.int IntKind.i64 eB, Value.int IntKind.i64 x3] H fun (v3 : Value) (H'3 : Heap) => v3 = Value.tuple #[Value.int IntKind.i64 x4, Value.int IntKind.i64 x5, Value.int IntKind.i64 x6] ∧ Ax.Sub H H'3) ∧
 ∃ (a3 : Addr),
 m = some a3 ∧
 ∃ (c4 : Array Value),
 ∃ (T : TypeId),
 H (a3.add (nat_lit 31)).block = some (Obj.cells c4 T) ∧
 (a3.add (nat_lit 31)).spot = none ∧
 (a3.add (nat_lit 31)).off + [Value.int IntKind.i64 x6].length ≤ c4.size ∧
 ∀ (H1 : Heap),
 H1 = H.upd (a3.add (nat_lit 31)).block (Obj.cells (splice c4 (a3.add (nat_lit 31)).off [Value.int IntKind.i64 x6]) T) →
 ((x5 == (3 : Int)) = true → Tr Try.prog (70 : Nat) #[Value.pointer m, Value.int IntKind.i64 (-1 : Int)] H1 fun (v4 : Value) (H'4 : Heap) => v4 = Value.tuple #[] ∧ K (Value.tuple #[]) H'4) ∧
 ((x5 == (3 : Int)) = false →
 ((x5 == (2 : Int)) = true →
 ((x5 != (0 : Int) || (-2 : Int) != (0 : Int)) = true →
 Tr Try.prog (69 : Nat) #[Value.pointer m, Value.agg #[Value.int IntKind.i64 (0 : Int), Value.int IntKind.i64 (0 : Int), Value.int IntKind.i64 (13 : Int), Value.int IntKind.i64 eId, Value.int IntKind.i64 (-2 : Int), Value.int IntKind.i64 (0 : Int), Value.int IntKind.i64 (0 : Int), Value.int IntKind.i64 (0 : Int), Value.int IntKind.i64 (0 : Int)]] H1 fun (v5 : Value) (H'5 : Heap) => ∃ (x7 : Int), ∃ (b1 : Bool), v5 = Value.tuple #[Value.int IntKind.i64 x7, Value.bool b1] ∧ K (Value.tuple #[]) H'5) ∧
 ((x5 != (0 : Int) || (-2 : Int) != (0 : Int)) = false →
 ∃ (a4 : Addr),
 m = some a4 ∧
 ∃ (A4 : Option Addr),
 ∃ (n4 : Nat),
 ∃ (c5 : Nat),
 At H1 ((a4.add (nat_lit 2)).add (nat_lit 21)) [Value.slice A4 n4 c5] ∧
 (decide ((↑n4 : Int) ≥ (16 : Int)) = true → Tr Try.prog (70 : Nat) #[Value.pointer m, Value.int IntKind.i64 (-3 : Int)] H1 fun (v6 : Value) (H'6 : Heap) => v6 = Value.tuple #[] ∧ K (Value.tuple #[]) H'6) ∧
 (decide ((↑n4 : Int) ≥ (16 : Int)) = false →
 Tr Try.prog (69 : Nat) #[Value.pointer m, Value.agg #[Value.int IntKind.i64 (0 : Int), Value.int IntKind.i64 (0 : Int), Value.int IntKind.i64 (12 : Int), Value.int IntKind.i64 eId, Value.int IntKind.i64 (0 : Int), Value.int IntKind.i64 (0 : Int), Value.int IntKind.i64 (0 : Int), Value.int IntKind.i64 (0 : Int), Value.int IntKind.i64 (0 : Int)]] H1 fun (v7 : Value) (H'7 : Heap) =>
 ∃ (x8 : Int),
 ∃ (b2 : Bool),
 v7 = Value.tuple #[Value.int IntKind.i64 x8, Value.bool b2] ∧
 (b2 = true →
 ∃ (a5 : Addr),
 m = some a5 ∧
 (∃ (A5 : Option Addr),
 ∃ (n5 : Nat),
 ∃ (c6 : Nat),
 At H'7 ((a5.add (nat_lit 2)).add (nat_lit 21)) [Value.slice A5 n5 c6] ∧
 appC (60 : Nat) (nat_lit 9) (nat_lit 88) H'7 A5 n5 c6 [Value.int IntKind.i64 x, Value.int IntKind.i64 (0 : Int), Value.int IntKind.i64 (0 : Int), Value.slice none (0 : Nat) (0 : Nat), Value.int IntKind.i64 eB, Value.int IntKind.i64 (-1 : Int), Value.int IntKind.i64 eId, Value.int IntKind.i64 (-1 : Int), Value.int IntKind.i64 (-1 : Int)] (1 : Nat) fun (A' : Option Addr) (n' c' : Nat) (H'8 : Heap) =>
 ∃ (a6 : Addr),
 m = some a6 ∧
 ∃ (c7 : Array Value),
 ∃ (T1 : TypeId), H'8 ((a6.add (nat_lit 2)).add (nat_lit 21)).block = some (Obj.cells c7 T1) ∧ ((a6.add (nat_lit 2)).add (nat_lit 21)).spot = none ∧ ((a6.add (nat_lit 2)).add (nat_lit 21)).off + [Value.slice A' n' c'].length ≤ c7.size ∧ ∀ (H11 : Heap), H11 = H'8.upd ((a6.add (nat_lit 2)).add (nat_lit 21)).block (Obj.cells (splice c7 ((a6.add (nat_lit 2)).add (nat_lit 21)).off [Value.slice A' n' c']) T1) → K (Value.tuple #[]) H11) ∧
 ∃ (A6 : Option Addr),
 ∃ (n6 : Nat),
 ∃ (c8 : Nat),
 At H'7 ((a5.add (nat_lit 2)).add (nat_lit 21)) [Value.slice A6 n6 c8] ∧
 appC (60 : Nat) (nat_lit 9) (nat_lit 88) H'7 A6 n6 c8 [Value.int IntKind.i64 x, Value.int IntKind.i64 (0 : Int), Value.int IntKind.i64 (0 : Int), Value.slice none (0 : Nat) (0 : Nat), Value.int IntKind.i64 eB, Value.int IntKind.i64 (-1 : Int), Value.int IntKind.i64 eId, Value.int IntKind.i64 (-1 : Int), Value.int IntKind.i64 (-1 : Int)] (1 : Nat) fun (A'1 : Option Addr) (n'1 c'1 : Nat) (H'9 : Heap) =>
 ∃ (a7 : Addr),
 m = some a7 ∧
 ∃ (c9 : Array Value),
 ∃ (T2 : TypeId), H'9 ((a7.add (nat_lit 2)).add (nat_lit 21)).block = some (Obj.cells c9 T2) ∧ ((a7.add (nat_lit 2)).add (nat_lit 21)).spot = none ∧ ((a7.add (nat_lit 2)).add (nat_lit 21)).off + [Value.slice A'1 n'1 c'1].length ≤ c9.size ∧ ∀ (H12 : Heap), H12 = H'9.upd ((a7.add (nat_lit 2)).add (nat_lit 21)).block (Obj.cells (splice c9 ((a7.add (nat_lit 2)).add (nat_lit 21)).off [Value.slice A'1 n'1 c'1]) T2) → K (Value.tuple #[]) H12) ∧
 (b2 = false → K (Value.tuple #[]) H'7)))) ∧
 ((x5 == (2 : Int)) = false →
 ((x5 != (0 : Int) || x4 != (0 : Int)) = true →
 Tr Try.prog (69 : Nat) #[Value.pointer m, Value.agg #[Value.int IntKind.i64 (0 : Int), Value.int IntKind.i64 (0 : Int), Value.int IntKind.i64 (13 : Int), Value.int IntKind.i64 eId, Value.int IntKind.i64 x4, Value.int IntKind.i64 (0 : Int), Value.int IntKind.i64 (0 : Int), Value.int IntKind.i64 (0 : Int), Value.int IntKind.i64 (0 : Int)]] H1 fun (v8 : Value) (H'10 : Heap) => ∃ (x9 : Int), ∃ (b3 : Bool), v8 = Value.tuple #[Value.int IntKind.i64 x9, Value.bool b3] ∧ K (Value.tuple #[]) H'10) ∧
 ((x5 != (0 : Int) || x4 != (0 : Int)) = false →
 ∃ (a8 : Addr),
 m = some a8 ∧
 ∃ (A7 : Option Addr),
 ∃ (n7 : Nat),
 ∃ (c10 : Nat),
 At H1 ((a8.add (nat_lit 2)).add (nat_lit 21)) [Value.slice A7 n7 c10] ∧
 (decide ((↑n7 : Int) ≥ (16 : Int)) = true → Tr Try.prog (70 : Nat) #[Value.pointer m, Value.int IntKind.i64 (-3 : Int)] H1 fun (v9 : Value) (H'11 : Heap) => v9 = Value.tuple #[] ∧ K (Value.tuple #[]) H'11) ∧
 (decide ((↑n7 : Int) ≥ (16 : Int)) = false →
 Tr Try.prog (69 : Nat) #[Value.pointer m, Value.agg #[Value.int IntKind.i64 (0 : Int), Value.int IntKind.i64 (0 : Int), Value.int IntKind.i64 (12 : Int), Value.int IntKind.i64 eId, Value.int IntKind.i64 (0 : Int), Value.int IntKind.i64 (0 : Int), Value.int IntKind.i64 (0 : Int), Value.int IntKind.i64 (0 : Int), Value.int IntKind.i64 (0 : Int)]] H1 fun (v10 : Value) (H'12 : Heap) =>
 ∃ (x10 : Int),
 ∃ (b4 : Bool),
 v10 = Value.tuple #[Value.int IntKind.i64 x10, Value.bool b4] ∧
 (b4 = true →
 ∃ (a9 : Addr),
 m = some a9 ∧
 (∃ (A8 : Option Addr),
 ∃ (n8 : Nat),
 ∃ (c11 : Nat),
 At H'12 ((a9.add (nat_lit 2)).add (nat_lit 21)) [Value.slice A8 n8 c11] ∧
 appC (60 : Nat) (nat_lit 9) (nat_lit 88) H'12 A8 n8 c11 [Value.int IntKind.i64 x, Value.int IntKind.i64 (0 : Int), Value.int IntKind.i64 (0 : Int), Value.slice none (0 : Nat) (0 : Nat), Value.int IntKind.i64 eB, Value.int IntKind.i64 (-1 : Int), Value.int IntKind.i64 eId, Value.int IntKind.i64 (-1 : Int), Value.int IntKind.i64 (-1 : Int)] (1 : Nat) fun (A'2 : Option Addr) (n'2 c'2 : Nat) (H'13 : Heap) =>
 ∃ (a10 : Addr),
 m = some a10 ∧
 ∃ (c12 : Array Value),
 ∃ (T3 : TypeId), H'13 ((a10.add (nat_lit 2)).add (nat_lit 21)).block = some (Obj.cells c12 T3) ∧ ((a10.add (nat_lit 2)).add (nat_lit 21)).spot = none ∧ ((a10.add (nat_lit 2)).add (nat_lit 21)).off + [Value.slice A'2 n'2 c'2].length ≤ c12.size ∧ ∀ (H13 : Heap), H13 = H'13.upd ((a10.add (nat_lit 2)).add (nat_lit 21)).block (Obj.cells (splice c12 ((a10.add (nat_lit 2)).add (nat_lit 21)).off [Value.slice A'2 n'2 c'2]) T3) → K (Value.tuple #[]) H13) ∧
 ∃ (A9 : Option Addr),
 ∃ (n9 : Nat),
 ∃ (c13 : Nat),
 At H'12 ((a9.add (nat_lit 2)).add (nat_lit 21)) [Value.slice A9 n9 c13] ∧
 appC (60 : Nat) (nat_lit 9) (nat_lit 88) H'12 A9 n9 c13 [Value.int IntKind.i64 x, Value.int IntKind.i64 (0 : Int), Value.int IntKind.i64 (0 : Int), Value.slice none (0 : Nat) (0 : Nat), Value.int IntKind.i64 eB, Value.int IntKind.i64 (-1 : Int), Value.int IntKind.i64 eId, Value.int IntKind.i64 (-1 : Int), Value.int IntKind.i64 (-1 : Int)] (1 : Nat) fun (A'3 : Option Addr) (n'3 c'3 : Nat) (H'14 : Heap) =>
 ∃ (a11 : Addr),
 m = some a11 ∧
 ∃ (c14 : Array Value),
 ∃ (T4 : TypeId), H'14 ((a11.add (nat_lit 2)).add (nat_lit 21)).block = some (Obj.cells c14 T4) ∧ ((a11.add (nat_lit 2)).add (nat_lit 21)).spot = none ∧ ((a11.add (nat_lit 2)).add (nat_lit 21)).off + [Value.slice A'3 n'3 c'3].length ≤ c14.size ∧ ∀ (H14 : Heap), H14 = H'14.upd ((a11.add (nat_lit 2)).add (nat_lit 21)).block (Obj.cells (splice c14 ((a11.add (nat_lit 2)).add (nat_lit 21)).off [Value.slice A'3 n'3 c'3]) T4) → K (Value.tuple #[]) H14) ∧
 (b4 = false → K (Value.tuple #[]) H'12)))))) ∧
 (decide (x2 ≥ (0 : Int)) = false →
 ∃ (a12 : Addr),
 m = some a12 ∧
 ∃ (A10 : Option Addr),
 ∃ (n10 : Nat),
 ∃ (c15 : Nat),
 At H ((a12.add (nat_lit 2)).add (nat_lit 21)) [Value.slice A10 n10 c15] ∧
 (decide ((↑n10 : Int) ≥ (16 : Int)) = true → Tr Try.prog (70 : Nat) #[Value.pointer m, Value.int IntKind.i64 (-3 : Int)] H fun (v11 : Value) (H'15 : Heap) => v11 = Value.tuple #[] ∧ K (Value.tuple #[]) H'15) ∧
 (decide ((↑n10 : Int) ≥ (16 : Int)) = false →
 Tr Try.prog (69 : Nat) #[Value.pointer m, Value.agg #[Value.int IntKind.i64 (0 : Int), Value.int IntKind.i64 (0 : Int), Value.int IntKind.i64 (12 : Int), Value.int IntKind.i64 eId, Value.int IntKind.i64 (0 : Int), Value.int IntKind.i64 (0 : Int), Value.int IntKind.i64 (0 : Int), Value.int IntKind.i64 (0 : Int), Value.int IntKind.i64 (0 : Int)]] H fun (v12 : Value) (H'16 : Heap) =>
 ∃ (x11 : Int),
 ∃ (b5 : Bool),
 v12 = Value.tuple #[Value.int IntKind.i64 x11, Value.bool b5] ∧
 (b5 = true →
 ∃ (a13 : Addr),
 m = some a13 ∧
 (∃ (A11 : Option Addr),
 ∃ (n11 : Nat),
 ∃ (c16 : Nat),
 At H'16 ((a13.add (nat_lit 2)).add (nat_lit 21)) [Value.slice A11 n11 c16] ∧
 appC (60 : Nat) (nat_lit 9) (nat_lit 88) H'16 A11 n11 c16 [Value.int IntKind.i64 x, Value.int IntKind.i64 (0 : Int), Value.int IntKind.i64 (0 : Int), Value.slice none (0 : Nat) (0 : Nat), Value.int IntKind.i64 eB, Value.int IntKind.i64 (-1 : Int), Value.int IntKind.i64 eId, Value.int IntKind.i64 (-1 : Int), Value.int IntKind.i64 (-1 : Int)] (1 : Nat) fun (A'4 : Option Addr) (n'4 c'4 : Nat) (H'17 : Heap) =>
 ∃ (a14 : Addr), m = some a14 ∧ ∃ (c17 : Array Value), ∃ (T5 : TypeId), H'17 ((a14.add (nat_lit 2)).add (nat_lit 21)).block = some (Obj.cells c17 T5) ∧ ((a14.add (nat_lit 2)).add (nat_lit 21)).spot = none ∧ ((a14.add (nat_lit 2)).add (nat_lit 21)).off + [Value.slice A'4 n'4 c'4].length ≤ c17.size ∧ ∀ (H15 : Heap), H15 = H'17.upd ((a14.add (nat_lit 2)).add (nat_lit 21)).block (Obj.cells (splice c17 ((a14.add (nat_lit 2)).add (nat_lit 21)).off [Value.slice A'4 n'4 c'4]) T5) → K (Value.tuple #[]) H15) ∧
 ∃ (A12 : Option Addr),
 ∃ (n12 : Nat),
 ∃ (c18 : Nat),
 At H'16 ((a13.add (nat_lit 2)).add (nat_lit 21)) [Value.slice A12 n12 c18] ∧
 appC (60 : Nat) (nat_lit 9) (nat_lit 88) H'16 A12 n12 c18 [Value.int IntKind.i64 x, Value.int IntKind.i64 (0 : Int), Value.int IntKind.i64 (0 : Int), Value.slice none (0 : Nat) (0 : Nat), Value.int IntKind.i64 eB, Value.int IntKind.i64 (-1 : Int), Value.int IntKind.i64 eId, Value.int IntKind.i64 (-1 : Int), Value.int IntKind.i64 (-1 : Int)] (1 : Nat) fun (A'5 : Option Addr) (n'5 c'5 : Nat) (H'18 : Heap) =>
 ∃ (a15 : Addr), m = some a15 ∧ ∃ (c19 : Array Value), ∃ (T6 : TypeId), H'18 ((a15.add (nat_lit 2)).add (nat_lit 21)).block = some (Obj.cells c19 T6) ∧ ((a15.add (nat_lit 2)).add (nat_lit 21)).spot = none ∧ ((a15.add (nat_lit 2)).add (nat_lit 21)).off + [Value.slice A'5 n'5 c'5].length ≤ c19.size ∧ ∀ (H16 : Heap), H16 = H'18.upd ((a15.add (nat_lit 2)).add (nat_lit 21)).block (Obj.cells (splice c19 ((a15.add (nat_lit 2)).add (nat_lit 21)).off [Value.slice A'5 n'5 c'5]) T6) → K (Value.tuple #[]) H16) ∧
 (b5 = false → K (Value.tuple #[]) H'16))))
theorem v49 {m : Option Addr} {eId : Int} {eTime : Int} {eKind : Int} {eA : Int} {eB : Int} {eC : Int} {eD : Int} {eE : Int} {eF : Int} {H : Heap} {K : Value → Heap → Prop} (h : F49 m eId eTime eKind eA eB eC eD eE eF H K) : Tr Try.prog 49 #[.pointer m, .agg #[.int .i64 eId, .int .i64 eTime, .int .i64 eKind, .int .i64 eA, .int .i64 eB, .int .i64 eC, .int .i64 eD, .int .i64 eE, .int .i64 eF]] H K :=
  tr_of_eq (C := c49) Try.func49 (show vcFn c49 Try.f49 [.pointer m, .agg #[.int .i64 eId, .int .i64 eTime, .int .i64 eKind, .int .i64 eA, .int .i64 eB, .int .i64 eC, .int .i64 eD, .int .i64 eE, .int .i64 eF]] H K = F49 m eId eTime eKind eA eB eC eD eE eF H K by kernel_rfl) h
noncomputable def c51 : Cx := { P := Try.prog, res := [], pub := [], loops := [⟨1, [], [4, 5, 6, 7, 8, 9, 10, 11, 12, 13, 14, 15, 16, 17, 18, 19, 20, 21, 22, 23, 24, 25, 26, 27, 28, 29, 30, 31], []⟩], quiet := [], asm := true }
def F51 (m : Option Addr) (i : Int) (H : Heap) (K : Value → Heap → Prop) : Prop :=
 ∃ (Rel : Heap → Prop),
 ∃ (mu : Heap → Nat),
 Rel H ∧
 ∀ (H1 : Heap),
 Rel H1 →
 ∃ (a : Addr),
 m = some a ∧
 ∃ (b : Bool),
 At H1 ((a.add (nat_lit 2)).add (nat_lit 25)) [Value.bool b] ∧
 ((!b) = true →
 ∃ (a1 : Addr),
 m = some a1 ∧
 ∃ (x : Int),
 At H1 (a1.add (nat_lit 31)) [Value.int IntKind.i64 x] ∧
 ((x == (0 : Int)) = true → Tr Try.prog (70 : Nat) #[Value.pointer m, Value.int IntKind.i64 (-1 : Int)] H1 fun (v : Value) (H' : Heap) => v = Value.tuple #[] ∧ K (Value.int IntKind.i64 (1 : Int)) H') ∧
 ((x == (0 : Int)) = false →
 ∃ (a2 : Addr),
 m = some a2 ∧
 ∃ (x1 : Int),
 At H1 (a2.add (nat_lit 31)) [Value.int IntKind.i64 x1] ∧
 ∃ (a3 : Addr),
 m = some a3 ∧
 ∃ (c : Array Value),
 ∃ (T : TypeId),
 H1 (a3.add (nat_lit 31)).block = some (Obj.cells c T) ∧
 (a3.add (nat_lit 31)).spot = none ∧
 (a3.add (nat_lit 31)).off + [Value.int IntKind.i64 (IntKind.i64.wrap (x1 - (1 : Int)))].length ≤ c.size ∧
 ∀ (H1_1 : Heap), H1_1 = H1.upd (a3.add (nat_lit 31)).block (Obj.cells (splice c (a3.add (nat_lit 31)).off [Value.int IntKind.i64 (IntKind.i64.wrap (x1 - (1 : Int)))]) T) → Tr Try.prog (71 : Nat) #[Value.pointer m, Value.int IntKind.i64 i] H1_1 fun (v1 : Value) (H'1 : Heap) => ∃ (x2 : Int), v1 = Value.int IntKind.i64 x2 ∧ ((x2 != (0 : Int)) = true → K (Value.int IntKind.i64 x2) H'1) ∧ ((x2 != (0 : Int)) = false → Rel H'1 ∧ mu H'1 < mu H1))) ∧
 ((!b) = false → K (Value.int IntKind.i64 (1 : Int)) H1)
theorem v51 {m : Option Addr} {i : Int} {H : Heap} {K : Value → Heap → Prop} (h : F51 m i H K) : Tr Try.prog 51 #[.pointer m, .int .i64 i] H K :=
  tr_of_eq (C := c51) Try.func51 (show vcFn c51 Try.f51 [.pointer m, .int .i64 i] H K = F51 m i H K by kernel_rfl) h
noncomputable def c53 : Cx := { P := Try.prog, res := [], pub := [33, 40, 53, 64, 76, 85, 124, 136, 149, 167], loops := [], quiet := [73, 74], draws := [⟨21, [5], [], false, true⟩, ⟨24, [5], [], false, true⟩, ⟨26, [6], [], false, true⟩, ⟨32, [10], [], false, true⟩], asm := true }
def F53 (r : Option Addr) (oCode : Int) (oA : Int) (H : Heap) (K : Value → Heap → Prop) : Prop :=
 ∃ (a : Addr),
 r = some a ∧
 ∃ (v : Option Addr),
 At H (a.add (nat_lit 1)) [Value.pointer v] ∧
 ∃ (a1 : Addr),
 v = some a1 ∧
 ∃ (x : Int),
 At H (a1.add (nat_lit 1)) [Value.int IntKind.i64 x] ∧
 ∃ (a2 : Addr),
 v = some a2 ∧
 ∃ (c : Array Value),
 ∃ (T : TypeId),
 H (a2.add (nat_lit 1)).block = some (Obj.cells c T) ∧
 (a2.add (nat_lit 1)).spot = none ∧
 (a2.add (nat_lit 1)).off + [Value.int IntKind.i64 (IntKind.i64.wrap (x + (1 : Int)))].length ≤ c.size ∧
 ∀ (H1 : Heap),
 H1 = H.upd (a2.add (nat_lit 1)).block (Obj.cells (splice c (a2.add (nat_lit 1)).off [Value.int IntKind.i64 (IntKind.i64.wrap (x + (1 : Int)))]) T) →
 ((oCode == (0 : Int)) = true → ∀ (b : Nat), H1 b = none → ∀ (H11 : Heap), H11 = H1.upd b (Obj.cells #[Value.int IntKind.i64 oA] (2 : Nat)) → Tr Try.prog (72 : Nat) #[Value.pointer r, Value.slice (some ({ block := b, off := (0 : Nat) } : Addr)) (1 : Nat) (1 : Nat)] H11 fun (v1 : Value) (H' : Heap) => v1 = Value.tuple #[] ∧ K (Value.tuple #[]) H') ∧
 ((oCode == (0 : Int)) = false →
 ((oCode == (1 : Int)) = true → Tr Try.prog (52 : Nat) #[Value.pointer r] H1 fun (v2 : Value) (H'1 : Heap) => ∃ (x1 : Int), v2 = Value.int IntKind.i64 x1 ∧ K (Value.tuple #[]) H'1) ∧
 ((oCode == (1 : Int)) = false →
 ((oCode == (2 : Int)) = true → Tr Try.prog (52 : Nat) #[Value.pointer r] H1 fun (v3 : Value) (H'2 : Heap) => ∃ (x2 : Int), v3 = Value.int IntKind.i64 x2 ∧ ∀ (b1 : Nat), H'2 b1 = none → ∀ (H12 : Heap), H12 = H'2.upd b1 (Obj.cells #[Value.int IntKind.i64 x2, Value.int IntKind.i64 x2] (2 : Nat)) → Tr Try.prog (72 : Nat) #[Value.pointer r, Value.slice (some ({ block := b1, off := (0 : Nat) } : Addr)) (2 : Nat) (2 : Nat)] H12 fun (v4 : Value) (H'3 : Heap) => v4 = Value.tuple #[] ∧ K (Value.tuple #[]) H'3) ∧
 ((oCode == (2 : Int)) = false →
 ((oCode == (3 : Int)) = true →
 Tr Try.prog (52 : Nat) #[Value.pointer r] H1 fun (v5 : Value) (H'4 : Heap) =>
 ∃ (x3 : Int), v5 = Value.int IntKind.i64 x3 ∧ Tr Try.prog (52 : Nat) #[Value.pointer r] H'4 fun (v6 : Value) (H'5 : Heap) => ∃ (x4 : Int), v6 = Value.int IntKind.i64 x4 ∧ ∀ (b2 : Nat), H'5 b2 = none → ∀ (H13 : Heap), H13 = H'5.upd b2 (Obj.cells #[Value.int IntKind.i64 x3, Value.int IntKind.i64 x4] (2 : Nat)) → Tr Try.prog (72 : Nat) #[Value.pointer r, Value.slice (some ({ block := b2, off := (0 : Nat) } : Addr)) (2 : Nat) (2 : Nat)] H13 fun (v7 : Value) (H'6 : Heap) => v7 = Value.tuple #[] ∧ K (Value.tuple #[]) H'6) ∧
 ((oCode == (3 : Int)) = false →
 ((oCode == (4 : Int)) = true →
 Tr Try.prog (52 : Nat) #[Value.pointer r] H1 fun (v8 : Value) (H'7 : Heap) =>
 ∃ (x5 : Int), v8 = Value.int IntKind.i64 x5 ∧ Tr Try.prog (52 : Nat) #[Value.pointer r] H'7 fun (v9 : Value) (H'8 : Heap) => ∃ (x6 : Int), v9 = Value.int IntKind.i64 x6 ∧ ∀ (b3 : Nat), H'8 b3 = none → ∀ (H14 : Heap), H14 = H'8.upd b3 (Obj.cells #[Value.int IntKind.i64 x6, Value.int IntKind.i64 x5, Value.int IntKind.i64 x6] (2 : Nat)) → Tr Try.prog (72 : Nat) #[Value.pointer r, Value.slice (some ({ block := b3, off := (0 : Nat) } : Addr)) (3 : Nat) (3 : Nat)] H14 fun (v10 : Value) (H'9 : Heap) => v10 = Value.tuple #[] ∧ K (Value.tuple #[]) H'9) ∧
 ((oCode == (4 : Int)) = false →
 ((oCode == (12 : Int)) = true →
 Tr Try.prog (52 : Nat) #[Value.pointer r] H1 fun (v11 : Value) (H'10 : Heap) =>
 ∃ (x7 : Int), v11 = Value.int IntKind.i64 x7 ∧ ∃ (x8 : Int), (Tr Try.prog (73 : Nat) #[Value.bool (x7 == (0 : Int))] H'10 fun (v12 : Value) (H'11 : Heap) => v12 = Value.int IntKind.i64 x8 ∧ Ax.Sub H'10 H'11) ∧ ∀ (b4 : Nat), H'10 b4 = none → ∀ (H15 : Heap), H15 = H'10.upd b4 (Obj.cells #[Value.int IntKind.i64 x8] (2 : Nat)) → Tr Try.prog (72 : Nat) #[Value.pointer r, Value.slice (some ({ block := b4, off := (0 : Nat) } : Addr)) (1 : Nat) (1 : Nat)] H15 fun (v13 : Value) (H'12 : Heap) => v13 = Value.tuple #[] ∧ K (Value.tuple #[]) H'12) ∧
 ((oCode == (12 : Int)) = false →
 ((oCode == (13 : Int)) = true → ∃ (a3 : Addr), r = some a3 ∧ ∃ (v14 : Option Addr), At H1 (a3.add (nat_lit 1)) [Value.pointer v14] ∧ ∃ (a4 : Addr), v14 = some a4 ∧ ∃ (c1 : Array Value), ∃ (T1 : TypeId), H1 (a4.add (nat_lit 1)).block = some (Obj.cells c1 T1) ∧ (a4.add (nat_lit 1)).spot = none ∧ (a4.add (nat_lit 1)).off + [Value.int IntKind.i64 oA].length ≤ c1.size ∧ ∀ (H16 : Heap), H16 = H1.upd (a4.add (nat_lit 1)).block (Obj.cells (splice c1 (a4.add (nat_lit 1)).off [Value.int IntKind.i64 oA]) T1) → K (Value.tuple #[]) H16) ∧
 ((oCode == (13 : Int)) = false →
 ((oCode == (14 : Int)) = true →
 Tr Try.prog (52 : Nat) #[Value.pointer r] H1 fun (v15 : Value) (H'13 : Heap) =>
 ∃ (x9 : Int),
 v15 = Value.int IntKind.i64 x9 ∧
 ((x9 == (0 : Int)) = true →
 ∃ (a5 : Addr), r = some a5 ∧ ∃ (v16 : Option Addr), At H'13 (a5.add (nat_lit 1)) [Value.pointer v16] ∧ ∃ (a6 : Addr), v16 = some a6 ∧ ∃ (c2 : Array Value), ∃ (T2 : TypeId), H'13 (a6.add (nat_lit 1)).block = some (Obj.cells c2 T2) ∧ (a6.add (nat_lit 1)).spot = none ∧ (a6.add (nat_lit 1)).off + [Value.int IntKind.i64 oA].length ≤ c2.size ∧ ∀ (H17 : Heap), H17 = H'13.upd (a6.add (nat_lit 1)).block (Obj.cells (splice c2 (a6.add (nat_lit 1)).off [Value.int IntKind.i64 oA]) T2) → K (Value.tuple #[]) H17) ∧
 ((x9 == (0 : Int)) = false → K (Value.tuple #[]) H'13)) ∧
 ((oCode == (14 : Int)) = false →
 ((oCode == (15 : Int)) = true →
 ∃ (a7 : Addr),
 r = some a7 ∧
 ∃ (v17 : Option Addr),
 At H1 (a7.add (nat_lit 0)) [Value.pointer v17] ∧
 ∃ (a8 : Addr), v17 = some a8 ∧ ((0 : Int) ≤ oA ∧ oA < (↑(16 : Nat) : Int)) ∧ ∃ (x10 : Int), At H1 (((a8.add (nat_lit 2)).add (nat_lit 0)).add (oA.toNat * nat_lit 1)) [Value.int IntKind.i64 x10] ∧ ∀ (b5 : Nat), H1 b5 = none → ∀ (H18 : Heap), H18 = H1.upd b5 (Obj.cells #[Value.int IntKind.i64 x10] (2 : Nat)) → Tr Try.prog (72 : Nat) #[Value.pointer r, Value.slice (some ({ block := b5, off := (0 : Nat) } : Addr)) (1 : Nat) (1 : Nat)] H18 fun (v18 : Value) (H'14 : Heap) => v18 = Value.tuple #[] ∧ K (Value.tuple #[]) H'14) ∧
 ((oCode == (15 : Int)) = false →
 ((oCode == (17 : Int)) = true →
 ∃ (a9 : Addr),
 r = some a9 ∧ ∃ (v19 : Option Addr), At H1 (a9.add (nat_lit 1)) [Value.pointer v19] ∧ ∃ (a10 : Addr), v19 = some a10 ∧ ∃ (x11 : Int), At H1 (a10.add (nat_lit 4)) [Value.int IntKind.i64 x11] ∧ ∀ (b6 : Nat), H1 b6 = none → ∀ (H19 : Heap), H19 = H1.upd b6 (Obj.cells #[Value.int IntKind.i64 x11] (2 : Nat)) → Tr Try.prog (72 : Nat) #[Value.pointer r, Value.slice (some ({ block := b6, off := (0 : Nat) } : Addr)) (1 : Nat) (1 : Nat)] H19 fun (v20 : Value) (H'15 : Heap) => v20 = Value.tuple #[] ∧ K (Value.tuple #[]) H'15) ∧
 ((oCode == (17 : Int)) = false →
 ((oCode == (18 : Int)) = true →
 ∃ (a11 : Addr),
 r = some a11 ∧
 ∃ (v21 : Option Addr),
 At H1 (a11.add (nat_lit 0)) [Value.pointer v21] ∧ ∃ (a12 : Addr), v21 = some a12 ∧ ∃ (x12 : Int), At H1 ((a12.add (nat_lit 2)).add (nat_lit 20)) [Value.int IntKind.i64 x12] ∧ ∀ (b7 : Nat), H1 b7 = none → ∀ (H110 : Heap), H110 = H1.upd b7 (Obj.cells #[Value.int IntKind.i64 x12] (2 : Nat)) → Tr Try.prog (72 : Nat) #[Value.pointer r, Value.slice (some ({ block := b7, off := (0 : Nat) } : Addr)) (1 : Nat) (1 : Nat)] H110 fun (v22 : Value) (H'16 : Heap) => v22 = Value.tuple #[] ∧ K (Value.tuple #[]) H'16) ∧
 ((oCode == (18 : Int)) = false →
 ((oCode == (26 : Int)) = true →
 ∃ (a13 : Addr),
 r = some a13 ∧
 ∃ (v23 : Option Addr),
 At H1 (a13.add (nat_lit 0)) [Value.pointer v23] ∧
 ∃ (a14 : Addr),
 v23 = some a14 ∧
 ∃ (A : Option Addr),
 ∃ (n : Nat),
 ∃ (c3 : Nat),
 At H1 ((a14.add (nat_lit 2)).add (nat_lit 24)) [Value.slice A n c3] ∧
 ∃ (a15 : Addr),
 (A = some a15 ∧ (0 : Int) ≤ oA ∧ oA < (↑n : Int)) ∧
 ∃ (A1 : Option Addr), ∃ (n1 : Nat), ∃ (c4 : Nat), At H1 (a15.add (oA.toNat * nat_lit 1)) [Value.slice A1 n1 c4] ∧ ∀ (b8 : Nat), H1 b8 = none → ∀ (H111 : Heap), H111 = H1.upd b8 (Obj.cells #[Value.int IntKind.i64 (↑n1 : Int)] (2 : Nat)) → Tr Try.prog (72 : Nat) #[Value.pointer r, Value.slice (some ({ block := b8, off := (0 : Nat) } : Addr)) (1 : Nat) (1 : Nat)] H111 fun (v24 : Value) (H'17 : Heap) => v24 = Value.tuple #[] ∧ K (Value.tuple #[]) H'17) ∧
 ((oCode == (26 : Int)) = false →
 Tr Try.prog (52 : Nat) #[Value.pointer r] H1 fun (v25 : Value) (H'18 : Heap) =>
 ∃ (x13 : Int),
 v25 = Value.int IntKind.i64 x13 ∧
 Tr Try.prog (52 : Nat) #[Value.pointer r] H'18 fun (v26 : Value) (H'19 : Heap) =>
 ∃ (x14 : Int),
 v26 = Value.int IntKind.i64 x14 ∧
 ∃ (x15 : Int),
 (Tr Try.prog (74 : Nat) #[Value.int IntKind.i64 oCode, Value.int IntKind.i64 x14, Value.int IntKind.i64 x13] H'19 fun (v27 : Value) (H'20 : Heap) => v27 = Value.int IntKind.i64 x15 ∧ Ax.Sub H'19 H'20) ∧
 ∀ (b9 : Nat), H'19 b9 = none → ∀ (H112 : Heap), H112 = H'19.upd b9 (Obj.cells #[Value.int IntKind.i64 x15] (2 : Nat)) → Tr Try.prog (72 : Nat) #[Value.pointer r, Value.slice (some ({ block := b9, off := (0 : Nat) } : Addr)) (1 : Nat) (1 : Nat)] H112 fun (v28 : Value) (H'21 : Heap) => v28 = Value.tuple #[] ∧ K (Value.tuple #[]) H'21))))))))))))
theorem v53 {r : Option Addr} {oCode : Int} {oA : Int} {H : Heap} {K : Value → Heap → Prop} (h : F53 r oCode oA H K) : Tr Try.prog 53 #[.pointer r, .agg #[.int .i64 oCode, .int .i64 oA]] H K :=
  tr_of_eq (C := c53) Try.func53 (show vcFn c53 Try.f53 [.pointer r, .agg #[.int .i64 oCode, .int .i64 oA]] H K = F53 r oCode oA H K by kernel_rfl) h
noncomputable def c71 : Cx := { P := Try.prog, res := [], pub := [5, 25], loops := [], quiet := [77], draws := [⟨5, [4, 6, 9, 11, 13], [0], true, true⟩, ⟨13, [], [], false, true⟩], asm := true }
def F71 (m : Option Addr) (i : Int) (H : Heap) (K : Value → Heap → Prop) : Prop :=
 ∃ (a : Addr),
 m = some a ∧
 ∃ (A : Option Addr),
 ∃ (n : Nat),
 ∃ (c : Nat),
 At H ((a.add (nat_lit 2)).add (nat_lit 21)) [Value.slice A n c] ∧
 ∃ (a1 : Addr),
 (A = some a1 ∧ (0 : Int) ≤ i ∧ i < (↑n : Int)) ∧
 ∃ (x : Int),
 ∃ (x1 : Int),
 ∃ (x2 : Int),
 ∃ (A1 : Option Addr),
 ∃ (n1 : Nat),
 ∃ (c1 : Nat),
 ∃ (x3 : Int),
 ∃ (x4 : Int),
 ∃ (x5 : Int),
 ∃ (x6 : Int),
 ∃ (x7 : Int),
 At H (a1.add (i.toNat * nat_lit 9)) [Value.int IntKind.i64 x, Value.int IntKind.i64 x1, Value.int IntKind.i64 x2, Value.slice A1 n1 c1, Value.int IntKind.i64 x3, Value.int IntKind.i64 x4, Value.int IntKind.i64 x5, Value.int IntKind.i64 x6, Value.int IntKind.i64 x7] ∧
 ∀ (b : Nat),
 H b = none →
 ∀ (H1 : Heap),
 H1 = H.upd b (Obj.cells #[Value.int IntKind.i64 (0 : Int), Value.int IntKind.i64 (0 : Int), Value.int IntKind.i64 (0 : Int), Value.slice none (0 : Nat) (0 : Nat), Value.int IntKind.i64 (0 : Int), Value.int IntKind.i64 (0 : Int), Value.int IntKind.i64 (0 : Int), Value.int IntKind.i64 (0 : Int), Value.int IntKind.i64 (0 : Int)] (60 : Nat)) →
 ∃ (c2 : Array Value),
 ∃ (T : TypeId),
 H1 ({ block := b, off := (0 : Nat) } : Addr).block = some (Obj.cells c2 T) ∧
 ({ block := b, off := (0 : Nat) } : Addr).spot = none ∧
 ({ block := b, off := (0 : Nat) } : Addr).off + [Value.int IntKind.i64 x, Value.int IntKind.i64 x1, Value.int IntKind.i64 x2, Value.slice A1 n1 c1, Value.int IntKind.i64 x3, Value.int IntKind.i64 x4, Value.int IntKind.i64 x5, Value.int IntKind.i64 x6, Value.int IntKind.i64 x7].length ≤ c2.size ∧
 ∀ (H11 : Heap),
 H11 = H1.upd ({ block := b, off := (0 : Nat) } : Addr).block (Obj.cells (splice c2 ({ block := b, off := (0 : Nat) } : Addr).off [Value.int IntKind.i64 x, Value.int IntKind.i64 x1, Value.int IntKind.i64 x2, Value.slice A1 n1 c1, Value.int IntKind.i64 x3, Value.int IntKind.i64 x4, Value.int IntKind.i64 x5, Value.int IntKind.i64 x6, Value.int IntKind.i64 x7]) T) →
 ∃ (A2 : Option Addr),
 ∃ (n2 : Nat),
 ∃ (c3 : Nat),
 At H11 (({ block := b, off := (0 : Nat) } : Addr).add (nat_lit 3)) [Value.slice A2 n2 c3] ∧
 appS (2 : Nat) (nat_lit 1) (nat_lit 8) H11 none (0 : Nat) (0 : Nat) A2 n2 fun (A' : Option Addr) (n' c' : Nat) (H' : Heap) =>
 ∃ (c4 : Array Value),
 ∃ (T1 : TypeId),
 H' (({ block := b, off := (0 : Nat) } : Addr).add (nat_lit 3)).block = some (Obj.cells c4 T1) ∧
 (({ block := b, off := (0 : Nat) } : Addr).add (nat_lit 3)).spot = none ∧
 (({ block := b, off := (0 : Nat) } : Addr).add (nat_lit 3)).off + [Value.slice A' n' c'].length ≤ c4.size ∧
 ∀ (H12 : Heap),
 H12 = H'.upd (({ block := b, off := (0 : Nat) } : Addr).add (nat_lit 3)).block (Obj.cells (splice c4 (({ block := b, off := (0 : Nat) } : Addr).add (nat_lit 3)).off [Value.slice A' n' c']) T1) →
 ∃ (c5 : Array Value),
 ∃ (T2 : TypeId),
 H12 (({ block := b, off := (0 : Nat) } : Addr).add (nat_lit 7)).block = some (Obj.cells c5 T2) ∧
 (({ block := b, off := (0 : Nat) } : Addr).add (nat_lit 7)).spot = none ∧
 (({ block := b, off := (0 : Nat) } : Addr).add (nat_lit 7)).off + [Value.int IntKind.i64 (-1 : Int)].length ≤ c5.size ∧
 ∀ (H13 : Heap),
 H13 = H12.upd (({ block := b, off := (0 : Nat) } : Addr).add (nat_lit 7)).block (Obj.cells (splice c5 (({ block := b, off := (0 : Nat) } : Addr).add (nat_lit 7)).off [Value.int IntKind.i64 (-1 : Int)]) T2) →
 ∃ (c6 : Array Value),
 ∃ (T3 : TypeId),
 H13 (({ block := b, off := (0 : Nat) } : Addr).add (nat_lit 8)).block = some (Obj.cells c6 T3) ∧
 (({ block := b, off := (0 : Nat) } : Addr).add (nat_lit 8)).spot = none ∧
 (({ block := b, off := (0 : Nat) } : Addr).add (nat_lit 8)).off + [Value.int IntKind.i64 (-1 : Int)].length ≤ c6.size ∧
 ∀ (H14 : Heap),
 H14 = H13.upd (({ block := b, off := (0 : Nat) } : Addr).add (nat_lit 8)).block (Obj.cells (splice c6 (({ block := b, off := (0 : Nat) } : Addr).add (nat_lit 8)).off [Value.int IntKind.i64 (-1 : Int)]) T3) →
 ∀ (b1 : Nat),
 H14 b1 = none →
 ∀ (H15 : Heap),
 H15 = H14.upd b1 (Obj.cells #[Value.pointer m, Value.pointer (some ({ block := b, off := (0 : Nat) } : Addr)), Value.bool false] (131 : Nat)) →
 ∃ (Hs : Heap),
 Ax.Sub Hs H15 ∧
 ∃ (a2 : Addr),
 m = some a2 ∧
 ∃ (A3 : Option Addr),
 ∃ (n3 : Nat),
 ∃ (c7 : Nat),
 At Hs ((a2.add (nat_lit 0)).add (nat_lit 0)) [Value.slice A3 n3 c7] ∧
 ∃ (x8 : Int),
 At Hs (({ block := b, off := (0 : Nat) } : Addr).add (nat_lit 0)) [Value.int IntKind.i64 x8] ∧
 ∃ (a3 : Addr),
 (A3 = some a3 ∧ (0 : Int) ≤ x8 ∧ x8 < (↑n3 : Int)) ∧
 ∃ (A4 : Option Addr),
 ∃ (n4 : Nat),
 ∃ (c8 : Nat),
 At Hs ((a3.add (x8.toNat * nat_lit 3)).add (nat_lit 2)) [Value.slice A4 n4 c8] ∧
 ∃ (x9 : Int),
 At Hs (({ block := b, off := (0 : Nat) } : Addr).add (nat_lit 1)) [Value.int IntKind.i64 x9] ∧
 ∃ (a4 : Addr),
 (A4 = some a4 ∧ (0 : Int) ≤ x9 ∧ x9 < (↑n4 : Int)) ∧
 ∃ (x10 : Int),
 ∃ (x11 : Int),
 At Hs (a4.add (x9.toNat * nat_lit 2)) [Value.int IntKind.i64 x10, Value.int IntKind.i64 x11] ∧
 Ax.Sub Hs H15 ∧
 Ax.Sub Hs H15 ∧
 ∃ (b2 : Bool),
 (Tr Try.prog (77 : Nat) #[Value.int IntKind.i64 x10] H15 fun (v : Value) (H'1 : Heap) => v = Value.bool b2 ∧ Ax.Sub H15 H'1) ∧
 ((b2 && x10 != (36 : Int) && x10 != (37 : Int)) = true →
 Tr Try.prog (53 : Nat) #[Value.pointer (some ({ block := b1, off := (0 : Nat) } : Addr)), Value.agg #[Value.int IntKind.i64 x10, Value.int IntKind.i64 x11]] H15 fun (v1 : Value) (H'2 : Heap) =>
 v1 = Value.tuple #[] ∧
 ∃ (a5 : Addr),
 some ({ block := b1, off := (0 : Nat) } : Addr) = some a5 ∧
 ∃ (b3 : Bool),
 At H'2 (a5.add (nat_lit 2)) [Value.bool b3] ∧
 (b3 = true → Tr Try.prog (70 : Nat) #[Value.pointer m, Value.int IntKind.i64 (-2 : Int)] H'2 fun (v2 : Value) (H'3 : Heap) => v2 = Value.tuple #[] ∧ K (Value.int IntKind.i64 (1 : Int)) H'3) ∧
 (b3 = false →
 ∃ (a6 : Addr),
 m = some a6 ∧
 (∃ (A5 : Option Addr),
 ∃ (n5 : Nat),
 ∃ (c9 : Nat),
 At H'2 ((a6.add (nat_lit 2)).add (nat_lit 21)) [Value.slice A5 n5 c9] ∧
 ∃ (x12 : Int),
 ∃ (x13 : Int),
 ∃ (x14 : Int),
 ∃ (A6 : Option Addr),
 ∃ (n6 : Nat),
 ∃ (c10 : Nat),
 ∃ (x15 : Int),
 ∃ (x16 : Int),
 ∃ (x17 : Int),
 ∃ (x18 : Int),
 ∃ (x19 : Int),
 At H'2 ({ block := b, off := (0 : Nat) } : Addr) [Value.int IntKind.i64 x12, Value.int IntKind.i64 x13, Value.int IntKind.i64 x14, Value.slice A6 n6 c10, Value.int IntKind.i64 x15, Value.int IntKind.i64 x16, Value.int IntKind.i64 x17, Value.int IntKind.i64 x18, Value.int IntKind.i64 x19] ∧
 ∃ (a7 : Addr),
 (A5 = some a7 ∧ (0 : Int) ≤ i ∧ i < (↑n5 : Int)) ∧
 ∃ (c11 : Array Value),
 ∃ (T4 : TypeId),
 H'2 (a7.add (i.toNat * nat_lit 9)).block = some (Obj.cells c11 T4) ∧
 (a7.add (i.toNat * nat_lit 9)).spot = none ∧
 (a7.add (i.toNat * nat_lit 9)).off + [Value.int IntKind.i64 x12, Value.int IntKind.i64 x13, Value.int IntKind.i64 x14, Value.slice A6 n6 c10, Value.int IntKind.i64 x15, Value.int IntKind.i64 x16, Value.int IntKind.i64 x17, Value.int IntKind.i64 x18, Value.int IntKind.i64 x19].length ≤ c11.size ∧
 ∀ (H16 : Heap),
 H16 =
 H'2.upd (a7.add (i.toNat * nat_lit 9)).block
 (Obj.cells (splice c11 (a7.add (i.toNat * nat_lit 9)).off [Value.int IntKind.i64 x12, Value.int IntKind.i64 x13, Value.int IntKind.i64 x14, Value.slice A6 n6 c10, Value.int IntKind.i64 x15, Value.int IntKind.i64 x16, Value.int IntKind.i64 x17, Value.int IntKind.i64 x18, Value.int IntKind.i64 x19]) T4) →
 K (Value.int IntKind.i64 (0 : Int)) H16) ∧
 ∃ (x20 : Int),
 ∃ (x21 : Int),
 ∃ (x22 : Int),
 ∃ (A7 : Option Addr),
 ∃ (n7 : Nat),
 ∃ (c12 : Nat),
 ∃ (x23 : Int),
 ∃ (x24 : Int),
 ∃ (x25 : Int),
 ∃ (x26 : Int),
 ∃ (x27 : Int),
 At H'2 ({ block := b, off := (0 : Nat) } : Addr) [Value.int IntKind.i64 x20, Value.int IntKind.i64 x21, Value.int IntKind.i64 x22, Value.slice A7 n7 c12, Value.int IntKind.i64 x23, Value.int IntKind.i64 x24, Value.int IntKind.i64 x25, Value.int IntKind.i64 x26, Value.int IntKind.i64 x27] ∧
 ∃ (A8 : Option Addr),
 ∃ (n8 : Nat),
 ∃ (c13 : Nat),
 At H'2 ((a6.add (nat_lit 2)).add (nat_lit 21)) [Value.slice A8 n8 c13] ∧
 ∃ (a8 : Addr),
 (A8 = some a8 ∧ (0 : Int) ≤ i ∧ i < (↑n8 : Int)) ∧
 ∃ (c14 : Array Value),
 ∃ (T5 : TypeId),
 H'2 (a8.add (i.toNat * nat_lit 9)).block = some (Obj.cells c14 T5) ∧
 (a8.add (i.toNat * nat_lit 9)).spot = none ∧
 (a8.add (i.toNat * nat_lit 9)).off + [Value.int IntKind.i64 x20, Value.int IntKind.i64 x21, Value.int IntKind.i64 x22, Value.slice A7 n7 c12, Value.int IntKind.i64 x23, Value.int IntKind.i64 x24, Value.int IntKind.i64 x25, Value.int IntKind.i64 x26, Value.int IntKind.i64 x27].length ≤ c14.size ∧
 ∀ (H17 : Heap),
 H17 =
 H'2.upd (a8.add (i.toNat * nat_lit 9)).block
 (Obj.cells (splice c14 (a8.add (i.toNat * nat_lit 9)).off [Value.int IntKind.i64 x20, Value.int IntKind.i64 x21, Value.int IntKind.i64 x22, Value.slice A7 n7 c12, Value.int IntKind.i64 x23, Value.int IntKind.i64 x24, Value.int IntKind.i64 x25, Value.int IntKind.i64 x26, Value.int IntKind.i64 x27]) T5) →
 K (Value.int IntKind.i64 (0 : Int)) H17)) ∧
 ((b2 && x10 != (36 : Int) && x10 != (37 : Int)) = false →
 Tr Try.prog (80 : Nat) #[Value.pointer (some ({ block := b1, off := (0 : Nat) } : Addr)), Value.agg #[Value.int IntKind.i64 x10, Value.int IntKind.i64 x11]] H15 fun (v3 : Value) (H'4 : Heap) =>
 ∃ (x28 : Int),
 v3 = Value.int IntKind.i64 x28 ∧
 ∃ (a9 : Addr),
 some ({ block := b1, off := (0 : Nat) } : Addr) = some a9 ∧
 ∃ (b4 : Bool),
 At H'4 (a9.add (nat_lit 2)) [Value.bool b4] ∧
 (b4 = true → Tr Try.prog (70 : Nat) #[Value.pointer m, Value.int IntKind.i64 (-2 : Int)] H'4 fun (v4 : Value) (H'5 : Heap) => v4 = Value.tuple #[] ∧ K (Value.int IntKind.i64 (1 : Int)) H'5) ∧
 (b4 = false →
 ∃ (a10 : Addr),
 m = some a10 ∧
 (∃ (A9 : Option Addr),
 ∃ (n9 : Nat),
 ∃ (c15 : Nat),
 At H'4 ((a10.add (nat_lit 2)).add (nat_lit 21)) [Value.slice A9 n9 c15] ∧
 ∃ (x29 : Int),
 ∃ (x30 : Int),
 ∃ (x31 : Int),
 ∃ (A10 : Option Addr),
 ∃ (n10 : Nat),
 ∃ (c16 : Nat),
 ∃ (x32 : Int),
 ∃ (x33 : Int),
 ∃ (x34 : Int),
 ∃ (x35 : Int),
 ∃ (x36 : Int),
 At H'4 ({ block := b, off := (0 : Nat) } : Addr) [Value.int IntKind.i64 x29, Value.int IntKind.i64 x30, Value.int IntKind.i64 x31, Value.slice A10 n10 c16, Value.int IntKind.i64 x32, Value.int IntKind.i64 x33, Value.int IntKind.i64 x34, Value.int IntKind.i64 x35, Value.int IntKind.i64 x36] ∧
 ∃ (a11 : Addr),
 (A9 = some a11 ∧ (0 : Int) ≤ i ∧ i < (↑n9 : Int)) ∧
 ∃ (c17 : Array Value),
 ∃ (T6 : TypeId),
 H'4 (a11.add (i.toNat * nat_lit 9)).block = some (Obj.cells c17 T6) ∧
 (a11.add (i.toNat * nat_lit 9)).spot = none ∧
 (a11.add (i.toNat * nat_lit 9)).off + [Value.int IntKind.i64 x29, Value.int IntKind.i64 x30, Value.int IntKind.i64 x31, Value.slice A10 n10 c16, Value.int IntKind.i64 x32, Value.int IntKind.i64 x33, Value.int IntKind.i64 x34, Value.int IntKind.i64 x35, Value.int IntKind.i64 x36].length ≤ c17.size ∧
 ∀ (H18 : Heap),
 H18 =
 H'4.upd (a11.add (i.toNat * nat_lit 9)).block
 (Obj.cells (splice c17 (a11.add (i.toNat * nat_lit 9)).off [Value.int IntKind.i64 x29, Value.int IntKind.i64 x30, Value.int IntKind.i64 x31, Value.slice A10 n10 c16, Value.int IntKind.i64 x32, Value.int IntKind.i64 x33, Value.int IntKind.i64 x34, Value.int IntKind.i64 x35, Value.int IntKind.i64 x36]) T6) →
 K (Value.int IntKind.i64 x28) H18) ∧
 ∃ (x37 : Int),
 ∃ (x38 : Int),
 ∃ (x39 : Int),
 ∃ (A11 : Option Addr),
 ∃ (n11 : Nat),
 ∃ (c18 : Nat),
 ∃ (x40 : Int),
 ∃ (x41 : Int),
 ∃ (x42 : Int),
 ∃ (x43 : Int),
 ∃ (x44 : Int),
 At H'4 ({ block := b, off := (0 : Nat) } : Addr) [Value.int IntKind.i64 x37, Value.int IntKind.i64 x38, Value.int IntKind.i64 x39, Value.slice A11 n11 c18, Value.int IntKind.i64 x40, Value.int IntKind.i64 x41, Value.int IntKind.i64 x42, Value.int IntKind.i64 x43, Value.int IntKind.i64 x44] ∧
 ∃ (A12 : Option Addr),
 ∃ (n12 : Nat),
 ∃ (c19 : Nat),
 At H'4 ((a10.add (nat_lit 2)).add (nat_lit 21)) [Value.slice A12 n12 c19] ∧
 ∃ (a12 : Addr),
 (A12 = some a12 ∧ (0 : Int) ≤ i ∧ i < (↑n12 : Int)) ∧
 ∃ (c20 : Array Value),
 ∃ (T7 : TypeId),
 H'4 (a12.add (i.toNat * nat_lit 9)).block = some (Obj.cells c20 T7) ∧
 (a12.add (i.toNat * nat_lit 9)).spot = none ∧
 (a12.add (i.toNat * nat_lit 9)).off + [Value.int IntKind.i64 x37, Value.int IntKind.i64 x38, Value.int IntKind.i64 x39, Value.slice A11 n11 c18, Value.int IntKind.i64 x40, Value.int IntKind.i64 x41, Value.int IntKind.i64 x42, Value.int IntKind.i64 x43, Value.int IntKind.i64 x44].length ≤ c20.size ∧
 ∀ (H19 : Heap),
 H19 =
 H'4.upd (a12.add (i.toNat * nat_lit 9)).block
 (Obj.cells (splice c20 (a12.add (i.toNat * nat_lit 9)).off [Value.int IntKind.i64 x37, Value.int IntKind.i64 x38, Value.int IntKind.i64 x39, Value.slice A11 n11 c18, Value.int IntKind.i64 x40, Value.int IntKind.i64 x41, Value.int IntKind.i64 x42, Value.int IntKind.i64 x43, Value.int IntKind.i64 x44]) T7) →
 K (Value.int IntKind.i64 x28) H19))
theorem v71 {m : Option Addr} {i : Int} {H : Heap} {K : Value → Heap → Prop} (h : F71 m i H K) : Tr Try.prog 71 #[.pointer m, .int .i64 i] H K :=
  tr_of_eq (C := c71) Try.func71 (show vcFn c71 Try.f71 [.pointer m, .int .i64 i] H K = F71 m i H K by kernel_rfl) h
noncomputable def c80 : Cx := { P := Try.prog, res := [], pub := [48], loops := [], quiet := [], draws := [⟨10, [5], [], false, true⟩, ⟨14, [6], [], false, true⟩], asm := true }
def F80 (r : Option Addr) (oCode : Int) (oA : Int) (H : Heap) (K : Value → Heap → Prop) : Prop :=
 ∃ (a : Addr),
 r = some a ∧
 ∃ (v : Option Addr),
 At H (a.add (nat_lit 0)) [Value.pointer v] ∧
 ((oCode == (23 : Int)) = true → Tr Try.prog (84 : Nat) #[Value.pointer r, Value.agg #[Value.int IntKind.i64 oCode, Value.int IntKind.i64 oA]] H fun (v1 : Value) (H' : Heap) => ∃ (x : Int), v1 = Value.int IntKind.i64 x ∧ K (Value.int IntKind.i64 x) H') ∧
 ((oCode == (23 : Int)) = false →
 ((oCode == (24 : Int)) = true → Tr Try.prog (84 : Nat) #[Value.pointer r, Value.agg #[Value.int IntKind.i64 oCode, Value.int IntKind.i64 oA]] H fun (v2 : Value) (H'1 : Heap) => ∃ (x1 : Int), v2 = Value.int IntKind.i64 x1 ∧ K (Value.int IntKind.i64 x1) H'1) ∧
 ((oCode == (24 : Int)) = false →
 ((oCode == (25 : Int)) = true →
 ∃ (a1 : Addr),
 v = some a1 ∧
 ∃ (A : Option Addr),
 ∃ (n : Nat),
 ∃ (c : Nat),
 At H ((a1.add (nat_lit 2)).add (nat_lit 24)) [Value.slice A n c] ∧
 ∃ (a2 : Addr),
 (A = some a2 ∧ (0 : Int) ≤ oA ∧ oA < (↑n : Int)) ∧
 ∃ (A1 : Option Addr),
 ∃ (n1 : Nat),
 ∃ (c1 : Nat),
 At H (a2.add (oA.toNat * nat_lit 1)) [Value.slice A1 n1 c1] ∧
 (((↑n1 : Int) == (0 : Int)) = true → ∃ (a3 : Addr), r = some a3 ∧ ∃ (v3 : Option Addr), At H (a3.add (nat_lit 1)) [Value.pointer v3] ∧ ∃ (a4 : Addr), v3 = some a4 ∧ ∃ (c2 : Array Value), ∃ (T : TypeId), H (a4.add (nat_lit 8)).block = some (Obj.cells c2 T) ∧ (a4.add (nat_lit 8)).spot = none ∧ (a4.add (nat_lit 8)).off + [Value.int IntKind.i64 oA].length ≤ c2.size ∧ ∀ (H1 : Heap), H1 = H.upd (a4.add (nat_lit 8)).block (Obj.cells (splice c2 (a4.add (nat_lit 8)).off [Value.int IntKind.i64 oA]) T) → K (Value.int IntKind.i64 (1 : Int)) H1) ∧
 (((↑n1 : Int) == (0 : Int)) = false →
 ∃ (a5 : Addr),
 (A1 = some a5 ∧ (0 : Int) ≤ (0 : Int) ∧ (0 : Int) < (↑n1 : Int)) ∧
 ∃ (x2 : Int),
 At H (a5.add (Int.toNat (0 : Int) * nat_lit 1)) [Value.int IntKind.i64 x2] ∧
 ∀ (b : Nat),
 H b = none →
 ∀ (H11 : Heap),
 H11 = H.upd b (Obj.cells #[Value.int IntKind.i64 x2] (2 : Nat)) →
 Tr Try.prog (72 : Nat) #[Value.pointer r, Value.slice (some ({ block := b, off := (0 : Nat) } : Addr)) (1 : Nat) (1 : Nat)] H11 fun (v4 : Value) (H'2 : Heap) =>
 v4 = Value.tuple #[] ∧
 ∃ (a6 : Addr),
 r = some a6 ∧
 ∃ (b1 : Bool),
 At H'2 (a6.add (nat_lit 2)) [Value.bool b1] ∧
 ((!b1) = true →
 ∃ (a7 : Addr),
 v = some a7 ∧
 ((0 : Int) ≤ (1 : Int) ∧ (1 : Int) ≤ (↑n1 : Int)) ∧
 ∃ (A2 : Option Addr),
 ∃ (n2 : Nat),
 ∃ (c3 : Nat),
 At H'2 ((a7.add (nat_lit 2)).add (nat_lit 24)) [Value.slice A2 n2 c3] ∧
 ∃ (a8 : Addr),
 (A2 = some a8 ∧ (0 : Int) ≤ oA ∧ oA < (↑n2 : Int)) ∧
 ∃ (c4 : Array Value),
 ∃ (T1 : TypeId),
 H'2 (a8.add (oA.toNat * nat_lit 1)).block = some (Obj.cells c4 T1) ∧
 (a8.add (oA.toNat * nat_lit 1)).spot = none ∧
 (a8.add (oA.toNat * nat_lit 1)).off + [Value.slice (if c1 = Int.toNat (1 : Int) then A1 else Option.map (fun (x : Addr) => x.add (Int.toNat (1 : Int) * nat_lit 1)) A1) (n1 - Int.toNat (1 : Int)) (c1 - Int.toNat (1 : Int))].length ≤ c4.size ∧
 ∀ (H12 : Heap),
 H12 = H'2.upd (a8.add (oA.toNat * nat_lit 1)).block (Obj.cells (splice c4 (a8.add (oA.toNat * nat_lit 1)).off [Value.slice (if c1 = Int.toNat (1 : Int) then A1 else Option.map (fun (x : Addr) => x.add (Int.toNat (1 : Int) * nat_lit 1)) A1) (n1 - Int.toNat (1 : Int)) (c1 - Int.toNat (1 : Int))]) T1) →
 ∃ (a9 : Addr),
 r = some a9 ∧
 ∃ (v5 : Option Addr),
 At H12 (a9.add (nat_lit 1)) [Value.pointer v5] ∧
 ∃ (a10 : Addr),
 v5 = some a10 ∧
 ∃ (x3 : Int),
 At H12 (a10.add (nat_lit 1)) [Value.int IntKind.i64 x3] ∧
 ∃ (a11 : Addr),
 v5 = some a11 ∧
 ∃ (c5 : Array Value), ∃ (T2 : TypeId), H12 (a11.add (nat_lit 1)).block = some (Obj.cells c5 T2) ∧ (a11.add (nat_lit 1)).spot = none ∧ (a11.add (nat_lit 1)).off + [Value.int IntKind.i64 (IntKind.i64.wrap (x3 + (1 : Int)))].length ≤ c5.size ∧ ∀ (H13 : Heap), H13 = H12.upd (a11.add (nat_lit 1)).block (Obj.cells (splice c5 (a11.add (nat_lit 1)).off [Value.int IntKind.i64 (IntKind.i64.wrap (x3 + (1 : Int)))]) T2) → K (Value.int IntKind.i64 (0 : Int)) H13) ∧
 ((!b1) = false →
 ∃ (a12 : Addr),
 r = some a12 ∧
 ∃ (v6 : Option Addr),
 At H'2 (a12.add (nat_lit 1)) [Value.pointer v6] ∧
 ∃ (a13 : Addr),
 v6 = some a13 ∧
 ∃ (x4 : Int),
 At H'2 (a13.add (nat_lit 1)) [Value.int IntKind.i64 x4] ∧
 ∃ (a14 : Addr), v6 = some a14 ∧ ∃ (c6 : Array Value), ∃ (T3 : TypeId), H'2 (a14.add (nat_lit 1)).block = some (Obj.cells c6 T3) ∧ (a14.add (nat_lit 1)).spot = none ∧ (a14.add (nat_lit 1)).off + [Value.int IntKind.i64 (IntKind.i64.wrap (x4 + (1 : Int)))].length ≤ c6.size ∧ ∀ (H14 : Heap), H14 = H'2.upd (a14.add (nat_lit 1)).block (Obj.cells (splice c6 (a14.add (nat_lit 1)).off [Value.int IntKind.i64 (IntKind.i64.wrap (x4 + (1 : Int)))]) T3) → K (Value.int IntKind.i64 (0 : Int)) H14))) ∧
 ((oCode == (25 : Int)) = false →
 ((oCode == (36 : Int)) = true → Tr Try.prog (85 : Nat) #[Value.pointer r, Value.agg #[Value.int IntKind.i64 oCode, Value.int IntKind.i64 oA]] H fun (v7 : Value) (H'3 : Heap) => ∃ (x5 : Int), v7 = Value.int IntKind.i64 x5 ∧ K (Value.int IntKind.i64 x5) H'3) ∧
 ((oCode == (36 : Int)) = false →
 ((oCode == (37 : Int)) = true → Tr Try.prog (85 : Nat) #[Value.pointer r, Value.agg #[Value.int IntKind.i64 oCode, Value.int IntKind.i64 oA]] H fun (v8 : Value) (H'4 : Heap) => ∃ (x6 : Int), v8 = Value.int IntKind.i64 x6 ∧ K (Value.int IntKind.i64 x6) H'4) ∧
 ((oCode == (37 : Int)) = false →
 ((oCode == (35 : Int)) = true → Tr Try.prog (85 : Nat) #[Value.pointer r, Value.agg #[Value.int IntKind.i64 oCode, Value.int IntKind.i64 oA]] H fun (v9 : Value) (H'5 : Heap) => ∃ (x7 : Int), v9 = Value.int IntKind.i64 x7 ∧ K (Value.int IntKind.i64 x7) H'5) ∧
 ((oCode == (35 : Int)) = false →
 ((oCode == (28 : Int)) = true →
 ∃ (a15 : Addr),
 r = some a15 ∧
 ∃ (v10 : Option Addr),
 At H (a15.add (nat_lit 1)) [Value.pointer v10] ∧
 ∃ (a16 : Addr),
 v10 = some a16 ∧
 ∃ (x8 : Int),
 At H (a16.add (nat_lit 1)) [Value.int IntKind.i64 x8] ∧ ∃ (a17 : Addr), v10 = some a17 ∧ ∃ (c7 : Array Value), ∃ (T4 : TypeId), H (a17.add (nat_lit 1)).block = some (Obj.cells c7 T4) ∧ (a17.add (nat_lit 1)).spot = none ∧ (a17.add (nat_lit 1)).off + [Value.int IntKind.i64 (IntKind.i64.wrap (x8 + (1 : Int)))].length ≤ c7.size ∧ ∀ (H15 : Heap), H15 = H.upd (a17.add (nat_lit 1)).block (Obj.cells (splice c7 (a17.add (nat_lit 1)).off [Value.int IntKind.i64 (IntKind.i64.wrap (x8 + (1 : Int)))]) T4) → K (Value.int IntKind.i64 (1 : Int)) H15) ∧
 ((oCode == (28 : Int)) = false →
 ((oCode == (27 : Int)) = true →
 Tr Try.prog (86 : Nat) #[Value.pointer r, Value.agg #[Value.int IntKind.i64 oCode, Value.int IntKind.i64 oA]] H fun (v11 : Value) (H'6 : Heap) =>
 v11 = Value.tuple #[] ∧
 ∃ (a18 : Addr),
 r = some a18 ∧
 ∃ (v12 : Option Addr),
 At H'6 (a18.add (nat_lit 1)) [Value.pointer v12] ∧
 ∃ (a19 : Addr),
 v12 = some a19 ∧
 ∃ (x9 : Int),
 At H'6 (a19.add (nat_lit 1)) [Value.int IntKind.i64 x9] ∧
 ∃ (a20 : Addr), v12 = some a20 ∧ ∃ (c8 : Array Value), ∃ (T5 : TypeId), H'6 (a20.add (nat_lit 1)).block = some (Obj.cells c8 T5) ∧ (a20.add (nat_lit 1)).spot = none ∧ (a20.add (nat_lit 1)).off + [Value.int IntKind.i64 (IntKind.i64.wrap (x9 + (1 : Int)))].length ≤ c8.size ∧ ∀ (H16 : Heap), H16 = H'6.upd (a20.add (nat_lit 1)).block (Obj.cells (splice c8 (a20.add (nat_lit 1)).off [Value.int IntKind.i64 (IntKind.i64.wrap (x9 + (1 : Int)))]) T5) → K (Value.int IntKind.i64 (0 : Int)) H16) ∧
 ((oCode == (27 : Int)) = false →
 ((oCode == (29 : Int)) = true →
 Tr Try.prog (86 : Nat) #[Value.pointer r, Value.agg #[Value.int IntKind.i64 oCode, Value.int IntKind.i64 oA]] H fun (v13 : Value) (H'7 : Heap) =>
 v13 = Value.tuple #[] ∧
 ∃ (a21 : Addr),
 r = some a21 ∧
 ∃ (v14 : Option Addr),
 At H'7 (a21.add (nat_lit 1)) [Value.pointer v14] ∧
 ∃ (a22 : Addr),
 v14 = some a22 ∧
 ∃ (x10 : Int),
 At H'7 (a22.add (nat_lit 1)) [Value.int IntKind.i64 x10] ∧
 ∃ (a23 : Addr), v14 = some a23 ∧ ∃ (c9 : Array Value), ∃ (T6 : TypeId), H'7 (a23.add (nat_lit 1)).block = some (Obj.cells c9 T6) ∧ (a23.add (nat_lit 1)).spot = none ∧ (a23.add (nat_lit 1)).off + [Value.int IntKind.i64 (IntKind.i64.wrap (x10 + (1 : Int)))].length ≤ c9.size ∧ ∀ (H17 : Heap), H17 = H'7.upd (a23.add (nat_lit 1)).block (Obj.cells (splice c9 (a23.add (nat_lit 1)).off [Value.int IntKind.i64 (IntKind.i64.wrap (x10 + (1 : Int)))]) T6) → K (Value.int IntKind.i64 (0 : Int)) H17) ∧
 ((oCode == (29 : Int)) = false →
 ((oCode == (30 : Int)) = true →
 Tr Try.prog (86 : Nat) #[Value.pointer r, Value.agg #[Value.int IntKind.i64 oCode, Value.int IntKind.i64 oA]] H fun (v15 : Value) (H'8 : Heap) =>
 v15 = Value.tuple #[] ∧
 ∃ (a24 : Addr),
 r = some a24 ∧
 ∃ (v16 : Option Addr),
 At H'8 (a24.add (nat_lit 1)) [Value.pointer v16] ∧
 ∃ (a25 : Addr),
 v16 = some a25 ∧
 ∃ (x11 : Int),
 At H'8 (a25.add (nat_lit 1)) [Value.int IntKind.i64 x11] ∧
 ∃ (a26 : Addr), v16 = some a26 ∧ ∃ (c10 : Array Value), ∃ (T7 : TypeId), H'8 (a26.add (nat_lit 1)).block = some (Obj.cells c10 T7) ∧ (a26.add (nat_lit 1)).spot = none ∧ (a26.add (nat_lit 1)).off + [Value.int IntKind.i64 (IntKind.i64.wrap (x11 + (1 : Int)))].length ≤ c10.size ∧ ∀ (H18 : Heap), H18 = H'8.upd (a26.add (nat_lit 1)).block (Obj.cells (splice c10 (a26.add (nat_lit 1)).off [Value.int IntKind.i64 (IntKind.i64.wrap (x11 + (1 : Int)))]) T7) → K (Value.int IntKind.i64 (0 : Int)) H18) ∧
 ((oCode == (30 : Int)) = false →
 ((oCode == (31 : Int)) = true →
 Tr Try.prog (86 : Nat) #[Value.pointer r, Value.agg #[Value.int IntKind.i64 oCode, Value.int IntKind.i64 oA]] H fun (v17 : Value) (H'9 : Heap) =>
 v17 = Value.tuple #[] ∧
 ∃ (a27 : Addr),
 r = some a27 ∧
 ∃ (v18 : Option Addr),
 At H'9 (a27.add (nat_lit 1)) [Value.pointer v18] ∧
 ∃ (a28 : Addr),
 v18 = some a28 ∧
 ∃ (x12 : Int),
 At H'9 (a28.add (nat_lit 1)) [Value.int IntKind.i64 x12] ∧
 ∃ (a29 : Addr), v18 = some a29 ∧ ∃ (c11 : Array Value), ∃ (T8 : TypeId), H'9 (a29.add (nat_lit 1)).block = some (Obj.cells c11 T8) ∧ (a29.add (nat_lit 1)).spot = none ∧ (a29.add (nat_lit 1)).off + [Value.int IntKind.i64 (IntKind.i64.wrap (x12 + (1 : Int)))].length ≤ c11.size ∧ ∀ (H19 : Heap), H19 = H'9.upd (a29.add (nat_lit 1)).block (Obj.cells (splice c11 (a29.add (nat_lit 1)).off [Value.int IntKind.i64 (IntKind.i64.wrap (x12 + (1 : Int)))]) T8) → K (Value.int IntKind.i64 (0 : Int)) H19) ∧
 ((oCode == (31 : Int)) = false →
 ((oCode == (32 : Int)) = true →
 Tr Try.prog (86 : Nat) #[Value.pointer r, Value.agg #[Value.int IntKind.i64 oCode, Value.int IntKind.i64 oA]] H fun (v19 : Value) (H'10 : Heap) =>
 v19 = Value.tuple #[] ∧
 ∃ (a30 : Addr),
 r = some a30 ∧
 ∃ (v20 : Option Addr),
 At H'10 (a30.add (nat_lit 1)) [Value.pointer v20] ∧
 ∃ (a31 : Addr),
 v20 = some a31 ∧
 ∃ (x13 : Int),
 At H'10 (a31.add (nat_lit 1)) [Value.int IntKind.i64 x13] ∧
 ∃ (a32 : Addr), v20 = some a32 ∧ ∃ (c12 : Array Value), ∃ (T9 : TypeId), H'10 (a32.add (nat_lit 1)).block = some (Obj.cells c12 T9) ∧ (a32.add (nat_lit 1)).spot = none ∧ (a32.add (nat_lit 1)).off + [Value.int IntKind.i64 (IntKind.i64.wrap (x13 + (1 : Int)))].length ≤ c12.size ∧ ∀ (H110 : Heap), H110 = H'10.upd (a32.add (nat_lit 1)).block (Obj.cells (splice c12 (a32.add (nat_lit 1)).off [Value.int IntKind.i64 (IntKind.i64.wrap (x13 + (1 : Int)))]) T9) → K (Value.int IntKind.i64 (0 : Int)) H110) ∧
 ((oCode == (32 : Int)) = false →
 Tr Try.prog (87 : Nat) #[Value.pointer r, Value.agg #[Value.int IntKind.i64 oCode, Value.int IntKind.i64 oA]] H fun (v21 : Value) (H'11 : Heap) =>
 v21 = Value.tuple #[] ∧
 ∃ (a33 : Addr),
 r = some a33 ∧
 ∃ (v22 : Option Addr),
 At H'11 (a33.add (nat_lit 1)) [Value.pointer v22] ∧
 ∃ (a34 : Addr),
 v22 = some a34 ∧
 ∃ (x14 : Int),
 At H'11 (a34.add (nat_lit 1)) [Value.int IntKind.i64 x14] ∧
 ∃ (a35 : Addr), v22 = some a35 ∧ ∃ (c13 : Array Value), ∃ (T10 : TypeId), H'11 (a35.add (nat_lit 1)).block = some (Obj.cells c13 T10) ∧ (a35.add (nat_lit 1)).spot = none ∧ (a35.add (nat_lit 1)).off + [Value.int IntKind.i64 (IntKind.i64.wrap (x14 + (1 : Int)))].length ≤ c13.size ∧ ∀ (H111 : Heap), H111 = H'11.upd (a35.add (nat_lit 1)).block (Obj.cells (splice c13 (a35.add (nat_lit 1)).off [Value.int IntKind.i64 (IntKind.i64.wrap (x14 + (1 : Int)))]) T10) → K (Value.int IntKind.i64 (0 : Int)) H111))))))))))))
theorem v80 {r : Option Addr} {oCode : Int} {oA : Int} {H : Heap} {K : Value → Heap → Prop} (h : F80 r oCode oA H K) : Tr Try.prog 80 #[.pointer r, .agg #[.int .i64 oCode, .int .i64 oA]] H K :=
  tr_of_eq (C := c80) Try.func80 (show vcFn c80 Try.f80 [.pointer r, .agg #[.int .i64 oCode, .int .i64 oA]] H K = F80 r oCode oA H K by kernel_rfl) h
noncomputable def c84 : Cx := { P := Try.prog, res := [], pub := [46, 53], loops := [], quiet := [73], asm := true }
def F84 (r : Option Addr) (oCode : Int) (oA : Int) (H : Heap) (K : Value → Heap → Prop) : Prop :=
 Tr Try.prog (88 : Nat) #[Value.pointer r, Value.int IntKind.i64 (0 : Int)] H fun (v : Value) (H' : Heap) =>
 ∃ (x : Int),
 v = Value.int IntKind.i64 x ∧
 (decide (x < (0 : Int)) = true → K (Value.int IntKind.i64 (0 : Int)) H') ∧
 (decide (x < (0 : Int)) = false →
 ∃ (a : Addr),
 r = some a ∧
 ∃ (v1 : Option Addr),
 At H' (a.add (nat_lit 0)) [Value.pointer v1] ∧
 ∃ (a1 : Addr),
 v1 = some a1 ∧
 ∃ (A : Option Addr),
 ∃ (n : Nat),
 ∃ (c : Nat),
 At H' ((a1.add (nat_lit 2)).add (nat_lit 22)) [Value.slice A n c] ∧
 ∃ (a2 : Addr),
 (A = some a2 ∧ (0 : Int) ≤ x ∧ x < (↑n : Int)) ∧
 ∃ (x1 : Int),
 ∃ (x2 : Int),
 ∃ (x3 : Int),
 ∃ (b : Bool),
 ∃ (x4 : Int),
 ∃ (x5 : Int),
 At H' (a2.add (x.toNat * nat_lit 6)) [Value.int IntKind.i64 x1, Value.int IntKind.i64 x2, Value.int IntKind.i64 x3, Value.bool b, Value.int IntKind.i64 x4, Value.int IntKind.i64 x5] ∧
 ((oCode == (23 : Int) && !b) = true → ∃ (a3 : Addr), r = some a3 ∧ ∃ (v2 : Option Addr), At H' (a3.add (nat_lit 1)) [Value.pointer v2] ∧ ∃ (a4 : Addr), v2 = some a4 ∧ ∃ (c1 : Array Value), ∃ (T : TypeId), H' (a4.add (nat_lit 7)).block = some (Obj.cells c1 T) ∧ (a4.add (nat_lit 7)).spot = none ∧ (a4.add (nat_lit 7)).off + [Value.int IntKind.i64 x].length ≤ c1.size ∧ ∀ (H1 : Heap), H1 = H'.upd (a4.add (nat_lit 7)).block (Obj.cells (splice c1 (a4.add (nat_lit 7)).off [Value.int IntKind.i64 x]) T) → K (Value.int IntKind.i64 (1 : Int)) H1) ∧
 ((oCode == (23 : Int) && !b) = false →
 Tr Try.prog (52 : Nat) #[Value.pointer r] H' fun (v3 : Value) (H'1 : Heap) =>
 ∃ (x6 : Int),
 v3 = Value.int IntKind.i64 x6 ∧
 ((oCode == (24 : Int)) = true →
 ∃ (x7 : Int),
 (Tr Try.prog (73 : Nat) #[Value.bool b] H'1 fun (v4 : Value) (H'2 : Heap) => v4 = Value.int IntKind.i64 x7 ∧ Ax.Sub H'1 H'2) ∧
 ∀ (b1 : Nat),
 H'1 b1 = none →
 ∀ (H11 : Heap),
 H11 = H'1.upd b1 (Obj.cells #[Value.int IntKind.i64 x7] (2 : Nat)) →
 Tr Try.prog (72 : Nat) #[Value.pointer r, Value.slice (some ({ block := b1, off := (0 : Nat) } : Addr)) (1 : Nat) (1 : Nat)] H11 fun (v5 : Value) (H'3 : Heap) =>
 v5 = Value.tuple #[] ∧
 ∃ (a5 : Addr),
 r = some a5 ∧
 ∃ (v6 : Option Addr),
 At H'3 (a5.add (nat_lit 1)) [Value.pointer v6] ∧
 ∃ (a6 : Addr),
 v6 = some a6 ∧
 ∃ (x8 : Int),
 At H'3 (a6.add (nat_lit 1)) [Value.int IntKind.i64 x8] ∧
 ∃ (a7 : Addr), v6 = some a7 ∧ ∃ (c2 : Array Value), ∃ (T1 : TypeId), H'3 (a7.add (nat_lit 1)).block = some (Obj.cells c2 T1) ∧ (a7.add (nat_lit 1)).spot = none ∧ (a7.add (nat_lit 1)).off + [Value.int IntKind.i64 (IntKind.i64.wrap (x8 + (1 : Int)))].length ≤ c2.size ∧ ∀ (H12 : Heap), H12 = H'3.upd (a7.add (nat_lit 1)).block (Obj.cells (splice c2 (a7.add (nat_lit 1)).off [Value.int IntKind.i64 (IntKind.i64.wrap (x8 + (1 : Int)))]) T1) → K (Value.int IntKind.i64 (0 : Int)) H12) ∧
 ((oCode == (24 : Int)) = false →
 ∀ (b2 : Nat),
 H'1 b2 = none →
 ∀ (H13 : Heap),
 H13 = H'1.upd b2 (Obj.cells #[Value.int IntKind.i64 x4, Value.int IntKind.i64 x5] (2 : Nat)) →
 Tr Try.prog (72 : Nat) #[Value.pointer r, Value.slice (some ({ block := b2, off := (0 : Nat) } : Addr)) (2 : Nat) (2 : Nat)] H13 fun (v7 : Value) (H'4 : Heap) =>
 v7 = Value.tuple #[] ∧
 ∃ (a8 : Addr),
 r = some a8 ∧
 ∃ (v8 : Option Addr),
 At H'4 (a8.add (nat_lit 1)) [Value.pointer v8] ∧
 ∃ (a9 : Addr),
 v8 = some a9 ∧
 ∃ (x9 : Int),
 At H'4 (a9.add (nat_lit 1)) [Value.int IntKind.i64 x9] ∧
 ∃ (a10 : Addr), v8 = some a10 ∧ ∃ (c3 : Array Value), ∃ (T2 : TypeId), H'4 (a10.add (nat_lit 1)).block = some (Obj.cells c3 T2) ∧ (a10.add (nat_lit 1)).spot = none ∧ (a10.add (nat_lit 1)).off + [Value.int IntKind.i64 (IntKind.i64.wrap (x9 + (1 : Int)))].length ≤ c3.size ∧ ∀ (H14 : Heap), H14 = H'4.upd (a10.add (nat_lit 1)).block (Obj.cells (splice c3 (a10.add (nat_lit 1)).off [Value.int IntKind.i64 (IntKind.i64.wrap (x9 + (1 : Int)))]) T2) → K (Value.int IntKind.i64 (0 : Int)) H14)))
theorem v84 {r : Option Addr} {oCode : Int} {oA : Int} {H : Heap} {K : Value → Heap → Prop} (h : F84 r oCode oA H K) : Tr Try.prog 84 #[.pointer r, .agg #[.int .i64 oCode, .int .i64 oA]] H K :=
  tr_of_eq (C := c84) Try.func84 (show vcFn c84 Try.f84 [.pointer r, .agg #[.int .i64 oCode, .int .i64 oA]] H K = F84 r oCode oA H K by kernel_rfl) h
noncomputable def c85 : Cx := { P := Try.prog, res := [], pub := [], loops := [], quiet := [68], asm := true }
def F85 (r : Option Addr) (oCode : Int) (oA : Int) (H : Heap) (K : Value → Heap → Prop) : Prop :=
 ∃ (a : Addr),
 r = some a ∧
 ∃ (v : Option Addr),
 At H (a.add (nat_lit 0)) [Value.pointer v] ∧
 Tr Try.prog (52 : Nat) #[Value.pointer r] H fun (v1 : Value) (H' : Heap) =>
 ∃ (x : Int),
 v1 = Value.int IntKind.i64 x ∧
 ∃ (a1 : Addr),
 r = some a1 ∧
 ∃ (b : Bool),
 At H' (a1.add (nat_lit 2)) [Value.bool b] ∧
 (b = true → K (Value.int IntKind.i64 (0 : Int)) H') ∧
 (b = false →
 ((oCode == (37 : Int)) = true →
 ((oCode == (35 : Int)) = true → Tr Try.prog (69 : Nat) #[Value.pointer v, Value.agg #[Value.int IntKind.i64 (0 : Int), Value.int IntKind.i64 (0 : Int), Value.int IntKind.i64 (18 : Int), Value.int IntKind.i64 x, Value.int IntKind.i64 (0 : Int), Value.int IntKind.i64 (0 : Int), Value.int IntKind.i64 (0 : Int), Value.int IntKind.i64 (0 : Int), Value.int IntKind.i64 (0 : Int)]] H' fun (v2 : Value) (H'1 : Heap) => ∃ (x1 : Int), ∃ (b1 : Bool), v2 = Value.tuple #[Value.int IntKind.i64 x1, Value.bool b1] ∧ K (Value.int IntKind.i64 (2 : Int)) H'1) ∧
 ((oCode == (35 : Int)) = false →
 ∃ (a2 : Addr),
 r = some a2 ∧
 ∃ (v3 : Option Addr),
 At H' (a2.add (nat_lit 1)) [Value.pointer v3] ∧
 ∃ (a3 : Addr),
 v3 = some a3 ∧
 ∃ (x2 : Int),
 At H' (a3.add (nat_lit 6)) [Value.int IntKind.i64 x2] ∧
 ((x2 != (0 : Int)) = true →
 ∃ (a4 : Addr),
 r = some a4 ∧
 ∃ (v4 : Option Addr),
 At H' (a4.add (nat_lit 1)) [Value.pointer v4] ∧
 ∃ (a5 : Addr),
 v4 = some a5 ∧
 ∃ (x3 : Int),
 At H' (a5.add (nat_lit 6)) [Value.int IntKind.i64 x3] ∧
 Tr Try.prog (69 : Nat) #[Value.pointer v, Value.agg #[Value.int IntKind.i64 (0 : Int), Value.int IntKind.i64 (0 : Int), Value.int IntKind.i64 (14 : Int), Value.int IntKind.i64 x3, Value.int IntKind.i64 x, Value.int IntKind.i64 (1 : Int), Value.int IntKind.i64 (0 : Int), Value.int IntKind.i64 (0 : Int), Value.int IntKind.i64 (0 : Int)]] H' fun (v5 : Value) (H'2 : Heap) => ∃ (x4 : Int), ∃ (b2 : Bool), v5 = Value.tuple #[Value.int IntKind.i64 x4, Value.bool b2] ∧ K (Value.int IntKind.i64 (2 : Int)) H'2) ∧
 ((x2 != (0 : Int)) = false →
 ∃ (a6 : Addr),
 r = some a6 ∧
 ∃ (v6 : Option Addr),
 At H' (a6.add (nat_lit 1)) [Value.pointer v6] ∧
 ∃ (a7 : Addr),
 v6 = some a7 ∧
 ∃ (x5 : Int),
 At H' (a7.add (nat_lit 5)) [Value.int IntKind.i64 x5] ∧
 (decide (x5 ≥ (0 : Int)) = true → ∃ (a8 : Addr), r = some a8 ∧ ∃ (v7 : Option Addr), At H' (a8.add (nat_lit 1)) [Value.pointer v7] ∧ ∃ (a9 : Addr), v7 = some a9 ∧ ∃ (x6 : Int), At H' (a9.add (nat_lit 5)) [Value.int IntKind.i64 x6] ∧ Tr Try.prog (29 : Nat) #[Value.pointer v, Value.int IntKind.i64 x6, Value.int IntKind.i64 x, Value.int IntKind.i64 (1 : Int)] H' fun (v8 : Value) (H'3 : Heap) => v8 = Value.tuple #[] ∧ K (Value.int IntKind.i64 (2 : Int)) H'3) ∧
 (decide (x5 ≥ (0 : Int)) = false →
 ((oCode == (36 : Int)) = true →
 Tr Try.prog (69 : Nat) #[Value.pointer v, Value.agg #[Value.int IntKind.i64 (0 : Int), Value.int IntKind.i64 (0 : Int), Value.int IntKind.i64 (15 : Int), Value.int IntKind.i64 x, Value.int IntKind.i64 (0 : Int), Value.int IntKind.i64 (0 : Int), Value.int IntKind.i64 (0 : Int), Value.int IntKind.i64 (0 : Int), Value.int IntKind.i64 (0 : Int)]] H' fun (v9 : Value) (H'4 : Heap) => ∃ (x7 : Int), ∃ (b3 : Bool), v9 = Value.tuple #[Value.int IntKind.i64 x7, Value.bool b3] ∧ K (Value.int IntKind.i64 (2 : Int)) H'4) ∧
 ((oCode == (36 : Int)) = false →
 ∃ (b4 : Bool),
 (Tr Try.prog (68 : Nat) #[Value.pointer v, Value.int IntKind.i64 (0 : Int)] H' fun (v10 : Value) (H'5 : Heap) => v10 = Value.bool b4 ∧ Ax.Sub H' H'5) ∧
 (b4 = true →
 Tr Try.prog (69 : Nat) #[Value.pointer v, Value.agg #[Value.int IntKind.i64 (0 : Int), Value.int IntKind.i64 (0 : Int), Value.int IntKind.i64 (17 : Int), Value.int IntKind.i64 x, Value.int IntKind.i64 (0 : Int), Value.int IntKind.i64 (0 : Int), Value.int IntKind.i64 (0 : Int), Value.int IntKind.i64 (0 : Int), Value.int IntKind.i64 (0 : Int)]] H' fun (v11 : Value) (H'6 : Heap) =>
 ∃ (x8 : Int), ∃ (b5 : Bool), v11 = Value.tuple #[Value.int IntKind.i64 x8, Value.bool b5] ∧ K (Value.int IntKind.i64 (2 : Int)) H'6) ∧
 (b4 = false →
 Tr Try.prog (69 : Nat) #[Value.pointer v, Value.agg #[Value.int IntKind.i64 (0 : Int), Value.int IntKind.i64 (0 : Int), Value.int IntKind.i64 (16 : Int), Value.int IntKind.i64 x, Value.int IntKind.i64 (0 : Int), Value.int IntKind.i64 (0 : Int), Value.int IntKind.i64 (0 : Int), Value.int IntKind.i64 (0 : Int), Value.int IntKind.i64 (0 : Int)]] H' fun (v12 : Value) (H'7 : Heap) =>
 ∃ (x9 : Int), ∃ (b6 : Bool), v12 = Value.tuple #[Value.int IntKind.i64 x9, Value.bool b6] ∧ K (Value.int IntKind.i64 (2 : Int)) H'7)))))) ∧
 ((oCode == (37 : Int)) = false →
 ((oCode == (35 : Int)) = true → Tr Try.prog (69 : Nat) #[Value.pointer v, Value.agg #[Value.int IntKind.i64 (0 : Int), Value.int IntKind.i64 (0 : Int), Value.int IntKind.i64 (18 : Int), Value.int IntKind.i64 x, Value.int IntKind.i64 (0 : Int), Value.int IntKind.i64 (0 : Int), Value.int IntKind.i64 (0 : Int), Value.int IntKind.i64 (0 : Int), Value.int IntKind.i64 (0 : Int)]] H' fun (v13 : Value) (H'8 : Heap) => ∃ (x10 : Int), ∃ (b7 : Bool), v13 = Value.tuple #[Value.int IntKind.i64 x10, Value.bool b7] ∧ K (Value.int IntKind.i64 (2 : Int)) H'8) ∧
 ((oCode == (35 : Int)) = false →
 ∃ (a10 : Addr),
 r = some a10 ∧
 ∃ (v14 : Option Addr),
 At H' (a10.add (nat_lit 1)) [Value.pointer v14] ∧
 ∃ (a11 : Addr),
 v14 = some a11 ∧
 ∃ (x11 : Int),
 At H' (a11.add (nat_lit 6)) [Value.int IntKind.i64 x11] ∧
 ((x11 != (0 : Int)) = true →
 ∃ (a12 : Addr),
 r = some a12 ∧
 ∃ (v15 : Option Addr),
 At H' (a12.add (nat_lit 1)) [Value.pointer v15] ∧
 ∃ (a13 : Addr),
 v15 = some a13 ∧
 ∃ (x12 : Int),
 At H' (a13.add (nat_lit 6)) [Value.int IntKind.i64 x12] ∧
 Tr Try.prog (69 : Nat) #[Value.pointer v, Value.agg #[Value.int IntKind.i64 (0 : Int), Value.int IntKind.i64 (0 : Int), Value.int IntKind.i64 (14 : Int), Value.int IntKind.i64 x12, Value.int IntKind.i64 x, Value.int IntKind.i64 (0 : Int), Value.int IntKind.i64 (0 : Int), Value.int IntKind.i64 (0 : Int), Value.int IntKind.i64 (0 : Int)]] H' fun (v16 : Value) (H'9 : Heap) => ∃ (x13 : Int), ∃ (b8 : Bool), v16 = Value.tuple #[Value.int IntKind.i64 x13, Value.bool b8] ∧ K (Value.int IntKind.i64 (2 : Int)) H'9) ∧
 ((x11 != (0 : Int)) = false →
 ∃ (a14 : Addr),
 r = some a14 ∧
 ∃ (v17 : Option Addr),
 At H' (a14.add (nat_lit 1)) [Value.pointer v17] ∧
 ∃ (a15 : Addr),
 v17 = some a15 ∧
 ∃ (x14 : Int),
 At H' (a15.add (nat_lit 5)) [Value.int IntKind.i64 x14] ∧
 (decide (x14 ≥ (0 : Int)) = true → ∃ (a16 : Addr), r = some a16 ∧ ∃ (v18 : Option Addr), At H' (a16.add (nat_lit 1)) [Value.pointer v18] ∧ ∃ (a17 : Addr), v18 = some a17 ∧ ∃ (x15 : Int), At H' (a17.add (nat_lit 5)) [Value.int IntKind.i64 x15] ∧ Tr Try.prog (29 : Nat) #[Value.pointer v, Value.int IntKind.i64 x15, Value.int IntKind.i64 x, Value.int IntKind.i64 (0 : Int)] H' fun (v19 : Value) (H'10 : Heap) => v19 = Value.tuple #[] ∧ K (Value.int IntKind.i64 (2 : Int)) H'10) ∧
 (decide (x14 ≥ (0 : Int)) = false →
 ((oCode == (36 : Int)) = true →
 Tr Try.prog (69 : Nat) #[Value.pointer v, Value.agg #[Value.int IntKind.i64 (0 : Int), Value.int IntKind.i64 (0 : Int), Value.int IntKind.i64 (15 : Int), Value.int IntKind.i64 x, Value.int IntKind.i64 (0 : Int), Value.int IntKind.i64 (0 : Int), Value.int IntKind.i64 (0 : Int), Value.int IntKind.i64 (0 : Int), Value.int IntKind.i64 (0 : Int)]] H' fun (v20 : Value) (H'11 : Heap) => ∃ (x16 : Int), ∃ (b9 : Bool), v20 = Value.tuple #[Value.int IntKind.i64 x16, Value.bool b9] ∧ K (Value.int IntKind.i64 (2 : Int)) H'11) ∧
 ((oCode == (36 : Int)) = false →
 ∃ (b10 : Bool),
 (Tr Try.prog (68 : Nat) #[Value.pointer v, Value.int IntKind.i64 (0 : Int)] H' fun (v21 : Value) (H'12 : Heap) => v21 = Value.bool b10 ∧ Ax.Sub H' H'12) ∧
 (b10 = true →
 Tr Try.prog (69 : Nat) #[Value.pointer v, Value.agg #[Value.int IntKind.i64 (0 : Int), Value.int IntKind.i64 (0 : Int), Value.int IntKind.i64 (17 : Int), Value.int IntKind.i64 x, Value.int IntKind.i64 (0 : Int), Value.int IntKind.i64 (0 : Int), Value.int IntKind.i64 (0 : Int), Value.int IntKind.i64 (0 : Int), Value.int IntKind.i64 (0 : Int)]] H' fun (v22 : Value) (H'13 : Heap) =>
 ∃ (x17 : Int), ∃ (b11 : Bool), v22 = Value.tuple #[Value.int IntKind.i64 x17, Value.bool b11] ∧ K (Value.int IntKind.i64 (2 : Int)) H'13) ∧
 (b10 = false →
 Tr Try.prog (69 : Nat) #[Value.pointer v, Value.agg #[Value.int IntKind.i64 (0 : Int), Value.int IntKind.i64 (0 : Int), Value.int IntKind.i64 (16 : Int), Value.int IntKind.i64 x, Value.int IntKind.i64 (0 : Int), Value.int IntKind.i64 (0 : Int), Value.int IntKind.i64 (0 : Int), Value.int IntKind.i64 (0 : Int), Value.int IntKind.i64 (0 : Int)]] H' fun (v23 : Value) (H'14 : Heap) =>
 ∃ (x18 : Int), ∃ (b12 : Bool), v23 = Value.tuple #[Value.int IntKind.i64 x18, Value.bool b12] ∧ K (Value.int IntKind.i64 (2 : Int)) H'14)))))))
theorem v85 {r : Option Addr} {oCode : Int} {oA : Int} {H : Heap} {K : Value → Heap → Prop} (h : F85 r oCode oA H K) : Tr Try.prog 85 #[.pointer r, .agg #[.int .i64 oCode, .int .i64 oA]] H K :=
  tr_of_eq (C := c85) Try.func85 (show vcFn c85 Try.f85 [.pointer r, .agg #[.int .i64 oCode, .int .i64 oA]] H K = F85 r oCode oA H K by kernel_rfl) h
end Go.Proofs.Ytjmdoiakcakfoaa
set_option maxRecDepth 100000
namespace Go.Proofs.Ytjmdoiakcakfoaa
open Go.Ax
section
variable {p : Prg} {G0 H0 G H : Heap} {m rb tb : Nat} {q : SlH} {pf po : SlH} {sl : Nat → SlH} {F : Heap} {ex : Value} {st : List SlH} {r : Rn}
theorem cellsV_get {n k : Nat} (l : List Int) (hk : k < n) : (cellsV n l)[k]? = some (.int .i64 (l[k]?.getD 0)) := by
  unfold cellsV; rw [List.getElem?_map, List.getElem?_range hk]; rfl
theorem cellsV_len (n : Nat) (l : List Int) : (cellsV n l).length = n := by unfold cellsV; rw [List.length_map, List.length_range]
theorem VMX.var {s : VS} (h : VMX G H m pf po sl F ex st s) {k : Nat} (hk : k < 16) : At H ((⟨m, 0, none⟩ : Addr).add (2 + k)) [.int .i64 (s.vars[k]?.getD 0)] := by
  refine h.cell ?_
  unfold mCells
  simp only [List.append_assoc]
  rw [List.getElem?_append_right (by simp), List.getElem?_append_left (by rw [cellsV_len]; simp; omega)]
  have : 2 + k - [pf.v, po.v].length = k := by simp
  rw [this]; exact cellsV_get s.vars hk
theorem RX.setPc (h : RX p G0 H0 G H m rb tb q pf po sl F ex st r) {n : Int} {Q : Heap → Prop} (k : ∀ G' F' H', RX p G0 H0 G' H' m rb tb q pf po sl F' ex st (r.pc n) → Q H') : Wr H ((⟨tb, 0, none⟩ : Addr).add 1) (.int .i64 n) Q :=
  h.setT (i := 1) (by decide) { r.t with pc := n } q rfl h.sq h.oq fun G' F' H' h' => k G' F' H' h'
theorem t53 (h : RX p G0 H0 G H m rb tb q pf po sl F ex st r) (hb : r.t.stack.length ≤ 1000) (hpc : 0 ≤ r.t.pc ∧ r.t.pc ≤ 1000) (op a : Int) (h15 : op = 15 → 0 ≤ a ∧ a < 16) (h26 : op = 26 → 0 ≤ a ∧ a < 8) :
    Tr Try.prog 53 #[.pointer (some ⟨rb, 0, none⟩), .agg #[.int .i64 op, .int .i64 a]] H fun v H' => v = .tuple #[] ∧ ∃ G' F' q', RX p G0 H0 G' H' m rb tb q' pf po sl F' ex st (r.pure_ op a) := by
  apply v53; unfold F53
  have hw : IntKind.i64.wrap (r.t.pc + 1) = r.t.pc + 1 := wrapi (by omega) (by omega)
  refine ⟨_, rfl, _, h.r1, _, rfl, r.t.pc, at_cells h.ht rfl, _, rfl, ?_⟩
  rw [hw]
  refine h.setPc fun G1 F1 H1 h1 => ?_
  unfold Rn.pure_
  have hb1 : (r.pc (r.t.pc + 1)).t.stack.length ≤ 1000 := hb
  generalize r.pc (r.t.pc + 1) = r1 at h1 hb1 ⊢
  have hb2 := take_len r1
  have hb3 := take_len r1.take.2
  have nf : ∀ {k : Int}, (op == k) = false → ¬ op = k := fun e e2 => by subst e2; simp at e
  have yf : ∀ {k : Int}, (op == k) = true → op = k := fun e => by simpa using e
  unfold Rn.pure1
  refine ⟨fun e b hn H2 e2 => ?_, fun e0 => ⟨fun e => ?_, fun e1 => ⟨fun e => ?_, fun e2 => ⟨fun e => ?_, fun e3 => ⟨fun e => ?_, fun e4 => ⟨fun e => ?_, fun e5 => ⟨fun e => ?_, fun e6 => ⟨fun e => ?_, fun e7 => ⟨fun e => ?_, fun e8 => ⟨fun e => ?_, fun e9 => ⟨fun e => ?_, fun e10 => ⟨fun e => ?_, fun e11 => ?_⟩⟩⟩⟩⟩⟩⟩⟩⟩⟩⟩⟩
  · rw [if_pos (yf e)]
    exact h1.leaves [a] (by simp; omega) hn e2 fun G' F' q' H' h' => ⟨rfl, G', F', q', h'⟩
  · rw [if_neg (nf e0), if_pos (yf e)]
    exact h1.takes (by omega) fun G' F' q' H' h' => ⟨_, rfl, rfl, G', F', q', h'⟩
  · rw [if_neg (nf e0), if_neg (nf e1), if_pos (yf e)]
    exact h1.takes (by omega) fun G2 F2 q2 H2 h2 => ⟨_, rfl, fun b hn H3 e3 => h2.leaves [r1.take.1, r1.take.1] (by simp; omega) hn e3 fun G' F' q' H' h' => ⟨rfl, G', F', q', h'⟩⟩
  · rw [if_neg (nf e0), if_neg (nf e1), if_neg (nf e2), if_pos (yf e)]
    exact h1.takes (by omega) fun G2 F2 q2 H2 h2 => ⟨_, rfl, h2.takes (by omega) fun G3 F3 q3 H3 h3 => ⟨_, rfl, fun b hn H4 e4 => h3.leaves [r1.take.1, r1.take.2.take.1] (by simp; omega) hn e4 fun G' F' q' H' h' => ⟨rfl, G', F', q', h'⟩⟩⟩
  · rw [if_neg (nf e0), if_neg (nf e1), if_neg (nf e2), if_neg (nf e3), if_pos (yf e)]
    exact h1.takes (by omega) fun G2 F2 q2 H2 h2 => ⟨_, rfl, h2.takes (by omega) fun G3 F3 q3 H3 h3 => ⟨_, rfl, fun b hn H4 e4 => h3.leaves [r1.take.2.take.1, r1.take.1, r1.take.2.take.1] (by simp; omega) hn e4 fun G' F' q' H' h' => ⟨rfl, G', F', q', h'⟩⟩⟩
  · rw [if_neg (nf e0), if_neg (nf e1), if_neg (nf e2), if_neg (nf e3), if_neg (nf e4), if_pos (yf e)]
    exact h1.takes (by omega) fun G2 F2 q2 H2 h2 => ⟨_, rfl, _, t73 _ _, fun b hn H4 e4 => h2.leaves [truthM (r1.take.1 == 0)] (by simp; omega) hn e4 fun G' F' q' H' h' => ⟨rfl, G', F', q', h'⟩⟩
  · rw [if_neg (nf e0), if_neg (nf e1), if_neg (nf e2), if_neg (nf e3), if_neg (nf e4), if_neg (nf e5), if_pos (yf e)]
    refine ⟨_, rfl, _, h1.r1, _, rfl, ?_⟩
    exact h1.setPc fun G' F' H' h' => ⟨rfl, G', F', q, h'⟩
  · rw [if_neg (nf e0), if_neg (nf e1), if_neg (nf e2), if_neg (nf e3), if_neg (nf e4), if_neg (nf e5), if_neg (nf e6), if_pos (yf e)]
    refine h1.takes (by omega) fun G2 F2 q2 H2 h2 => ⟨_, rfl, fun ez => ⟨_, rfl, _, h2.r1, _, rfl, ?_⟩, fun ez => ⟨rfl, G2, F2, q2, ?_⟩⟩
    · rw [if_pos ez]
      exact h2.setPc fun G' F' H' h' => ⟨rfl, G', F', q2, h'⟩
    · rw [if_neg (by rw [ez]; simp)]; exact h2
  · rw [if_neg (nf e0), if_neg (nf e1), if_neg (nf e2), if_neg (nf e3), if_neg (nf e4), if_neg (nf e5), if_neg (nf e6), if_neg (nf e7), if_pos (yf e)]
    have ha := h15 (yf e)
    have hv := h1.vm.var (k := a.toNat) (by omega)
    refine ⟨_, rfl, _, h1.r0_, _, rfl, ⟨ha.1, ha.2⟩, _, ?_, fun b hn H3 e3 => h1.leaves [nthI r1.s.vars a] (by simp; omega) hn e3 fun G' F' q' H' h' => ⟨rfl, G', F', q', h'⟩⟩
    rw [add2, add2, Nat.mul_one]; exact hv
  · rw [if_neg (nf e0), if_neg (nf e1), if_neg (nf e2), if_neg (nf e3), if_neg (nf e4), if_neg (nf e5), if_neg (nf e6), if_neg (nf e7), if_neg (nf e8), if_pos (yf e)]
    exact ⟨_, rfl, _, h1.r1, _, rfl, _, at_cells h1.ht rfl, fun b hn H3 e3 => h1.leaves [r1.t.arg] (by simp; omega) hn e3 fun G' F' q' H' h' => ⟨rfl, G', F', q', h'⟩⟩
  · rw [if_neg (nf e0), if_neg (nf e1), if_neg (nf e2), if_neg (nf e3), if_neg (nf e4), if_neg (nf e5), if_neg (nf e6), if_neg (nf e7), if_neg (nf e8), if_neg (nf e9), if_pos (yf e)]
    exact ⟨_, rfl, _, h1.r0_, _, rfl, _, h1.vm.c22, fun b hn H3 e3 => h1.leaves [r1.s.now] (by simp; omega) hn e3 fun G' F' q' H' h' => ⟨rfl, G', F', q', h'⟩⟩
  · rw [if_neg (nf e0), if_neg (nf e1), if_neg (nf e2), if_neg (nf e3), if_neg (nf e4), if_neg (nf e5), if_neg (nf e6), if_neg (nf e7), if_neg (nf e8), if_neg (nf e9), if_neg (nf e10), if_pos (yf e)]
    have ha := h26 (yf e)
    have hk : a.toNat < 8 := by omega
    obtain ⟨aS, hA, hat⟩ := h1.vm.sig hk
    refine ⟨_, rfl, _, h1.r0_, _, rfl, _, _, _, h1.vm.c26, aS, ⟨hA, ha.1, by rw [h1.vm.sigLen]; omega⟩, _, _, _, hat, fun b hn H3 e3 => ?_⟩
    rw [h1.vm.sigN hk] at e3
    exact h1.leaves [((r1.s.signals[a.toNat]?.getD []).length : Int)] (by simp; omega) hn e3 fun G' F' q' H' h' => ⟨rfl, G', F', q', h'⟩
  · rw [if_neg (nf e0), if_neg (nf e1), if_neg (nf e2), if_neg (nf e3), if_neg (nf e4), if_neg (nf e5), if_neg (nf e6), if_neg (nf e7), if_neg (nf e8), if_neg (nf e9), if_neg (nf e10), if_neg (nf e11)]
    exact h1.takes (by omega) fun G2 F2 q2 H2 h2 => ⟨_, rfl, h2.takes (by omega) fun G3 F3 q3 H3 h3 => ⟨_, rfl, _, t74 _ _ _ _, fun b hn H4 e4 => h3.leaves [twoM op r1.take.2.take.1 r1.take.1] (by simp; omega) hn e4 fun G' F' q' H' h' => ⟨rfl, G', F', q', h'⟩⟩⟩
end
end Go.Proofs.Ytjmdoiakcakfoaa
set_option maxRecDepth 100000
namespace Go.Ax
structure Right (p : Prg) (i : Nat) (f : Fnc) (k : Nat) (c a : Int) : Prop where
  pure_ : (f.kind = 2 ∨ f.kind = 4) → pureB c = true
  most : opd c = true → ∀ n : Nat, mostB p.funcs.length p.opts.length f.ops.length c = n → 0 ≤ a ∧ a < n
  last : (k : Int) < (f.ops.length : Int) - 1 ∨ c = 13 ∨ c = 35 ∨ c = 36 ∨ c = 37
  c0 : 0 ≤ c ∧ c ≤ 37
  go : c = 27 → p.kindAt a = 1
  again : c = 35 → i = 0
theorem right_facts {p : Prg} {i : Nat} {f : Fnc} {k : Nat} {c a : Int} (h : p.right i f k c a = true) : Right p i f k c a := by
  unfold Prg.right at h
  split at h
  · cases h
  · rename_i h1
    split at h
    · cases h
    · rename_i h2
      split at h
      · cases h
      · rename_i h3
        split at h
        · cases h
        · rename_i h4
          refine ⟨fun hk => ?_, fun ho n hn => ?_, ?_, ?_, fun e => ?_, fun e => ?_⟩
          · cases hp : pureB c with
            | true => rfl
            | false => exact absurd (show ((f.kind == 2 || f.kind == 4) && !pureB c || c == 35 && (i : Int) != 0) = true by rw [hp]; rcases hk with e | e <;> simp [e]) h4
          · rw [ho, hn] at h2
            have : decide ((n : Int) ≥ 0) = true := decide_eq_true (Int.natCast_nonneg n)
            rw [this] at h2
            simp at h2
            exact h2
          · simp at h
            rcases h with h | h
            · left; omega
            · right; omega
          · simp at h1; exact h1
          · subst e; simpa using h3
          · subst e
            simp at h4
            exact h4.2
end Go.Ax
namespace Go.Proofs.Ytjmdoiakcakfoaa
open Go.Ax
theorem take_pc (r : Rn) : r.take.2.t.pc = r.t.pc := by unfold Rn.take; cases r.t.stack.getLast? <;> rfl
theorem leave_pc (r : Rn) (l : List Int) : (r.leave l).t.pc = r.t.pc := rfl
theorem leave_ok (r : Rn) (l : List Int) (h : (r.leave l).fault = false) : (r.leave l).t.stack.length ≤ 32 := by
  unfold Rn.leave at h ⊢
  simp only at h ⊢
  rw [List.length_append]
  split at h
  · cases h
  · rename_i e
    simp at e; omega
theorem ite_cases {P : Rn → Prop} {c : Prop} [Decidable c] {x y : Rn} (h1 : c → P x) (h2 : ¬ c → P y) : P (if c then x else y) := by
  by_cases h : c
  · rw [if_pos h]; exact h1 h
  · rw [if_neg h]; exact h2 h
theorem pure1_ind (P : Rn → Prop) (r : Rn) (op a : Int) (l0 : op ≠ 13 → ∀ l, P (r.leave l)) (l1 : op ≠ 13 → ∀ l, P (r.take.2.leave l)) (l2 : op ≠ 13 → ∀ l, P (r.take.2.take.2.leave l))
    (ht : op ≠ 13 → P r.take.2) (hj : op = 13 → P (r.pc a)) (hz : op = 14 → P (r.take.2.pc a)) : P (r.pure1 op a) := by
  unfold Rn.pure1
  exact ite_cases (fun _ => l0 (by omega) _) fun _ => ite_cases (fun _ => ht (by omega)) fun _ => ite_cases (fun _ => l1 (by omega) _) fun _ => ite_cases (fun _ => l2 (by omega) _) fun _ => ite_cases (fun _ => l2 (by omega) _) fun _ =>
    ite_cases (fun _ => l1 (by omega) _) fun _ => ite_cases (fun e => hj e) fun _ => ite_cases (fun e => ite_cases (fun _ => hz e) fun _ => ht (by omega)) fun _ => ite_cases (fun _ => l0 (by omega) _) fun _ => ite_cases (fun _ => l0 (by omega) _) fun _ =>
    ite_cases (fun _ => l0 (by omega) _) fun _ => ite_cases (fun _ => l0 (by omega) _) fun _ => l2 (by omega) _
theorem pure1_s (r : Rn) (op a : Int) : (r.pure1 op a).s = r.s :=
  pure1_ind (fun z => z.s = r.s) r op a (fun _ _ => rfl) (fun _ _ => take_s r) (fun _ _ => (take_s r.take.2).trans (take_s r)) (fun _ => take_s r) (fun _ => rfl) (fun _ => take_s r)
theorem pure1_pc (r : Rn) (op a : Int) : ((op = 13 ∨ op = 14) ∧ (r.pure1 op a).t.pc = a) ∨ (op ≠ 13 ∧ (r.pure1 op a).t.pc = r.t.pc) :=
  pure1_ind (fun z => ((op = 13 ∨ op = 14) ∧ z.t.pc = a) ∨ (op ≠ 13 ∧ z.t.pc = r.t.pc)) r op a (fun e _ => .inr ⟨e, rfl⟩) (fun e _ => .inr ⟨e, take_pc r⟩) (fun e _ => .inr ⟨e, (take_pc r.take.2).trans (take_pc r)⟩) (fun e => .inr ⟨e, take_pc r⟩) (fun e => .inl ⟨.inl e, rfl⟩) (fun e => .inl ⟨.inr e, rfl⟩)
theorem pure1_stack (r : Rn) (op a : Int) (h : r.t.stack.length ≤ 32) : (r.pure1 op a).fault = false → (r.pure1 op a).t.stack.length ≤ 32 :=
  pure1_ind (fun z => z.fault = false → z.t.stack.length ≤ 32) r op a (fun _ l => leave_ok r l) (fun _ l => leave_ok _ l) (fun _ l => leave_ok _ l) (fun _ _ => Nat.le_trans (take_len r) h) (fun _ _ => h) (fun _ _ => Nat.le_trans (take_len r) h)
theorem pure_s (r : Rn) (op a : Int) : (r.pure_ op a).s = r.s := pure1_s _ _ _
theorem pure_stack (r : Rn) (op a : Int) (h : r.t.stack.length ≤ 32) (hf : (r.pure_ op a).fault = false) : (r.pure_ op a).t.stack.length ≤ 32 := pure1_stack (r.pc (r.t.pc + 1)) op a h hf
theorem pure_pc (r : Rn) (op a : Int) : ((op = 13 ∨ op = 14) ∧ (r.pure_ op a).t.pc = a) ∨ (op ≠ 13 ∧ (r.pure_ op a).t.pc = r.t.pc + 1) := pure1_pc (r.pc (r.t.pc + 1)) op a
end Go.Proofs.Ytjmdoiakcakfoaa
set_option maxRecDepth 100000
namespace Go.Proofs.Ytjmdoiakcakfoaa
open Go.Ax
theorem _root_.Go.Ax.Okp.len {p : Prg} (ok : Okp p) {i : Nat} {f : Fnc} (hf : p.funcs[i]? = some f) : 1 ≤ f.ops.length ∧ f.ops.length ≤ 128 := by
  have := ok.named i f hf
  rw [named_eq hf] at this
  simp at this
  omega
theorem opAt_eq {p : Prg} {i k : Nat} {f : Fnc} {c a : Int} (hf : p.funcs[i]? = some f) (ho : f.ops[k]? = some (c, a)) : p.opAt i k = (c, a) := by
  unfold Prg.opAt; rw [Int.toNat_natCast, Int.toNat_natCast, hf]; simp [ho]
theorem next_pc {p : Prg} {i k : Nat} {f : Fnc} {c a : Int} (hr : Right p i f k c a) (hk : f.kind = 2 ∨ f.kind = 4) (h36 : c ≠ 36) (h37 : c ≠ 37) (r : Rn) (hp : r.t.pc = k) : 0 ≤ (r.pure_ c a).t.pc ∧ (r.pure_ c a).t.pc < f.ops.length := by
  rcases pure_pc r c a with ⟨hc, e⟩ | ⟨hc, e⟩
  · rw [e]
    have ho : opd c = true := by rcases hc with rfl | rfl <;> rfl
    have hm : mostB p.funcs.length p.opts.length f.ops.length c = (f.ops.length : Nat) := by rcases hc with rfl | rfl <;> rfl
    exact hr.most ho _ hm
  · rw [e, hp]
    have h35 : c ≠ 35 := fun e35 => by
      have := hr.pure_ hk
      rw [e35] at this; cases this
    rcases hr.last with h | h | h | h | h
    · omega
    · exact absurd h hc
    · exact absurd h h35
    · exact absurd h h36
    · exact absurd h h37
section
variable {p : Prg} {G H : Heap} {m : Nat} {pf po : SlH} {sl : Nat → SlH} {F : Heap} {ex : Value} {st : List SlH} {s : VS}
theorem VMX.c0 (h : VMX G H m pf po sl F ex st s) : At H ((⟨m, 0, none⟩ : Addr).add 0) [pf.v] := h.cell rfl
theorem VMX.c1 (h : VMX G H m pf po sl F ex st s) : At H ((⟨m, 0, none⟩ : Addr).add 1) [po.v] := h.cell rfl
structure PRel (p : Prg) (G H : Heap) (m b1 b : Nat) (pf po : SlH) (sl : Nat → SlH) (ex : Value) (st : List SlH) (s : VS) (i : Nat) (f : Fnc) (n : Nat) (r0 : Rn) (x : Int) (H1 : Heap) : Prop where
  out : ∃ (k : Nat) (G' F' : Heap) (q' : SlH) (r : Rn), x = k ∧ k ≤ n ∧ RX p G H G' H1 m b1 b q' pf po sl F' ex st r ∧ r.fault = false ∧ r.t.stack.length ≤ 32 ∧ 0 ≤ r.t.pc ∧ r.t.pc < f.ops.length ∧ purelyG p i k r = purelyG p i n r0
theorem t33 (h : VMX G H m pf po sl F ex st s) (pr : HasP (dif F G) pf.A pf.n po.A po.n p) (ok : Okp p) {i : Nat} {f : Fnc} (hf : p.funcs[i]? = some f) (hk : f.kind = 2 ∨ f.kind = 4) (arg : Int) (n : Nat) (hn : n ≤ 1000) :
    Tr Try.prog 33 #[.pointer (some ⟨m, 0, none⟩), .int .i64 i, .int .i64 arg, .int .i64 n] H fun v H' => v = .tuple #[.int .i64 (s.purely p i arg n).1, .int .i64 (s.purely p i arg n).2.1, .int .i64 ((s.purely p i arg n).2.2 : Nat)] ∧ Sub H H' := by
  have hlen := ok.len hf
  apply v33; unfold F33
  intro b hb Hx ex1 b1 hb1 Hy ey1
  subst ex1
  subst ey1
  have v1 := h.ext hb (.cells ⟨thrC (⟨i, 0, 0, [], arg, 0, 0, 0, 0⟩, ⟨none, 0, 0⟩)⟩ 60 (0, 0))
  have v2 := v1.ext hb1 (.cells ⟨runC m b false⟩ 131 (0, 0))
  have hF := none_below h.fh hb
  have hG := none_below h.gf hF
  have hF1 := none_below v1.fh hb1
  have hG1 := none_below v1.gf hF1
  have hne : b1 ≠ b := fun e => by subst e; rw [Heap.upd_same] at hb1; cases hb1
  have hH1 : H b1 = none := none_below (Sub.upd_new hb) hb1
  let r0 : Rn := ⟨s, ⟨i, 0, 0, [], arg, 0, 0, 0, 0⟩, false⟩
  refine ⟨PRel p G H m b1 b pf po sl ex st s i f n r0, fun x _ => x.toNat, ⟨n, _, _, ⟨none, 0, 0⟩, r0, rfl, Nat.le_refl _, ⟨v2, (pr.sub (dif_ext hF _)).sub (dif_ext hF1 _), (Sub.upd_new hG).trans (Sub.upd_new hG1), (Sub.upd_new hb).trans (Sub.upd_new hb1), h.gf.trans h.fh, Heap.upd_same, ?_, hH1, hb, hne, ⟨rfl, Nat.le_refl _, .inl ⟨rfl, rfl, rfl⟩⟩, fun b hb => by cases hb⟩, rfl, Nat.zero_le _, Int.le_refl _, ?_, rfl⟩, fun x H1 hr => ?_⟩
  · rw [Heap.upd_other hne.symm, Heap.upd_same]
  · show (0 : Int) < f.ops.length
    omega
  · obtain ⟨k, G', F', q', r, rfl, hkn, h', hfl, hst, hp0, hp1, he⟩ := hr.out
    have hpur : s.purely p i arg n = purelyG p i k r := he.symm
    refine ⟨fun e => ?_, fun e => ?_⟩
    · have : k = 0 := by simpa using e
      subst this
      rw [hpur]
      exact ⟨rfl, h'.keep⟩
    · have hk0 : (k : Int) ≠ 0 := by simpa using e
      obtain ⟨k', rfl⟩ : ∃ k', k = k' + 1 := ⟨k - 1, by omega⟩
      obtain ⟨j, hj⟩ : ∃ j : Nat, r.t.pc = j := ⟨r.t.pc.toNat, by omega⟩
      obtain ⟨⟨c, a⟩, ho⟩ := get_some (l := f.ops) (i := j) (by omega)
      have hri := right_facts (ok.right i f j c a hf ho)
      have hat := opAt_eq hf ho
      have pH := (h'.pr.sub dif_sub).sub h'.vm.fh
      obtain ⟨a1, B, mm, d, ha1, hat1, hops⟩ := pH.fns.at_ i f hf
      obtain ⟨a2, ha2, hat2⟩ := hops.at_ j c a ho
      have hw : IntKind.i64.wrap (((k' + 1 : Nat) : Int) - 1) = (k' : Int) := by rw [wrapi (by omega) (by omega)]; omega
      have hfn := pH.fns.len
      have hol := hops.len
      have hit := get_lt hf
      have hpc3 : At H1 ((⟨b, 0, none⟩ : Addr).add 1) [.int .i64 (j : Int)] := by rw [← hj]; exact at_cells h'.ht rfl
      rw [hw]
      refine ⟨H1, Sub.refl _, _, rfl, _, rfl, _, _, _, h'.vm.c0, a1, ⟨ha1, by omega, by omega⟩, B, mm, d, at_one 2 hat1 rfl, _, h'.r1, _, rfl, (j : Int), hpc3, a2, ⟨ha2, by omega, by omega⟩, c, a, hat2, Sub.refl _, Sub.refl _, fun e => ?_, fun e => ?_⟩
      · refine h'.takes (by omega) fun G2 F2 q2 H2 h2 => ⟨_, rfl, _, rfl, _, h2.r2, fun e1 => ?_, fun e1 => ⟨fun e2 => ?_, fun e2 => ?_⟩⟩
        all_goals
          rw [hpur]
          unfold purelyG
          rw [hj, hat]
          simp only
          rw [if_pos e]
        · rw [if_pos e1]; exact ⟨rfl, h2.keep⟩
        · rw [if_neg (by rw [e1]; simp), if_pos e2]; exact ⟨rfl, h2.keep⟩
        · rw [if_neg (by rw [e1]; simp), if_neg (by rw [e2]; simp)]; exact ⟨rfl, h2.keep⟩
      · have e36 : c ≠ 36 := fun e3 => by subst e3; simp at e
        have e37 : c ≠ 37 := fun e3 => by subst e3; simp at e
        have hstep : purelyG p i (k' + 1) r = if (r.pure_ c a).fault = true then (0, 2, k') else purelyG p i k' (r.pure_ c a) := by
          rw [purelyG, hj, hat]
          simp only
          rw [if_neg (by rw [e]; simp)]
        have h15 : c = 15 → 0 ≤ a ∧ a < 16 := fun e3 => by subst e3; exact hri.most rfl 16 rfl
        have h26 : c = 26 → 0 ≤ a ∧ a < 8 := fun e3 => by subst e3; exact hri.most rfl 8 rfl
        refine (t53 h' (by omega) ⟨hp0, by omega⟩ c a h15 h26).mono fun v H2 hv => ?_
        obtain ⟨rfl, G2, F2, q2, h2⟩ := hv
        refine ⟨rfl, _, rfl, _, h2.r2, fun e1 => ?_, fun e1 => ⟨⟨k', G2, F2, q2, r.pure_ c a, rfl, by omega, h2, e1, pure_stack r c a hst e1, (next_pc hri hk e36 e37 r hj).1, (next_pc hri hk e36 e37 r hj).2, ?_⟩, ?_⟩⟩
        · rw [hpur, hstep, if_pos e1]; exact ⟨rfl, h2.keep⟩
        · rw [← he, hstep, if_neg (by rw [e1]; simp)]
        · show (k' : Int).toNat < ((k' + 1 : Nat) : Int).toNat
          omega
end
end Go.Proofs.Ytjmdoiakcakfoaa
set_option maxRecDepth 100000
namespace Go.Proofs.Ytjmdoiakcakfoaa
open Go.Ax
theorem emit0_futs (s : VS) (e : Ev) : (s.emit0 e).2.futures = s.futures := by
  unfold VS.emit0
  split
  · rfl
  · rfl
  · split <;> rfl
theorem emit_futs (s : VS) (e : Ev) : (s.emit e).2.futures = s.futures := by
  unfold VS.emit
  split
  · exact emit0_futs _ _
  · exact emit0_futs _ _
section
variable {G H : Heap} {m : Nat} {pf po : SlH} {sl : Nat → SlH} {F : Heap} {ex : Value} {st : List SlH} {s : VS}
def FutP (m : Nat) (f : Fut) (H : Heap) (Q : Heap → Prop) : Prop :=
  ∃ (A : Option Addr) (n c : Nat), At H (((⟨m, 0, none⟩ : Addr).add 2).add 22) [.slice A n c] ∧ appC 55 6 48 H A n c (futC f) 1 fun A' n' c' H4 =>
    ∃ a9 : Addr, some (⟨m, 0, none⟩ : Addr) = some a9 ∧ Wr H4 ((a9.add 2).add 22) (.slice A' n' c') Q
theorem VMX.addFut (h : VMX G H m pf po sl F ex st s) (f : Fut) (hl : s.futures.length ≤ 1000000) {Q : Heap → Prop} (q : ∀ H' sl', VMX G H' m pf po sl' F ex st (s.fut f) → Q H') : FutP m f H Q := by
  have hn := h.futLen
  refine ⟨_, _, _, h.c24, h.app (c := 1) (by decide) (new := futC f) (k := 1) rfl rfl (by omega) (by omega) fun A' c' H4 h4 r => ⟨_, rfl, ?_⟩⟩
  have hs6 : ∀ k, setH sl 1 ⟨A', (sl 1).n + 1, c'⟩ (6 + k) = sl (6 + k) := fun k => if_neg (by omega)
  refine h4.wrSl (c := 1) (by decide) r (k := 24) (by decide) (s.fut f) st rfl ?_ (fun c2 hc2 hne => ?_) rfl h.vars h.attrs h.sigs h.stl h.stk fun H13 h13 => q _ _ h13
  · show (s.futures ++ [f]).flatMap futC = s.futures.flatMap futC ++ futC f
    rw [List.flatMap_append]; simp
  · simp only [contC, hs6, if_neg hne]
    rfl
end
section
variable {p : Prg} {G0 H0 G H : Heap} {m rb tb : Nat} {q : SlH} {pf po : SlH} {sl : Nat → SlH} {F : Heap} {ex : Value} {st : List SlH} {r : Rn}
theorem RX.setVs (h : RX p G0 H0 G H m rb tb q pf po sl F ex st r) {H' : Heap} {sl' : Nat → SlH} {st' : List SlH} {s' : VS} (v : VMX G H' m pf po sl' F ex st' s') : RX p G0 G0 G H' m rb tb q pf po sl' F ex st' (r.vs s') :=
  ⟨v, h.pr, h.base, h.base.trans (v.gf.trans v.fh), Sub.refl _, h.gr, h.gt, none_below h.g0h h.r0, none_below h.g0h h.t0, h.ne, h.sq, fun b hb => ⟨none_below h.g0h (h.oq b hb).1, (h.oq b hb).2⟩⟩
theorem RX.low (h : RX p G0 H0 G H m rb tb q pf po sl F ex st r) : RX p G0 G0 G H m rb tb q pf po sl F ex st r := h.setVs h.vm
theorem RX.t2 (h : RX p G0 H0 G H m rb tb q pf po sl F ex st r) : At H ((⟨tb, 0, none⟩ : Addr).add 2) [.int .i64 r.t.scope] := at_cells h.ht rfl
theorem RX.t1 (h : RX p G0 H0 G H m rb tb q pf po sl F ex st r) : At H ((⟨tb, 0, none⟩ : Addr).add 1) [.int .i64 r.t.pc] := at_cells h.ht rfl
structure RZ (p : Prg) (G0 : Heap) (m rb tb : Nat) (pf po : SlH) (ex : Value) (r : Rn) (H : Heap) : Prop where
  out : ∃ G F q sl st, RX p G0 G0 G H m rb tb q pf po sl F ex st r
theorem RX.z (h : RX p G0 H0 G H m rb tb q pf po sl F ex st r) : RZ p G0 m rb tb pf po ex r H := ⟨G, F, q, sl, st, h.low⟩
theorem t91 (h : RX p G0 H0 G H m rb tb q pf po sl F ex st r) (hb : r.t.stack.length ≤ 1000) (hp : ScpOk r.s.scopes) (hs : r.t.scope < r.s.scopes.length) (hc : 0 ≤ r.s.count) (hc2 : r.s.count ≤ 100000) (hm : r.s.made.length ≤ 100000) (hf : r.s.futures.length ≤ 1000000) (e : Ev) :
    Tr Try.prog 91 #[.pointer (some ⟨rb, 0, none⟩), e.val] H fun v H' => v = .tuple #[] ∧ RZ p G0 m rb tb pf po ex (r.opens e) H' := by
  apply v91; unfold F91
  refine ⟨_, rfl, _, h.r0_, H, Sub.refl _, _, rfl, _, h.r1, _, rfl, _, h.t2, Sub.refl _, Sub.refl _, _, rfl, _, h.r1, _, rfl, _, h.t2, _, t68 h.vm hp _ hs, fun ec => ⟨_, rfl, _, _, _, h.vm.c24, fun b hn H1 e1 => ?_⟩, fun ec => ?_⟩
  · rw [h.vm.futLen] at e1
    refine h.leaves [(r.s.futures.length : Int)] (by simp; omega) hn e1 fun G' F' q' H' h' => ?_
    have key : FutP m ⟨e.kind, 0, r.t.scope, true, 0, 3⟩ H' fun H'' => Value.tuple #[] = .tuple #[] ∧ RZ p G0 m rb tb pf po ex (r.opens e) H'' :=
      h'.vm.addFut ⟨e.kind, 0, r.t.scope, true, 0, 3⟩ hf fun H'' sl'' v => ⟨rfl, by
        have := (h'.setVs v).z
        unfold Rn.opens; rw [if_pos ec]; exact this⟩
    exact ⟨_, rfl, key, key⟩
  · refine (t69 h.vm e hc hc2 hm).mono fun v H1 ⟨hv, sl1, v1⟩ => ⟨_, _, hv, fun eo => ⟨rfl, ?_⟩, fun eo => ⟨_, rfl, _, _, _, v1.c24, fun b hn H2 e2 => ?_⟩⟩
    · have := (h.setVs v1).z
      unfold Rn.opens; rw [if_neg (by rw [ec]; simp), if_pos eo]; exact this
    · rw [v1.futLen] at e2
      have h1 := h.setVs v1
      refine h1.leaves [((r.s.emit e).2.futures.length : Int)] (by show r.t.stack.length + 1 ≤ _; omega) hn e2 fun G' F' q' H' h' => ?_
      have key : FutP m ⟨e.kind, (r.s.emit e).1.1, r.t.scope, false, 0, 0⟩ H' fun H'' => Value.tuple #[] = .tuple #[] ∧ RZ p G0 m rb tb pf po ex (r.opens e) H'' :=
        h'.vm.addFut ⟨e.kind, (r.s.emit e).1.1, r.t.scope, false, 0, 0⟩ (by show (r.s.emit e).2.futures.length ≤ _; rw [emit_futs]; exact hf) fun H'' sl'' v => ⟨rfl, by
          have := (h'.setVs v).z
          unfold Rn.opens; rw [if_neg (by rw [ec]; simp), if_neg (by rw [eo]; simp)]; exact this⟩
      exact ⟨_, rfl, key, key⟩
end
end Go.Proofs.Ytjmdoiakcakfoaa
set_option maxRecDepth 100000
namespace Go.Proofs.Ytjmdoiakcakfoaa
open Go.Ax
theorem asked_cases (r : Rn) (d : Nat) : r.asked d = (-1, { r with fault := true }) ∨ ∃ v : Int, r.asked d = (v, r) ∧ 0 ≤ v ∧ v < r.s.futures.length := by
  unfold Rn.asked
  split
  · rename_i v _
    split
    · exact .inl rfl
    · rename_i hv
      simp at hv
      exact .inr ⟨v, rfl, by omega, by omega⟩
  · exact .inl rfl
section
variable {p : Prg} {G0 H0 G H : Heap} {m rb tb : Nat} {q : SlH} {pf po : SlH} {sl : Nat → SlH} {F : Heap} {ex : Value} {st : List SlH} {r : Rn}
theorem t84 (h : RX p G0 H0 G H m rb tb q pf po sl F ex st r) (hb : r.t.stack.length ≤ 1000) (hpc : 0 ≤ r.t.pc ∧ r.t.pc ≤ 1000) (op a : Int) :
    Tr Try.prog 84 #[.pointer (some ⟨rb, 0, none⟩), .agg #[.int .i64 op, .int .i64 a]] H fun v H' => v = .int .i64 (r.awaits op).1 ∧ RZ p G0 m rb tb pf po ex (r.awaits op).2 H' := by
  have hw : IntKind.i64.wrap (r.t.pc + 1) = r.t.pc + 1 := wrapi (by omega) (by omega)
  apply v84; unfold F84
  refine (t88 h (by omega) 0 (by omega)).mono fun v H1 ⟨hv, G1, F1, q1, h1⟩ => ⟨_, hv, fun e => ⟨?_, ?_⟩, fun e => ?_⟩
  · unfold Rn.awaits; rw [if_pos e]
  · unfold Rn.awaits; rw [if_pos e]; exact h1.z
  · rcases asked_cases r 0 with hx | ⟨k, hx, hk0, hk1⟩
    · rw [hx] at e; simp at e
    · obtain ⟨f, hf⟩ := get_some (l := r.s.futures) (i := k.toNat) (by omega)
      have haw : r.awaits op = if (op == 23 && !f.done) = true then (1, { r with t := { r.t with waits := k } }) else
          if (op == 24) = true then (0, (r.take.2.leave [truthM f.done]).pc (r.t.pc + 1)) else (0, (r.take.2.leave [f.value, f.status]).pc (r.t.pc + 1)) := by
        unfold Rn.awaits
        rw [hx, if_neg (by rw [decide_eq_true_iff]; omega)]
        simp only
        rw [hf]
      rw [hx] at h1 ⊢
      simp only at h1 ⊢
      obtain ⟨a1, ha1, hat1⟩ := h1.vm.fut hf
      have hb2 := take_len r
      refine ⟨_, rfl, _, h1.r0_, _, rfl, _, _, _, h1.vm.c24, a1, ⟨ha1, hk0, by rw [h1.vm.futLen]; exact hk1⟩, _, _, _, _, _, _, hat1, fun e2 => ⟨_, rfl, _, h1.r1, _, rfl, ?_⟩, fun e2 => ?_⟩
      · rw [haw, if_pos e2]
        exact h1.setT (i := 7) (by decide) { r.t with waits := k } q1 rfl h1.sq h1.oq fun G' F' H' h' => ⟨rfl, h'.z⟩
      · refine h1.takes (by omega) fun G2 F2 q2 H2 h2 => ⟨_, rfl, fun e3 => ⟨_, t73 _ _, fun b hn H3 e4 => ?_⟩, fun e3 b hn H3 e4 => ?_⟩
        · refine h2.leaves [truthM f.done] (by simp; omega) hn e4 fun G3 F3 q3 H4 h3 => ⟨_, rfl, _, h3.r1, _, rfl, r.t.pc, ?_, _, rfl, ?_⟩
          · have := h3.t1; rw [leave_pc, take_pc] at this; exact this
          · rw [hw, haw, if_neg (by rw [e2]; simp), if_pos e3]
            exact h3.setPc fun G' F' H' h' => ⟨rfl, h'.z⟩
        · refine h2.leaves [f.value, f.status] (by simp; omega) hn e4 fun G3 F3 q3 H4 h3 => ⟨_, rfl, _, h3.r1, _, rfl, r.t.pc, ?_, _, rfl, ?_⟩
          · have := h3.t1; rw [leave_pc, take_pc] at this; exact this
          · rw [hw, haw, if_neg (by rw [e2]; simp), if_neg (by rw [e3]; simp)]
            exact h3.setPc fun G' F' H' h' => ⟨rfl, h'.z⟩
end
end Go.Proofs.Ytjmdoiakcakfoaa
set_option maxRecDepth 100000
namespace Go.Proofs.Ytjmdoiakcakfoaa
open Go.Ax
theorem take_upd (r : Rn) : r.take.2.t.update = r.t.update := by unfold Rn.take; cases r.t.stack.getLast? <;> rfl
theorem take_fut (r : Rn) : r.take.2.t.future = r.t.future := by unfold Rn.take; cases r.t.stack.getLast? <;> rfl
theorem take_scope (r : Rn) : r.take.2.t.scope = r.t.scope := by unfold Rn.take; cases r.t.stack.getLast? <;> rfl
section
variable {p : Prg} {G0 H0 G H : Heap} {m rb tb : Nat} {q : SlH} {pf po : SlH} {sl : Nat → SlH} {F : Heap} {ex : Value} {st : List SlH} {r : Rn}
theorem RX.t5 (h : RX p G0 H0 G H m rb tb q pf po sl F ex st r) : At H ((⟨tb, 0, none⟩ : Addr).add 5) [.int .i64 r.t.future] := at_cells h.ht rfl
theorem RX.t6 (h : RX p G0 H0 G H m rb tb q pf po sl F ex st r) : At H ((⟨tb, 0, none⟩ : Addr).add 6) [.int .i64 r.t.update] := at_cells h.ht rfl
theorem RX.emits (h : RX p G0 H0 G H m rb tb q pf po sl F ex st r) (e : Ev) (hc : 0 ≤ r.s.count) (hc2 : r.s.count ≤ 100000) (hm : r.s.made.length ≤ 100000) {Q : Heap → Prop} (k : ∀ H', RZ p G0 m rb tb pf po ex (r.vs (r.s.emit e).2) H' → Q H') :
    Tr Try.prog 69 #[.pointer (some ⟨m, 0, none⟩), e.val] H fun v H' => ∃ (x : Int) (b : Bool), v = .tuple #[.int .i64 x, .bool b] ∧ Q H' :=
  (t69 h.vm e hc hc2 hm).mono fun _ H1 ⟨hv, _, v1⟩ => ⟨_, _, hv, k H1 (h.setVs v1).z⟩
theorem t85 (h : RX p G0 H0 G H m rb tb q pf po sl F ex st r) (hb : r.t.stack.length ≤ 1000) (hp : ScpOk r.s.scopes) (hs : 0 < r.s.scopes.length) (hf : r.t.future < r.s.futures.length) (hc : 0 ≤ r.s.count) (hc2 : r.s.count ≤ 100000) (hm : r.s.made.length ≤ 100000) (op a : Int) :
    Tr Try.prog 85 #[.pointer (some ⟨rb, 0, none⟩), .agg #[.int .i64 op, .int .i64 a]] H fun v H' => v = .int .i64 (r.ends op).1 ∧ RZ p G0 m rb tb pf po ex (r.ends op).2 H' := by
  apply v85; unfold F85
  refine ⟨_, rfl, _, h.r0_, h.takes (by omega) fun G1 F1 q1 H1 h1 => ⟨_, rfl, _, rfl, _, h1.r2, fun e => ?_, fun e => ?_⟩⟩
  · unfold Rn.ends; rw [if_pos e]; exact ⟨rfl, h1.z⟩
  have hs1 := take_s r
  have t6 : At H1 ((⟨tb, 0, none⟩ : Addr).add 6) [.int .i64 r.t.update] := by have := h1.t6; rw [take_upd] at this; exact this
  have t5 : At H1 ((⟨tb, 0, none⟩ : Addr).add 5) [.int .i64 r.t.future] := by have := h1.t5; rw [take_fut] at this; exact this
  have em : ∀ (ev : Ev) {Q : Heap → Prop}, (∀ H', RZ p G0 m rb tb pf po ex (r.take.2.vs (r.s.emit ev).2) H' → Q H') → Tr Try.prog 69 #[.pointer (some ⟨m, 0, none⟩), ev.val] H1 fun v H' => ∃ (x : Int) (b : Bool), v = .tuple #[.int .i64 x, .bool b] ∧ Q H' := fun ev Q k =>
    h1.emits ev (by rw [hs1]; exact hc) (by rw [hs1]; exact hc2) (by rw [hs1]; exact hm) fun H' z => k H' (by rw [hs1] at z; exact z)
  have cn : Tr Try.prog 68 #[.pointer (some ⟨m, 0, none⟩), .int .i64 0] H1 fun v H' => v = .bool (r.s.cancelled 0) ∧ Sub H1 H' := by
    have := t68 h1.vm (by rw [hs1]; exact hp) 0 (by rw [hs1]; omega)
    rw [hs1] at this; exact this
  have dn : ∀ (k : Int) {Q : Heap → Prop}, (∀ H', RZ p G0 m rb tb pf po ex (r.take.2.vs (r.s.setDone r.t.future r.take.1 k)) H' → Q H') → Tr Try.prog 29 #[.pointer (some ⟨m, 0, none⟩), .int .i64 r.t.future, .int .i64 r.take.1, .int .i64 k] H1 fun v H' => v = .tuple #[] ∧ Q H' := fun k Q g =>
    (t29 h1.vm r.t.future r.take.1 k (by rw [hs1]; exact hf)).mono fun v H' ⟨e, v1⟩ => ⟨e, g H' (by have := (h1.setVs v1).z; rw [hs1] at this; exact this)⟩
  have he : r.ends op = (2, r.take.2.vs (
      if (op == 35) = true then (r.s.emit (evM 18 r.take.1 0 0)).2 else
      if (r.t.update != 0) = true then (r.s.emit (evM 14 r.t.update r.take.1 (if (op == 37) = true then 1 else 0))).2 else
      if decide (r.t.future ≥ 0) = true then r.s.setDone r.t.future r.take.1 (if (op == 37) = true then 1 else 0) else
      if (op == 36) = true then (r.s.emit (evM 15 r.take.1 0 0)).2 else
      if r.s.cancelled 0 = true then (r.s.emit (evM 17 r.take.1 0 0)).2 else (r.s.emit (evM 16 r.take.1 0 0)).2)) := by
    unfold Rn.ends; rw [if_neg (by rw [e]; simp)]
  rw [he]
  refine ⟨fun e37 => ?_, fun e37 => ?_⟩
  · refine ⟨fun e35 => em (evM 18 r.take.1 0 0) fun H' z => ⟨rfl, ?_⟩, fun e35 => ⟨_, rfl, _, h1.r1, _, rfl, _, t6, fun eu => ⟨_, rfl, _, h1.r1, _, rfl, _, t6, em (evM 14 r.t.update r.take.1 1) fun H' z => ⟨rfl, ?_⟩⟩, fun eu => ⟨_, rfl, _, h1.r1, _, rfl, _, t5,
      fun ef => ⟨_, rfl, _, h1.r1, _, rfl, _, t5, dn 1 fun H' z => ⟨rfl, ?_⟩⟩, fun ef => ⟨fun e36 => em (evM 15 r.take.1 0 0) fun H' z => ⟨rfl, ?_⟩, fun e36 => ⟨_, cn, fun ec => em (evM 17 r.take.1 0 0) fun H' z => ⟨rfl, ?_⟩, fun ec => em (evM 16 r.take.1 0 0) fun H' z => ⟨rfl, ?_⟩⟩⟩⟩⟩⟩
    all_goals simp only [*, if_true, if_false, Bool.false_eq_true]
    all_goals exact z
  · refine ⟨fun e35 => em (evM 18 r.take.1 0 0) fun H' z => ⟨rfl, ?_⟩, fun e35 => ⟨_, rfl, _, h1.r1, _, rfl, _, t6, fun eu => ⟨_, rfl, _, h1.r1, _, rfl, _, t6, em (evM 14 r.t.update r.take.1 0) fun H' z => ⟨rfl, ?_⟩⟩, fun eu => ⟨_, rfl, _, h1.r1, _, rfl, _, t5,
      fun ef => ⟨_, rfl, _, h1.r1, _, rfl, _, t5, dn 0 fun H' z => ⟨rfl, ?_⟩⟩, fun ef => ⟨fun e36 => em (evM 15 r.take.1 0 0) fun H' z => ⟨rfl, ?_⟩, fun e36 => ⟨_, cn, fun ec => em (evM 17 r.take.1 0 0) fun H' z => ⟨rfl, ?_⟩, fun ec => em (evM 16 r.take.1 0 0) fun H' z => ⟨rfl, ?_⟩⟩⟩⟩⟩⟩
    all_goals simp only [*, if_true, if_false, Bool.false_eq_true]
    all_goals exact z
end
end Go.Proofs.Ytjmdoiakcakfoaa
set_option maxRecDepth 100000
set_option linter.unusedVariables false
namespace Go.Proofs.Ytjmdoiakcakfoaa
open Go.Ax
noncomputable def c86 : Cx := { P := Try.prog, res := [], pub := [26, 95, 127], loops := [], quiet := [68, 73], draws := [⟨10, [], [], false, true⟩, ⟨11, [7], [], false, true⟩, ⟨19, [], [], false, true⟩], asm := true }
def F86 (r : Option Addr) (oCode : Int) (oA : Int) (H : Heap) (K : Value → Heap → Prop) : Prop :=
 ∃ (a : Addr),
 r = some a ∧
 ∃ (v : Option Addr),
 At H (a.add (nat_lit 0)) [Value.pointer v] ∧
 ((oCode == (27 : Int)) = true →
 Tr Try.prog (52 : Nat) #[Value.pointer r] H fun (v1 : Value) (H' : Heap) =>
 ∃ (x : Int),
 v1 = Value.int IntKind.i64 x ∧
 ∃ (a1 : Addr),
 r = some a1 ∧
 ∃ (b : Bool),
 At H' (a1.add (nat_lit 2)) [Value.bool b] ∧
 (b = true → K (Value.tuple #[]) H') ∧
 (b = false →
 ∃ (a2 : Addr),
 v = some a2 ∧
 ∃ (A : Option Addr),
 ∃ (n : Nat),
 ∃ (c : Nat),
 At H' ((a2.add (nat_lit 2)).add (nat_lit 21)) [Value.slice A n c] ∧
 (decide ((↑n : Int) ≥ (16 : Int)) = true → Tr Try.prog (70 : Nat) #[Value.pointer v, Value.int IntKind.i64 (-3 : Int)] H' fun (v2 : Value) (H'1 : Heap) => v2 = Value.tuple #[] ∧ K (Value.tuple #[]) H'1) ∧
 (decide ((↑n : Int) ≥ (16 : Int)) = false →
 ∃ (a3 : Addr),
 v = some a3 ∧
 ∃ (A1 : Option Addr),
 ∃ (n1 : Nat),
 ∃ (c1 : Nat),
 At H' ((a3.add (nat_lit 2)).add (nat_lit 22)) [Value.slice A1 n1 c1] ∧
 ∃ (a4 : Addr),
 v = some a4 ∧
 ∃ (a5 : Addr),
 r = some a5 ∧
 (∃ (A2 : Option Addr),
 ∃ (n2 : Nat),
 ∃ (c2 : Nat),
 At H' ((a4.add (nat_lit 2)).add (nat_lit 22)) [Value.slice A2 n2 c2] ∧
 ∃ (v3 : Option Addr),
 At H' (a5.add (nat_lit 1)) [Value.pointer v3] ∧
 ∃ (a6 : Addr),
 v3 = some a6 ∧
 ∃ (x1 : Int),
 At H' (a6.add (nat_lit 2)) [Value.int IntKind.i64 x1] ∧
 appC (55 : Nat) (nat_lit 6) (nat_lit 48) H' A2 n2 c2 [Value.int IntKind.i64 (0 : Int), Value.int IntKind.i64 (0 : Int), Value.int IntKind.i64 x1, Value.bool false, Value.int IntKind.i64 (0 : Int), Value.int IntKind.i64 (0 : Int)] (1 : Nat) fun (A' : Option Addr) (n' c' : Nat) (H'2 : Heap) =>
 ∃ (a7 : Addr),
 v = some a7 ∧
 ∃ (c3 : Array Value),
 ∃ (T : TypeId),
 H'2 ((a7.add (nat_lit 2)).add (nat_lit 22)).block = some (Obj.cells c3 T) ∧
 ((a7.add (nat_lit 2)).add (nat_lit 22)).spot = none ∧
 ((a7.add (nat_lit 2)).add (nat_lit 22)).off + [Value.slice A' n' c'].length ≤ c3.size ∧
 ∀ (H1 : Heap),
 H1 = H'2.upd ((a7.add (nat_lit 2)).add (nat_lit 22)).block (Obj.cells (splice c3 ((a7.add (nat_lit 2)).add (nat_lit 22)).off [Value.slice A' n' c']) T) →
 ∃ (a8 : Addr),
 v = some a8 ∧
 ∃ (a9 : Addr),
 r = some a9 ∧
 (∃ (A3 : Option Addr),
 ∃ (n3 : Nat),
 ∃ (c4 : Nat),
 At H1 ((a8.add (nat_lit 2)).add (nat_lit 21)) [Value.slice A3 n3 c4] ∧
 ∃ (v4 : Option Addr),
 At H1 (a9.add (nat_lit 1)) [Value.pointer v4] ∧
 ∃ (a10 : Addr),
 v4 = some a10 ∧
 ∃ (x2 : Int),
 At H1 (a10.add (nat_lit 2)) [Value.int IntKind.i64 x2] ∧
 appC (60 : Nat) (nat_lit 9) (nat_lit 88) H1 A3 n3 c4 [Value.int IntKind.i64 oA, Value.int IntKind.i64 (0 : Int), Value.int IntKind.i64 x2, Value.slice none (0 : Nat) (0 : Nat), Value.int IntKind.i64 x, Value.int IntKind.i64 (↑n1 : Int), Value.int IntKind.i64 (0 : Int), Value.int IntKind.i64 (-1 : Int), Value.int IntKind.i64 (-1 : Int)] (1 : Nat) fun (A'1 : Option Addr) (n'1 c'1 : Nat) (H'3 : Heap) =>
 ∃ (a11 : Addr),
 v = some a11 ∧
 ∃ (c5 : Array Value),
 ∃ (T1 : TypeId),
 H'3 ((a11.add (nat_lit 2)).add (nat_lit 21)).block = some (Obj.cells c5 T1) ∧
 ((a11.add (nat_lit 2)).add (nat_lit 21)).spot = none ∧
 ((a11.add (nat_lit 2)).add (nat_lit 21)).off + [Value.slice A'1 n'1 c'1].length ≤ c5.size ∧
 ∀ (H11 : Heap),
 H11 = H'3.upd ((a11.add (nat_lit 2)).add (nat_lit 21)).block (Obj.cells (splice c5 ((a11.add (nat_lit 2)).add (nat_lit 21)).off [Value.slice A'1 n'1 c'1]) T1) →
 ∀ (b1 : Nat), H11 b1 = none → ∀ (H12 : Heap), H12 = H11.upd b1 (Obj.cells #[Value.int IntKind.i64 (↑n1 : Int)] (2 : Nat)) → Tr Try.prog (72 : Nat) #[Value.pointer r, Value.slice (some ({ block := b1, off := (0 : Nat) } : Addr)) (1 : Nat) (1 : Nat)] H12 fun (v5 : Value) (H'4 : Heap) => v5 = Value.tuple #[] ∧ K (Value.tuple #[]) H'4) ∧
 ∃ (v6 : Option Addr),
 At H1 (a9.add (nat_lit 1)) [Value.pointer v6] ∧
 ∃ (a12 : Addr),
 v6 = some a12 ∧
 (∃ (A4 : Option Addr),
 ∃ (n4 : Nat),
 ∃ (c6 : Nat),
 At H1 ((a8.add (nat_lit 2)).add (nat_lit 21)) [Value.slice A4 n4 c6] ∧
 ∃ (x3 : Int),
 At H1 (a12.add (nat_lit 2)) [Value.int IntKind.i64 x3] ∧
 appC (60 : Nat) (nat_lit 9) (nat_lit 88) H1 A4 n4 c6 [Value.int IntKind.i64 oA, Value.int IntKind.i64 (0 : Int), Value.int IntKind.i64 x3, Value.slice none (0 : Nat) (0 : Nat), Value.int IntKind.i64 x, Value.int IntKind.i64 (↑n1 : Int), Value.int IntKind.i64 (0 : Int), Value.int IntKind.i64 (-1 : Int), Value.int IntKind.i64 (-1 : Int)] (1 : Nat) fun (A'2 : Option Addr) (n'2 c'2 : Nat) (H'5 : Heap) =>
 ∃ (a13 : Addr),
 v = some a13 ∧
 ∃ (c7 : Array Value),
 ∃ (T2 : TypeId),
 H'5 ((a13.add (nat_lit 2)).add (nat_lit 21)).block = some (Obj.cells c7 T2) ∧
 ((a13.add (nat_lit 2)).add (nat_lit 21)).spot = none ∧
 ((a13.add (nat_lit 2)).add (nat_lit 21)).off + [Value.slice A'2 n'2 c'2].length ≤ c7.size ∧
 ∀ (H13 : Heap),
 H13 = H'5.upd ((a13.add (nat_lit 2)).add (nat_lit 21)).block (Obj.cells (splice c7 ((a13.add (nat_lit 2)).add (nat_lit 21)).off [Value.slice A'2 n'2 c'2]) T2) →
 ∀ (b2 : Nat), H13 b2 = none → ∀ (H14 : Heap), H14 = H13.upd b2 (Obj.cells #[Value.int IntKind.i64 (↑n1 : Int)] (2 : Nat)) → Tr Try.prog (72 : Nat) #[Value.pointer r, Value.slice (some ({ block := b2, off := (0 : Nat) } : Addr)) (1 : Nat) (1 : Nat)] H14 fun (v7 : Value) (H'6 : Heap) => v7 = Value.tuple #[] ∧ K (Value.tuple #[]) H'6) ∧
 ∃ (x4 : Int),
 At H1 (a12.add (nat_lit 2)) [Value.int IntKind.i64 x4] ∧
 (∃ (A5 : Option Addr),
 ∃ (n5 : Nat),
 ∃ (c8 : Nat),
 At H1 ((a8.add (nat_lit 2)).add (nat_lit 21)) [Value.slice A5 n5 c8] ∧
 appC (60 : Nat) (nat_lit 9) (nat_lit 88) H1 A5 n5 c8 [Value.int IntKind.i64 oA, Value.int IntKind.i64 (0 : Int), Value.int IntKind.i64 x4, Value.slice none (0 : Nat) (0 : Nat), Value.int IntKind.i64 x, Value.int IntKind.i64 (↑n1 : Int), Value.int IntKind.i64 (0 : Int), Value.int IntKind.i64 (-1 : Int), Value.int IntKind.i64 (-1 : Int)] (1 : Nat) fun (A'3 : Option Addr) (n'3 c'3 : Nat) (H'7 : Heap) =>
 ∃ (a14 : Addr),
 v = some a14 ∧
 ∃ (c9 : Array Value),
 ∃ (T3 : TypeId),
 H'7 ((a14.add (nat_lit 2)).add (nat_lit 21)).block = some (Obj.cells c9 T3) ∧
 ((a14.add (nat_lit 2)).add (nat_lit 21)).spot = none ∧
 ((a14.add (nat_lit 2)).add (nat_lit 21)).off + [Value.slice A'3 n'3 c'3].length ≤ c9.size ∧
 ∀ (H15 : Heap),
 H15 = H'7.upd ((a14.add (nat_lit 2)).add (nat_lit 21)).block (Obj.cells (splice c9 ((a14.add (nat_lit 2)).add (nat_lit 21)).off [Value.slice A'3 n'3 c'3]) T3) →
 ∀ (b3 : Nat), H15 b3 = none → ∀ (H16 : Heap), H16 = H15.upd b3 (Obj.cells #[Value.int IntKind.i64 (↑n1 : Int)] (2 : Nat)) → Tr Try.prog (72 : Nat) #[Value.pointer r, Value.slice (some ({ block := b3, off := (0 : Nat) } : Addr)) (1 : Nat) (1 : Nat)] H16 fun (v8 : Value) (H'8 : Heap) => v8 = Value.tuple #[] ∧ K (Value.tuple #[]) H'8) ∧
 ∃ (A6 : Option Addr),
 ∃ (n6 : Nat),
 ∃ (c10 : Nat),
 At H1 ((a8.add (nat_lit 2)).add (nat_lit 21)) [Value.slice A6 n6 c10] ∧
 appC (60 : Nat) (nat_lit 9) (nat_lit 88) H1 A6 n6 c10 [Value.int IntKind.i64 oA, Value.int IntKind.i64 (0 : Int), Value.int IntKind.i64 x4, Value.slice none (0 : Nat) (0 : Nat), Value.int IntKind.i64 x, Value.int IntKind.i64 (↑n1 : Int), Value.int IntKind.i64 (0 : Int), Value.int IntKind.i64 (-1 : Int), Value.int IntKind.i64 (-1 : Int)] (1 : Nat) fun (A'4 : Option Addr) (n'4 c'4 : Nat) (H'9 : Heap) =>
 ∃ (a15 : Addr),
 v = some a15 ∧
 ∃ (c11 : Array Value),
 ∃ (T4 : TypeId),
 H'9 ((a15.add (nat_lit 2)).add (nat_lit 21)).block = some (Obj.cells c11 T4) ∧
 ((a15.add (nat_lit 2)).add (nat_lit 21)).spot = none ∧
 ((a15.add (nat_lit 2)).add (nat_lit 21)).off + [Value.slice A'4 n'4 c'4].length ≤ c11.size ∧
 ∀ (H17 : Heap),
 H17 = H'9.upd ((a15.add (nat_lit 2)).add (nat_lit 21)).block (Obj.cells (splice c11 ((a15.add (nat_lit 2)).add (nat_lit 21)).off [Value.slice A'4 n'4 c'4]) T4) →
 ∀ (b4 : Nat), H17 b4 = none → ∀ (H18 : Heap), H18 = H17.upd b4 (Obj.cells #[Value.int IntKind.i64 (↑n1 : Int)] (2 : Nat)) → Tr Try.prog (72 : Nat) #[Value.pointer r, Value.slice (some ({ block := b4, off := (0 : Nat) } : Addr)) (1 : Nat) (1 : Nat)] H18 fun (v9 : Value) (H'10 : Heap) => v9 = Value.tuple #[] ∧ K (Value.tuple #[]) H'10) ∧
 ∃ (v10 : Option Addr),
 At H' (a5.add (nat_lit 1)) [Value.pointer v10] ∧
 ∃ (a16 : Addr),
 v10 = some a16 ∧
 (∃ (A7 : Option Addr),
 ∃ (n7 : Nat),
 ∃ (c12 : Nat),
 At H' ((a4.add (nat_lit 2)).add (nat_lit 22)) [Value.slice A7 n7 c12] ∧
 ∃ (x5 : Int),
 At H' (a16.add (nat_lit 2)) [Value.int IntKind.i64 x5] ∧
 appC (55 : Nat) (nat_lit 6) (nat_lit 48) H' A7 n7 c12 [Value.int IntKind.i64 (0 : Int), Value.int IntKind.i64 (0 : Int), Value.int IntKind.i64 x5, Value.bool false, Value.int IntKind.i64 (0 : Int), Value.int IntKind.i64 (0 : Int)] (1 : Nat) fun (A'5 : Option Addr) (n'5 c'5 : Nat) (H'11 : Heap) =>
 ∃ (a17 : Addr),
 v = some a17 ∧
 ∃ (c13 : Array Value),
 ∃ (T5 : TypeId),
 H'11 ((a17.add (nat_lit 2)).add (nat_lit 22)).block = some (Obj.cells c13 T5) ∧
 ((a17.add (nat_lit 2)).add (nat_lit 22)).spot = none ∧
 ((a17.add (nat_lit 2)).add (nat_lit 22)).off + [Value.slice A'5 n'5 c'5].length ≤ c13.size ∧
 ∀ (H19 : Heap),
 H19 = H'11.upd ((a17.add (nat_lit 2)).add (nat_lit 22)).block (Obj.cells (splice c13 ((a17.add (nat_lit 2)).add (nat_lit 22)).off [Value.slice A'5 n'5 c'5]) T5) →
 ∃ (a18 : Addr),
 v = some a18 ∧
 ∃ (a19 : Addr),
 r = some a19 ∧
 (∃ (A8 : Option Addr),
 ∃ (n8 : Nat),
 ∃ (c14 : Nat),
 At H19 ((a18.add (nat_lit 2)).add (nat_lit 21)) [Value.slice A8 n8 c14] ∧
 ∃ (v11 : Option Addr),
 At H19 (a19.add (nat_lit 1)) [Value.pointer v11] ∧
 ∃ (a20 : Addr),
 v11 = some a20 ∧
 ∃ (x6 : Int),
 At H19 (a20.add (nat_lit 2)) [Value.int IntKind.i64 x6] ∧
 appC (60 : Nat) (nat_lit 9) (nat_lit 88) H19 A8 n8 c14 [Value.int IntKind.i64 oA, Value.int IntKind.i64 (0 : Int), Value.int IntKind.i64 x6, Value.slice none (0 : Nat) (0 : Nat), Value.int IntKind.i64 x, Value.int IntKind.i64 (↑n1 : Int), Value.int IntKind.i64 (0 : Int), Value.int IntKind.i64 (-1 : Int), Value.int IntKind.i64 (-1 : Int)] (1 : Nat) fun (A'6 : Option Addr) (n'6 c'6 : Nat) (H'12 : Heap) =>
 ∃ (a21 : Addr),
 v = some a21 ∧
 ∃ (c15 : Array Value),
 ∃ (T6 : TypeId),
 H'12 ((a21.add (nat_lit 2)).add (nat_lit 21)).block = some (Obj.cells c15 T6) ∧
 ((a21.add (nat_lit 2)).add (nat_lit 21)).spot = none ∧
 ((a21.add (nat_lit 2)).add (nat_lit 21)).off + [Value.slice A'6 n'6 c'6].length ≤ c15.size ∧
 ∀ (H110 : Heap),
 H110 = H'12.upd ((a21.add (nat_lit 2)).add (nat_lit 21)).block (Obj.cells (splice c15 ((a21.add (nat_lit 2)).add (nat_lit 21)).off [Value.slice A'6 n'6 c'6]) T6) →
 ∀ (b5 : Nat), H110 b5 = none → ∀ (H111 : Heap), H111 = H110.upd b5 (Obj.cells #[Value.int IntKind.i64 (↑n1 : Int)] (2 : Nat)) → Tr Try.prog (72 : Nat) #[Value.pointer r, Value.slice (some ({ block := b5, off := (0 : Nat) } : Addr)) (1 : Nat) (1 : Nat)] H111 fun (v12 : Value) (H'13 : Heap) => v12 = Value.tuple #[] ∧ K (Value.tuple #[]) H'13) ∧
 ∃ (v13 : Option Addr),
 At H19 (a19.add (nat_lit 1)) [Value.pointer v13] ∧
 ∃ (a22 : Addr),
 v13 = some a22 ∧
 (∃ (A9 : Option Addr),
 ∃ (n9 : Nat),
 ∃ (c16 : Nat),
 At H19 ((a18.add (nat_lit 2)).add (nat_lit 21)) [Value.slice A9 n9 c16] ∧
 ∃ (x7 : Int),
 At H19 (a22.add (nat_lit 2)) [Value.int IntKind.i64 x7] ∧
 appC (60 : Nat) (nat_lit 9) (nat_lit 88) H19 A9 n9 c16 [Value.int IntKind.i64 oA, Value.int IntKind.i64 (0 : Int), Value.int IntKind.i64 x7, Value.slice none (0 : Nat) (0 : Nat), Value.int IntKind.i64 x, Value.int IntKind.i64 (↑n1 : Int), Value.int IntKind.i64 (0 : Int), Value.int IntKind.i64 (-1 : Int), Value.int IntKind.i64 (-1 : Int)] (1 : Nat) fun (A'7 : Option Addr) (n'7 c'7 : Nat) (H'14 : Heap) =>
 ∃ (a23 : Addr),
 v = some a23 ∧
 ∃ (c17 : Array Value),
 ∃ (T7 : TypeId),
 H'14 ((a23.add (nat_lit 2)).add (nat_lit 21)).block = some (Obj.cells c17 T7) ∧
 ((a23.add (nat_lit 2)).add (nat_lit 21)).spot = none ∧
 ((a23.add (nat_lit 2)).add (nat_lit 21)).off + [Value.slice A'7 n'7 c'7].length ≤ c17.size ∧
 ∀ (H112 : Heap),
 H112 = H'14.upd ((a23.add (nat_lit 2)).add (nat_lit 21)).block (Obj.cells (splice c17 ((a23.add (nat_lit 2)).add (nat_lit 21)).off [Value.slice A'7 n'7 c'7]) T7) →
 ∀ (b6 : Nat), H112 b6 = none → ∀ (H113 : Heap), H113 = H112.upd b6 (Obj.cells #[Value.int IntKind.i64 (↑n1 : Int)] (2 : Nat)) → Tr Try.prog (72 : Nat) #[Value.pointer r, Value.slice (some ({ block := b6, off := (0 : Nat) } : Addr)) (1 : Nat) (1 : Nat)] H113 fun (v14 : Value) (H'15 : Heap) => v14 = Value.tuple #[] ∧ K (Value.tuple #[]) H'15) ∧
 ∃ (x8 : Int),
 At H19 (a22.add (nat_lit 2)) [Value.int IntKind.i64 x8] ∧
 (∃ (A10 : Option Addr),
 ∃ (n10 : Nat),
 ∃ (c18 : Nat),
 At H19 ((a18.add (nat_lit 2)).add (nat_lit 21)) [Value.slice A10 n10 c18] ∧
 appC (60 : Nat) (nat_lit 9) (nat_lit 88) H19 A10 n10 c18 [Value.int IntKind.i64 oA, Value.int IntKind.i64 (0 : Int), Value.int IntKind.i64 x8, Value.slice none (0 : Nat) (0 : Nat), Value.int IntKind.i64 x, Value.int IntKind.i64 (↑n1 : Int), Value.int IntKind.i64 (0 : Int), Value.int IntKind.i64 (-1 : Int), Value.int IntKind.i64 (-1 : Int)] (1 : Nat) fun (A'8 : Option Addr) (n'8 c'8 : Nat) (H'16 : Heap) =>
 ∃ (a24 : Addr),
 v = some a24 ∧
 ∃ (c19 : Array Value),
 ∃ (T8 : TypeId),
 H'16 ((a24.add (nat_lit 2)).add (nat_lit 21)).block = some (Obj.cells c19 T8) ∧
 ((a24.add (nat_lit 2)).add (nat_lit 21)).spot = none ∧
 ((a24.add (nat_lit 2)).add (nat_lit 21)).off + [Value.slice A'8 n'8 c'8].length ≤ c19.size ∧
 ∀ (H114 : Heap),
 H114 = H'16.upd ((a24.add (nat_lit 2)).add (nat_lit 21)).block (Obj.cells (splice c19 ((a24.add (nat_lit 2)).add (nat_lit 21)).off [Value.slice A'8 n'8 c'8]) T8) →
 ∀ (b7 : Nat), H114 b7 = none → ∀ (H115 : Heap), H115 = H114.upd b7 (Obj.cells #[Value.int IntKind.i64 (↑n1 : Int)] (2 : Nat)) → Tr Try.prog (72 : Nat) #[Value.pointer r, Value.slice (some ({ block := b7, off := (0 : Nat) } : Addr)) (1 : Nat) (1 : Nat)] H115 fun (v15 : Value) (H'17 : Heap) => v15 = Value.tuple #[] ∧ K (Value.tuple #[]) H'17) ∧
 ∃ (A11 : Option Addr),
 ∃ (n11 : Nat),
 ∃ (c20 : Nat),
 At H19 ((a18.add (nat_lit 2)).add (nat_lit 21)) [Value.slice A11 n11 c20] ∧
 appC (60 : Nat) (nat_lit 9) (nat_lit 88) H19 A11 n11 c20 [Value.int IntKind.i64 oA, Value.int IntKind.i64 (0 : Int), Value.int IntKind.i64 x8, Value.slice none (0 : Nat) (0 : Nat), Value.int IntKind.i64 x, Value.int IntKind.i64 (↑n1 : Int), Value.int IntKind.i64 (0 : Int), Value.int IntKind.i64 (-1 : Int), Value.int IntKind.i64 (-1 : Int)] (1 : Nat) fun (A'9 : Option Addr) (n'9 c'9 : Nat) (H'18 : Heap) =>
 ∃ (a25 : Addr),
 v = some a25 ∧
 ∃ (c21 : Array Value),
 ∃ (T9 : TypeId),
 H'18 ((a25.add (nat_lit 2)).add (nat_lit 21)).block = some (Obj.cells c21 T9) ∧
 ((a25.add (nat_lit 2)).add (nat_lit 21)).spot = none ∧
 ((a25.add (nat_lit 2)).add (nat_lit 21)).off + [Value.slice A'9 n'9 c'9].length ≤ c21.size ∧
 ∀ (H116 : Heap),
 H116 = H'18.upd ((a25.add (nat_lit 2)).add (nat_lit 21)).block (Obj.cells (splice c21 ((a25.add (nat_lit 2)).add (nat_lit 21)).off [Value.slice A'9 n'9 c'9]) T9) →
 ∀ (b8 : Nat), H116 b8 = none → ∀ (H117 : Heap), H117 = H116.upd b8 (Obj.cells #[Value.int IntKind.i64 (↑n1 : Int)] (2 : Nat)) → Tr Try.prog (72 : Nat) #[Value.pointer r, Value.slice (some ({ block := b8, off := (0 : Nat) } : Addr)) (1 : Nat) (1 : Nat)] H117 fun (v16 : Value) (H'19 : Heap) => v16 = Value.tuple #[] ∧ K (Value.tuple #[]) H'19) ∧
 ∃ (x9 : Int),
 At H' (a16.add (nat_lit 2)) [Value.int IntKind.i64 x9] ∧
 (∃ (A12 : Option Addr),
 ∃ (n12 : Nat),
 ∃ (c22 : Nat),
 At H' ((a4.add (nat_lit 2)).add (nat_lit 22)) [Value.slice A12 n12 c22] ∧
 appC (55 : Nat) (nat_lit 6) (nat_lit 48) H' A12 n12 c22 [Value.int IntKind.i64 (0 : Int), Value.int IntKind.i64 (0 : Int), Value.int IntKind.i64 x9, Value.bool false, Value.int IntKind.i64 (0 : Int), Value.int IntKind.i64 (0 : Int)] (1 : Nat) fun (A'10 : Option Addr) (n'10 c'10 : Nat) (H'20 : Heap) =>
 ∃ (a26 : Addr),
 v = some a26 ∧
 ∃ (c23 : Array Value),
 ∃ (T10 : TypeId),
 H'20 ((a26.add (nat_lit 2)).add (nat_lit 22)).block = some (Obj.cells c23 T10) ∧
 ((a26.add (nat_lit 2)).add (nat_lit 22)).spot = none ∧
 ((a26.add (nat_lit 2)).add (nat_lit 22)).off + [Value.slice A'10 n'10 c'10].length ≤ c23.size ∧
 ∀ (H118 : Heap),
 H118 = H'20.upd ((a26.add (nat_lit 2)).add (nat_lit 22)).block (Obj.cells (splice c23 ((a26.add (nat_lit 2)).add (nat_lit 22)).off [Value.slice A'10 n'10 c'10]) T10) →
 ∃ (a27 : Addr),
 v = some a27 ∧
 ∃ (a28 : Addr),
 r = some a28 ∧
 (∃ (A13 : Option Addr),
 ∃ (n13 : Nat),
 ∃ (c24 : Nat),
 At H118 ((a27.add (nat_lit 2)).add (nat_lit 21)) [Value.slice A13 n13 c24] ∧
 ∃ (v17 : Option Addr),
 At H118 (a28.add (nat_lit 1)) [Value.pointer v17] ∧
 ∃ (a29 : Addr),
 v17 = some a29 ∧
 ∃ (x10 : Int),
 At H118 (a29.add (nat_lit 2)) [Value.int IntKind.i64 x10] ∧
 appC (60 : Nat) (nat_lit 9) (nat_lit 88) H118 A13 n13 c24 [Value.int IntKind.i64 oA, Value.int IntKind.i64 (0 : Int), Value.int IntKind.i64 x10, Value.slice none (0 : Nat) (0 : Nat), Value.int IntKind.i64 x, Value.int IntKind.i64 (↑n1 : Int), Value.int IntKind.i64 (0 : Int), Value.int IntKind.i64 (-1 : Int), Value.int IntKind.i64 (-1 : Int)] (1 : Nat) fun (A'11 : Option Addr) (n'11 c'11 : Nat) (H'21 : Heap) =>
 ∃ (a30 : Addr),
 v = some a30 ∧
 ∃ (c25 : Array Value),
 ∃ (T11 : TypeId),
 H'21 ((a30.add (nat_lit 2)).add (nat_lit 21)).block = some (Obj.cells c25 T11) ∧
 ((a30.add (nat_lit 2)).add (nat_lit 21)).spot = none ∧
 ((a30.add (nat_lit 2)).add (nat_lit 21)).off + [Value.slice A'11 n'11 c'11].length ≤ c25.size ∧
 ∀ (H119 : Heap),
 H119 = H'21.upd ((a30.add (nat_lit 2)).add (nat_lit 21)).block (Obj.cells (splice c25 ((a30.add (nat_lit 2)).add (nat_lit 21)).off [Value.slice A'11 n'11 c'11]) T11) →
 ∀ (b9 : Nat), H119 b9 = none → ∀ (H120 : Heap), H120 = H119.upd b9 (Obj.cells #[Value.int IntKind.i64 (↑n1 : Int)] (2 : Nat)) → Tr Try.prog (72 : Nat) #[Value.pointer r, Value.slice (some ({ block := b9, off := (0 : Nat) } : Addr)) (1 : Nat) (1 : Nat)] H120 fun (v18 : Value) (H'22 : Heap) => v18 = Value.tuple #[] ∧ K (Value.tuple #[]) H'22) ∧
 ∃ (v19 : Option Addr),
 At H118 (a28.add (nat_lit 1)) [Value.pointer v19] ∧
 ∃ (a31 : Addr),
 v19 = some a31 ∧
 (∃ (A14 : Option Addr),
 ∃ (n14 : Nat),
 ∃ (c26 : Nat),
 At H118 ((a27.add (nat_lit 2)).add (nat_lit 21)) [Value.slice A14 n14 c26] ∧
 ∃ (x11 : Int),
 At H118 (a31.add (nat_lit 2)) [Value.int IntKind.i64 x11] ∧
 appC (60 : Nat) (nat_lit 9) (nat_lit 88) H118 A14 n14 c26 [Value.int IntKind.i64 oA, Value.int IntKind.i64 (0 : Int), Value.int IntKind.i64 x11, Value.slice none (0 : Nat) (0 : Nat), Value.int IntKind.i64 x, Value.int IntKind.i64 (↑n1 : Int), Value.int IntKind.i64 (0 : Int), Value.int IntKind.i64 (-1 : Int), Value.int IntKind.i64 (-1 : Int)] (1 : Nat) fun (A'12 : Option Addr) (n'12 c'12 : Nat) (H'23 : Heap) =>
 ∃ (a32 : Addr),
 v = some a32 ∧
 ∃ (c27 : Array Value),
 ∃ (T12 : TypeId),
 H'23 ((a32.add (nat_lit 2)).add (nat_lit 21)).block = some (Obj.cells c27 T12) ∧
 ((a32.add (nat_lit 2)).add (nat_lit 21)).spot = none ∧
 ((a32.add (nat_lit 2)).add (nat_lit 21)).off + [Value.slice A'12 n'12 c'12].length ≤ c27.size ∧
 ∀ (H121 : Heap),
 H121 = H'23.upd ((a32.add (nat_lit 2)).add (nat_lit 21)).block (Obj.cells (splice c27 ((a32.add (nat_lit 2)).add (nat_lit 21)).off [Value.slice A'12 n'12 c'12]) T12) →
 ∀ (b10 : Nat), H121 b10 = none → ∀ (H122 : Heap), H122 = H121.upd b10 (Obj.cells #[Value.int IntKind.i64 (↑n1 : Int)] (2 : Nat)) → Tr Try.prog (72 : Nat) #[Value.pointer r, Value.slice (some ({ block := b10, off := (0 : Nat) } : Addr)) (1 : Nat) (1 : Nat)] H122 fun (v20 : Value) (H'24 : Heap) => v20 = Value.tuple #[] ∧ K (Value.tuple #[]) H'24) ∧
 ∃ (x12 : Int),
 At H118 (a31.add (nat_lit 2)) [Value.int IntKind.i64 x12] ∧
 (∃ (A15 : Option Addr),
 ∃ (n15 : Nat),
 ∃ (c28 : Nat),
 At H118 ((a27.add (nat_lit 2)).add (nat_lit 21)) [Value.slice A15 n15 c28] ∧
 appC (60 : Nat) (nat_lit 9) (nat_lit 88) H118 A15 n15 c28 [Value.int IntKind.i64 oA, Value.int IntKind.i64 (0 : Int), Value.int IntKind.i64 x12, Value.slice none (0 : Nat) (0 : Nat), Value.int IntKind.i64 x, Value.int IntKind.i64 (↑n1 : Int), Value.int IntKind.i64 (0 : Int), Value.int IntKind.i64 (-1 : Int), Value.int IntKind.i64 (-1 : Int)] (1 : Nat) fun (A'13 : Option Addr) (n'13 c'13 : Nat) (H'25 : Heap) =>
 ∃ (a33 : Addr),
 v = some a33 ∧
 ∃ (c29 : Array Value),
 ∃ (T13 : TypeId),
 H'25 ((a33.add (nat_lit 2)).add (nat_lit 21)).block = some (Obj.cells c29 T13) ∧
 ((a33.add (nat_lit 2)).add (nat_lit 21)).spot = none ∧
 ((a33.add (nat_lit 2)).add (nat_lit 21)).off + [Value.slice A'13 n'13 c'13].length ≤ c29.size ∧
 ∀ (H123 : Heap),
 H123 = H'25.upd ((a33.add (nat_lit 2)).add (nat_lit 21)).block (Obj.cells (splice c29 ((a33.add (nat_lit 2)).add (nat_lit 21)).off [Value.slice A'13 n'13 c'13]) T13) →
 ∀ (b11 : Nat), H123 b11 = none → ∀ (H124 : Heap), H124 = H123.upd b11 (Obj.cells #[Value.int IntKind.i64 (↑n1 : Int)] (2 : Nat)) → Tr Try.prog (72 : Nat) #[Value.pointer r, Value.slice (some ({ block := b11, off := (0 : Nat) } : Addr)) (1 : Nat) (1 : Nat)] H124 fun (v21 : Value) (H'26 : Heap) => v21 = Value.tuple #[] ∧ K (Value.tuple #[]) H'26) ∧
 ∃ (A16 : Option Addr),
 ∃ (n16 : Nat),
 ∃ (c30 : Nat),
 At H118 ((a27.add (nat_lit 2)).add (nat_lit 21)) [Value.slice A16 n16 c30] ∧
 appC (60 : Nat) (nat_lit 9) (nat_lit 88) H118 A16 n16 c30 [Value.int IntKind.i64 oA, Value.int IntKind.i64 (0 : Int), Value.int IntKind.i64 x12, Value.slice none (0 : Nat) (0 : Nat), Value.int IntKind.i64 x, Value.int IntKind.i64 (↑n1 : Int), Value.int IntKind.i64 (0 : Int), Value.int IntKind.i64 (-1 : Int), Value.int IntKind.i64 (-1 : Int)] (1 : Nat) fun (A'14 : Option Addr) (n'14 c'14 : Nat) (H'27 : Heap) =>
 ∃ (a34 : Addr),
 v = some a34 ∧
 ∃ (c31 : Array Value),
 ∃ (T14 : TypeId),
 H'27 ((a34.add (nat_lit 2)).add (nat_lit 21)).block = some (Obj.cells c31 T14) ∧
 ((a34.add (nat_lit 2)).add (nat_lit 21)).spot = none ∧
 ((a34.add (nat_lit 2)).add (nat_lit 21)).off + [Value.slice A'14 n'14 c'14].length ≤ c31.size ∧
 ∀ (H125 : Heap),
 H125 = H'27.upd ((a34.add (nat_lit 2)).add (nat_lit 21)).block (Obj.cells (splice c31 ((a34.add (nat_lit 2)).add (nat_lit 21)).off [Value.slice A'14 n'14 c'14]) T14) →
 ∀ (b12 : Nat), H125 b12 = none → ∀ (H126 : Heap), H126 = H125.upd b12 (Obj.cells #[Value.int IntKind.i64 (↑n1 : Int)] (2 : Nat)) → Tr Try.prog (72 : Nat) #[Value.pointer r, Value.slice (some ({ block := b12, off := (0 : Nat) } : Addr)) (1 : Nat) (1 : Nat)] H126 fun (v22 : Value) (H'28 : Heap) => v22 = Value.tuple #[] ∧ K (Value.tuple #[]) H'28) ∧
 ∃ (A17 : Option Addr),
 ∃ (n17 : Nat),
 ∃ (c32 : Nat),
 At H' ((a4.add (nat_lit 2)).add (nat_lit 22)) [Value.slice A17 n17 c32] ∧
 appC (55 : Nat) (nat_lit 6) (nat_lit 48) H' A17 n17 c32 [Value.int IntKind.i64 (0 : Int), Value.int IntKind.i64 (0 : Int), Value.int IntKind.i64 x9, Value.bool false, Value.int IntKind.i64 (0 : Int), Value.int IntKind.i64 (0 : Int)] (1 : Nat) fun (A'15 : Option Addr) (n'15 c'15 : Nat) (H'29 : Heap) =>
 ∃ (a35 : Addr),
 v = some a35 ∧
 ∃ (c33 : Array Value),
 ∃ (T15 : TypeId),
 H'29 ((a35.add (nat_lit 2)).add (nat_lit 22)).block = some (Obj.cells c33 T15) ∧
 ((a35.add (nat_lit 2)).add (nat_lit 22)).spot = none ∧
 ((a35.add (nat_lit 2)).add (nat_lit 22)).off + [Value.slice A'15 n'15 c'15].length ≤ c33.size ∧
 ∀ (H127 : Heap),
 H127 = H'29.upd ((a35.add (nat_lit 2)).add (nat_lit 22)).block (Obj.cells (splice c33 ((a35.add (nat_lit 2)).add (nat_lit 22)).off [Value.slice A'15 n'15 c'15]) T15) →
 ∃ (a36 : Addr),
 v = some a36 ∧
 ∃ (a37 : Addr),
 r = some a37 ∧
 (∃ (A18 : Option Addr),
 ∃ (n18 : Nat),
 ∃ (c34 : Nat),
 At H127 ((a36.add (nat_lit 2)).add (nat_lit 21)) [Value.slice A18 n18 c34] ∧
 ∃ (v23 : Option Addr),
 At H127 (a37.add (nat_lit 1)) [Value.pointer v23] ∧
 ∃ (a38 : Addr),
 v23 = some a38 ∧
 ∃ (x13 : Int),
 At H127 (a38.add (nat_lit 2)) [Value.int IntKind.i64 x13] ∧
 appC (60 : Nat) (nat_lit 9) (nat_lit 88) H127 A18 n18 c34 [Value.int IntKind.i64 oA, Value.int IntKind.i64 (0 : Int), Value.int IntKind.i64 x13, Value.slice none (0 : Nat) (0 : Nat), Value.int IntKind.i64 x, Value.int IntKind.i64 (↑n1 : Int), Value.int IntKind.i64 (0 : Int), Value.int IntKind.i64 (-1 : Int), Value.int IntKind.i64 (-1 : Int)] (1 : Nat) fun (A'16 : Option Addr) (n'16 c'16 : Nat) (H'30 : Heap) =>
 ∃ (a39 : Addr),
 v = some a39 ∧
 ∃ (c35 : Array Value),
 ∃ (T16 : TypeId),
 H'30 ((a39.add (nat_lit 2)).add (nat_lit 21)).block = some (Obj.cells c35 T16) ∧
 ((a39.add (nat_lit 2)).add (nat_lit 21)).spot = none ∧
 ((a39.add (nat_lit 2)).add (nat_lit 21)).off + [Value.slice A'16 n'16 c'16].length ≤ c35.size ∧
 ∀ (H128 : Heap),
 H128 = H'30.upd ((a39.add (nat_lit 2)).add (nat_lit 21)).block (Obj.cells (splice c35 ((a39.add (nat_lit 2)).add (nat_lit 21)).off [Value.slice A'16 n'16 c'16]) T16) →
 ∀ (b13 : Nat), H128 b13 = none → ∀ (H129 : Heap), H129 = H128.upd b13 (Obj.cells #[Value.int IntKind.i64 (↑n1 : Int)] (2 : Nat)) → Tr Try.prog (72 : Nat) #[Value.pointer r, Value.slice (some ({ block := b13, off := (0 : Nat) } : Addr)) (1 : Nat) (1 : Nat)] H129 fun (v24 : Value) (H'31 : Heap) => v24 = Value.tuple #[] ∧ K (Value.tuple #[]) H'31) ∧
 ∃ (v25 : Option Addr),
 At H127 (a37.add (nat_lit 1)) [Value.pointer v25] ∧
 ∃ (a40 : Addr),
 v25 = some a40 ∧
 (∃ (A19 : Option Addr),
 ∃ (n19 : Nat),
 ∃ (c36 : Nat),
 At H127 ((a36.add (nat_lit 2)).add (nat_lit 21)) [Value.slice A19 n19 c36] ∧
 ∃ (x14 : Int),
 At H127 (a40.add (nat_lit 2)) [Value.int IntKind.i64 x14] ∧
 appC (60 : Nat) (nat_lit 9) (nat_lit 88) H127 A19 n19 c36 [Value.int IntKind.i64 oA, Value.int IntKind.i64 (0 : Int), Value.int IntKind.i64 x14, Value.slice none (0 : Nat) (0 : Nat), Value.int IntKind.i64 x, Value.int IntKind.i64 (↑n1 : Int), Value.int IntKind.i64 (0 : Int), Value.int IntKind.i64 (-1 : Int), Value.int IntKind.i64 (-1 : Int)] (1 : Nat) fun (A'17 : Option Addr) (n'17 c'17 : Nat) (H'32 : Heap) =>
 ∃ (a41 : Addr),
 v = some a41 ∧
 ∃ (c37 : Array Value),
 ∃ (T17 : TypeId),
 H'32 ((a41.add (nat_lit 2)).add (nat_lit 21)).block = some (Obj.cells c37 T17) ∧
 ((a41.add (nat_lit 2)).add (nat_lit 21)).spot = none ∧
 ((a41.add (nat_lit 2)).add (nat_lit 21)).off + [Value.slice A'17 n'17 c'17].length ≤ c37.size ∧
 ∀ (H130 : Heap),
 H130 = H'32.upd ((a41.add (nat_lit 2)).add (nat_lit 21)).block (Obj.cells (splice c37 ((a41.add (nat_lit 2)).add (nat_lit 21)).off [Value.slice A'17 n'17 c'17]) T17) →
 ∀ (b14 : Nat), H130 b14 = none → ∀ (H131 : Heap), H131 = H130.upd b14 (Obj.cells #[Value.int IntKind.i64 (↑n1 : Int)] (2 : Nat)) → Tr Try.prog (72 : Nat) #[Value.pointer r, Value.slice (some ({ block := b14, off := (0 : Nat) } : Addr)) (1 : Nat) (1 : Nat)] H131 fun (v26 : Value) (H'33 : Heap) => v26 = Value.tuple #[] ∧ K (Value.tuple #[]) H'33) ∧
 ∃ (x15 : Int),
 At H127 (a40.add (nat_lit 2)) [Value.int IntKind.i64 x15] ∧
 (∃ (A20 : Option Addr),
 ∃ (n20 : Nat),
 ∃ (c38 : Nat),
 At H127 ((a36.add (nat_lit 2)).add (nat_lit 21)) [Value.slice A20 n20 c38] ∧
 appC (60 : Nat) (nat_lit 9) (nat_lit 88) H127 A20 n20 c38 [Value.int IntKind.i64 oA, Value.int IntKind.i64 (0 : Int), Value.int IntKind.i64 x15, Value.slice none (0 : Nat) (0 : Nat), Value.int IntKind.i64 x, Value.int IntKind.i64 (↑n1 : Int), Value.int IntKind.i64 (0 : Int), Value.int IntKind.i64 (-1 : Int), Value.int IntKind.i64 (-1 : Int)] (1 : Nat) fun (A'18 : Option Addr) (n'18 c'18 : Nat) (H'34 : Heap) =>
 ∃ (a42 : Addr),
 v = some a42 ∧
 ∃ (c39 : Array Value),
 ∃ (T18 : TypeId),
 H'34 ((a42.add (nat_lit 2)).add (nat_lit 21)).block = some (Obj.cells c39 T18) ∧
 ((a42.add (nat_lit 2)).add (nat_lit 21)).spot = none ∧
 ((a42.add (nat_lit 2)).add (nat_lit 21)).off + [Value.slice A'18 n'18 c'18].length ≤ c39.size ∧
 ∀ (H132 : Heap),
 H132 = H'34.upd ((a42.add (nat_lit 2)).add (nat_lit 21)).block (Obj.cells (splice c39 ((a42.add (nat_lit 2)).add (nat_lit 21)).off [Value.slice A'18 n'18 c'18]) T18) →
 ∀ (b15 : Nat), H132 b15 = none → ∀ (H133 : Heap), H133 = H132.upd b15 (Obj.cells #[Value.int IntKind.i64 (↑n1 : Int)] (2 : Nat)) → Tr Try.prog (72 : Nat) #[Value.pointer r, Value.slice (some ({ block := b15, off := (0 : Nat) } : Addr)) (1 : Nat) (1 : Nat)] H133 fun (v27 : Value) (H'35 : Heap) => v27 = Value.tuple #[] ∧ K (Value.tuple #[]) H'35) ∧
 ∃ (A21 : Option Addr),
 ∃ (n21 : Nat),
 ∃ (c40 : Nat),
 At H127 ((a36.add (nat_lit 2)).add (nat_lit 21)) [Value.slice A21 n21 c40] ∧
 appC (60 : Nat) (nat_lit 9) (nat_lit 88) H127 A21 n21 c40 [Value.int IntKind.i64 oA, Value.int IntKind.i64 (0 : Int), Value.int IntKind.i64 x15, Value.slice none (0 : Nat) (0 : Nat), Value.int IntKind.i64 x, Value.int IntKind.i64 (↑n1 : Int), Value.int IntKind.i64 (0 : Int), Value.int IntKind.i64 (-1 : Int), Value.int IntKind.i64 (-1 : Int)] (1 : Nat) fun (A'19 : Option Addr) (n'19 c'19 : Nat) (H'36 : Heap) =>
 ∃ (a43 : Addr),
 v = some a43 ∧
 ∃ (c41 : Array Value),
 ∃ (T19 : TypeId),
 H'36 ((a43.add (nat_lit 2)).add (nat_lit 21)).block = some (Obj.cells c41 T19) ∧
 ((a43.add (nat_lit 2)).add (nat_lit 21)).spot = none ∧
 ((a43.add (nat_lit 2)).add (nat_lit 21)).off + [Value.slice A'19 n'19 c'19].length ≤ c41.size ∧
 ∀ (H134 : Heap),
 H134 = H'36.upd ((a43.add (nat_lit 2)).add (nat_lit 21)).block (Obj.cells (splice c41 ((a43.add (nat_lit 2)).add (nat_lit 21)).off [Value.slice A'19 n'19 c'19]) T19) →
 ∀ (b16 : Nat), H134 b16 = none → ∀ (H135 : Heap), H135 = H134.upd b16 (Obj.cells #[Value.int IntKind.i64 (↑n1 : Int)] (2 : Nat)) → Tr Try.prog (72 : Nat) #[Value.pointer r, Value.slice (some ({ block := b16, off := (0 : Nat) } : Addr)) (1 : Nat) (1 : Nat)] H135 fun (v28 : Value) (H'37 : Heap) => v28 = Value.tuple #[] ∧ K (Value.tuple #[]) H'37))) ∧
 ((oCode == (27 : Int)) = false →
 ((oCode == (29 : Int)) = true →
 ∃ (a44 : Addr),
 r = some a44 ∧
 ∃ (v29 : Option Addr),
 At H (a44.add (nat_lit 1)) [Value.pointer v29] ∧
 ∃ (a45 : Addr),
 v29 = some a45 ∧
 ∃ (A22 : Option Addr),
 ∃ (n22 : Nat),
 ∃ (c42 : Nat),
 At H (a45.add (nat_lit 3)) [Value.slice A22 n22 c42] ∧
 (((↑n22 : Int) == (32 : Int)) = true → ∃ (a46 : Addr), r = some a46 ∧ ∃ (c43 : Array Value), ∃ (T20 : TypeId), H (a46.add (nat_lit 2)).block = some (Obj.cells c43 T20) ∧ (a46.add (nat_lit 2)).spot = none ∧ (a46.add (nat_lit 2)).off + [Value.bool true].length ≤ c43.size ∧ ∀ (H136 : Heap), H136 = H.upd (a46.add (nat_lit 2)).block (Obj.cells (splice c43 (a46.add (nat_lit 2)).off [Value.bool true]) T20) → K (Value.tuple #[]) H136) ∧
 (((↑n22 : Int) == (32 : Int)) = false →
 ∃ (a47 : Addr),
 v = some a47 ∧
 ∃ (A23 : Option Addr),
 ∃ (n23 : Nat),
 ∃ (c44 : Nat),
 At H ((a47.add (nat_lit 2)).add (nat_lit 23)) [Value.slice A23 n23 c44] ∧
 (decide ((↑n23 : Int) ≥ (32 : Int)) = true → Tr Try.prog (70 : Nat) #[Value.pointer v, Value.int IntKind.i64 (-3 : Int)] H fun (v30 : Value) (H'38 : Heap) => v30 = Value.tuple #[] ∧ K (Value.tuple #[]) H'38) ∧
 (decide ((↑n23 : Int) ≥ (32 : Int)) = false →
 ∃ (a48 : Addr),
 v = some a48 ∧
 ∃ (A24 : Option Addr),
 ∃ (n24 : Nat),
 ∃ (c45 : Nat),
 At H ((a48.add (nat_lit 2)).add (nat_lit 23)) [Value.slice A24 n24 c45] ∧
 ∀ (b17 : Nat),
 H b17 = none →
 ∀ (H137 : Heap),
 H137 = H.upd b17 (Obj.cells #[Value.int IntKind.i64 (↑n24 : Int)] (2 : Nat)) →
 Tr Try.prog (72 : Nat) #[Value.pointer r, Value.slice (some ({ block := b17, off := (0 : Nat) } : Addr)) (1 : Nat) (1 : Nat)] H137 fun (v31 : Value) (H'39 : Heap) =>
 v31 = Value.tuple #[] ∧
 ∃ (a49 : Addr),
 v = some a49 ∧
 ∃ (a50 : Addr),
 r = some a50 ∧
 (∃ (A25 : Option Addr),
 ∃ (n25 : Nat),
 ∃ (c46 : Nat),
 At H'39 ((a49.add (nat_lit 2)).add (nat_lit 23)) [Value.slice A25 n25 c46] ∧
 ∃ (v32 : Option Addr),
 At H'39 (a50.add (nat_lit 1)) [Value.pointer v32] ∧
 ∃ (a51 : Addr),
 v32 = some a51 ∧
 ∃ (x16 : Int),
 At H'39 (a51.add (nat_lit 2)) [Value.int IntKind.i64 x16] ∧
 appC (65 : Nat) (nat_lit 2) (nat_lit 16) H'39 A25 n25 c46 [Value.int IntKind.i64 x16, Value.bool false] (1 : Nat) fun (A'20 : Option Addr) (n'20 c'20 : Nat) (H'40 : Heap) =>
 ∃ (a52 : Addr),
 v = some a52 ∧
 ∃ (c47 : Array Value),
 ∃ (T21 : TypeId), H'40 ((a52.add (nat_lit 2)).add (nat_lit 23)).block = some (Obj.cells c47 T21) ∧ ((a52.add (nat_lit 2)).add (nat_lit 23)).spot = none ∧ ((a52.add (nat_lit 2)).add (nat_lit 23)).off + [Value.slice A'20 n'20 c'20].length ≤ c47.size ∧ ∀ (H138 : Heap), H138 = H'40.upd ((a52.add (nat_lit 2)).add (nat_lit 23)).block (Obj.cells (splice c47 ((a52.add (nat_lit 2)).add (nat_lit 23)).off [Value.slice A'20 n'20 c'20]) T21) → K (Value.tuple #[]) H138) ∧
 ∃ (v33 : Option Addr),
 At H'39 (a50.add (nat_lit 1)) [Value.pointer v33] ∧
 ∃ (a53 : Addr),
 v33 = some a53 ∧
 (∃ (A26 : Option Addr),
 ∃ (n26 : Nat),
 ∃ (c48 : Nat),
 At H'39 ((a49.add (nat_lit 2)).add (nat_lit 23)) [Value.slice A26 n26 c48] ∧
 ∃ (x17 : Int),
 At H'39 (a53.add (nat_lit 2)) [Value.int IntKind.i64 x17] ∧
 appC (65 : Nat) (nat_lit 2) (nat_lit 16) H'39 A26 n26 c48 [Value.int IntKind.i64 x17, Value.bool false] (1 : Nat) fun (A'21 : Option Addr) (n'21 c'21 : Nat) (H'41 : Heap) =>
 ∃ (a54 : Addr),
 v = some a54 ∧
 ∃ (c49 : Array Value),
 ∃ (T22 : TypeId), H'41 ((a54.add (nat_lit 2)).add (nat_lit 23)).block = some (Obj.cells c49 T22) ∧ ((a54.add (nat_lit 2)).add (nat_lit 23)).spot = none ∧ ((a54.add (nat_lit 2)).add (nat_lit 23)).off + [Value.slice A'21 n'21 c'21].length ≤ c49.size ∧ ∀ (H139 : Heap), H139 = H'41.upd ((a54.add (nat_lit 2)).add (nat_lit 23)).block (Obj.cells (splice c49 ((a54.add (nat_lit 2)).add (nat_lit 23)).off [Value.slice A'21 n'21 c'21]) T22) → K (Value.tuple #[]) H139) ∧
 ∃ (x18 : Int),
 At H'39 (a53.add (nat_lit 2)) [Value.int IntKind.i64 x18] ∧
 (∃ (A27 : Option Addr),
 ∃ (n27 : Nat),
 ∃ (c50 : Nat),
 At H'39 ((a49.add (nat_lit 2)).add (nat_lit 23)) [Value.slice A27 n27 c50] ∧
 appC (65 : Nat) (nat_lit 2) (nat_lit 16) H'39 A27 n27 c50 [Value.int IntKind.i64 x18, Value.bool false] (1 : Nat) fun (A'22 : Option Addr) (n'22 c'22 : Nat) (H'42 : Heap) =>
 ∃ (a55 : Addr),
 v = some a55 ∧
 ∃ (c51 : Array Value),
 ∃ (T23 : TypeId), H'42 ((a55.add (nat_lit 2)).add (nat_lit 23)).block = some (Obj.cells c51 T23) ∧ ((a55.add (nat_lit 2)).add (nat_lit 23)).spot = none ∧ ((a55.add (nat_lit 2)).add (nat_lit 23)).off + [Value.slice A'22 n'22 c'22].length ≤ c51.size ∧ ∀ (H140 : Heap), H140 = H'42.upd ((a55.add (nat_lit 2)).add (nat_lit 23)).block (Obj.cells (splice c51 ((a55.add (nat_lit 2)).add (nat_lit 23)).off [Value.slice A'22 n'22 c'22]) T23) → K (Value.tuple #[]) H140) ∧
 ∃ (A28 : Option Addr),
 ∃ (n28 : Nat),
 ∃ (c52 : Nat),
 At H'39 ((a49.add (nat_lit 2)).add (nat_lit 23)) [Value.slice A28 n28 c52] ∧
 appC (65 : Nat) (nat_lit 2) (nat_lit 16) H'39 A28 n28 c52 [Value.int IntKind.i64 x18, Value.bool false] (1 : Nat) fun (A'23 : Option Addr) (n'23 c'23 : Nat) (H'43 : Heap) =>
 ∃ (a56 : Addr),
 v = some a56 ∧
 ∃ (c53 : Array Value),
 ∃ (T24 : TypeId), H'43 ((a56.add (nat_lit 2)).add (nat_lit 23)).block = some (Obj.cells c53 T24) ∧ ((a56.add (nat_lit 2)).add (nat_lit 23)).spot = none ∧ ((a56.add (nat_lit 2)).add (nat_lit 23)).off + [Value.slice A'23 n'23 c'23].length ≤ c53.size ∧ ∀ (H141 : Heap), H141 = H'43.upd ((a56.add (nat_lit 2)).add (nat_lit 23)).block (Obj.cells (splice c53 ((a56.add (nat_lit 2)).add (nat_lit 23)).off [Value.slice A'23 n'23 c'23]) T24) → K (Value.tuple #[]) H141))) ∧
 ((oCode == (29 : Int)) = false →
 ((oCode == (30 : Int)) = true →
 Tr Try.prog (89 : Nat) #[Value.pointer r] H fun (v34 : Value) (H'44 : Heap) =>
 ∃ (x19 : Int),
 v34 = Value.int IntKind.i64 x19 ∧
 ∃ (a57 : Addr),
 r = some a57 ∧
 ∃ (b18 : Bool),
 At H'44 (a57.add (nat_lit 2)) [Value.bool b18] ∧
 ((!b18) = true → ∃ (a58 : Addr), r = some a58 ∧ ∃ (v35 : Option Addr), At H'44 (a58.add (nat_lit 1)) [Value.pointer v35] ∧ ∃ (a59 : Addr), v35 = some a59 ∧ ∃ (c54 : Array Value), ∃ (T25 : TypeId), H'44 (a59.add (nat_lit 2)).block = some (Obj.cells c54 T25) ∧ (a59.add (nat_lit 2)).spot = none ∧ (a59.add (nat_lit 2)).off + [Value.int IntKind.i64 x19].length ≤ c54.size ∧ ∀ (H142 : Heap), H142 = H'44.upd (a59.add (nat_lit 2)).block (Obj.cells (splice c54 (a59.add (nat_lit 2)).off [Value.int IntKind.i64 x19]) T25) → K (Value.tuple #[]) H142) ∧
 ((!b18) = false → K (Value.tuple #[]) H'44)) ∧
 ((oCode == (30 : Int)) = false →
 ((oCode == (31 : Int)) = true → Tr Try.prog (89 : Nat) #[Value.pointer r] H fun (v36 : Value) (H'45 : Heap) => ∃ (x20 : Int), v36 = Value.int IntKind.i64 x20 ∧ ∃ (a60 : Addr), r = some a60 ∧ ∃ (b19 : Bool), At H'45 (a60.add (nat_lit 2)) [Value.bool b19] ∧ ((!b19) = true → Tr Try.prog (48 : Nat) #[Value.pointer v, Value.int IntKind.i64 x20] H'45 fun (v37 : Value) (H'46 : Heap) => v37 = Value.tuple #[] ∧ K (Value.tuple #[]) H'46) ∧ ((!b19) = false → K (Value.tuple #[]) H'45)) ∧
 ((oCode == (31 : Int)) = false →
 ∃ (a61 : Addr),
 r = some a61 ∧
 ∃ (v38 : Option Addr),
 At H (a61.add (nat_lit 1)) [Value.pointer v38] ∧
 ∃ (a62 : Addr),
 v38 = some a62 ∧
 ∃ (x21 : Int),
 At H (a62.add (nat_lit 2)) [Value.int IntKind.i64 x21] ∧
 ∃ (b20 : Bool),
 (Tr Try.prog (68 : Nat) #[Value.pointer v, Value.int IntKind.i64 x21] H fun (v39 : Value) (H'47 : Heap) => v39 = Value.bool b20 ∧ Ax.Sub H H'47) ∧
 ∃ (x22 : Int), (Tr Try.prog (73 : Nat) #[Value.bool b20] H fun (v40 : Value) (H'48 : Heap) => v40 = Value.int IntKind.i64 x22 ∧ Ax.Sub H H'48) ∧ ∀ (b21 : Nat), H b21 = none → ∀ (H143 : Heap), H143 = H.upd b21 (Obj.cells #[Value.int IntKind.i64 x22] (2 : Nat)) → Tr Try.prog (72 : Nat) #[Value.pointer r, Value.slice (some ({ block := b21, off := (0 : Nat) } : Addr)) (1 : Nat) (1 : Nat)] H143 fun (v41 : Value) (H'49 : Heap) => v41 = Value.tuple #[] ∧ K (Value.tuple #[]) H'49))))
theorem v86 {r : Option Addr} {oCode : Int} {oA : Int} {H : Heap} {K : Value → Heap → Prop} (h : F86 r oCode oA H K) : Tr Try.prog 86 #[.pointer r, .agg #[.int .i64 oCode, .int .i64 oA]] H K :=
  tr_of_eq (C := c86) Try.func86 (show vcFn c86 Try.f86 [.pointer r, .agg #[.int .i64 oCode, .int .i64 oA]] H K = F86 r oCode oA H K by kernel_rfl) h
noncomputable def c87 : Cx := { P := Try.prog, res := [], pub := [66], loops := [], quiet := [90], draws := [⟨9, [], [], false, true⟩, ⟨19, [2], [], false, true⟩, ⟨29, [2], [], false, true⟩, ⟨32, [11], [], false, true⟩], asm := true }
def F87 (r : Option Addr) (oCode : Int) (oA : Int) (H : Heap) (K : Value → Heap → Prop) : Prop :=
 ∃ (a : Addr),
 r = some a ∧
 ∃ (v : Option Addr),
 At H (a.add (nat_lit 0)) [Value.pointer v] ∧
 ((oCode == (19 : Int)) = true →
 ∃ (a1 : Addr),
 r = some a1 ∧
 ∃ (v1 : Option Addr),
 At H (a1.add (nat_lit 1)) [Value.pointer v1] ∧
 ∃ (a2 : Addr),
 v1 = some a2 ∧
 ∃ (A : Option Addr),
 ∃ (n : Nat),
 ∃ (c : Nat),
 At H (a2.add (nat_lit 3)) [Value.slice A n c] ∧
 (((↑n : Int) == (32 : Int)) = true → ∃ (a3 : Addr), r = some a3 ∧ ∃ (c1 : Array Value), ∃ (T : TypeId), H (a3.add (nat_lit 2)).block = some (Obj.cells c1 T) ∧ (a3.add (nat_lit 2)).spot = none ∧ (a3.add (nat_lit 2)).off + [Value.bool true].length ≤ c1.size ∧ ∀ (H1 : Heap), H1 = H.upd (a3.add (nat_lit 2)).block (Obj.cells (splice c1 (a3.add (nat_lit 2)).off [Value.bool true]) T) → K (Value.tuple #[]) H1) ∧
 (((↑n : Int) == (32 : Int)) = false →
 ∃ (a4 : Addr),
 v = some a4 ∧
 ∃ (x : Int),
 At H (a4.add (nat_lit 33)) [Value.int IntKind.u64 x] ∧
 ∃ (x1 : Int),
 (Tr Try.prog (90 : Nat) #[Value.int IntKind.u64 x] H fun (v2 : Value) (H' : Heap) => v2 = Value.int IntKind.u64 x1 ∧ Ax.Sub H H') ∧
 ∃ (a5 : Addr),
 v = some a5 ∧
 ∃ (x2 : Int),
 At H (a5.add (nat_lit 33)) [Value.int IntKind.u64 x2] ∧
 ∃ (a6 : Addr),
 v = some a6 ∧
 ∃ (c2 : Array Value),
 ∃ (T1 : TypeId),
 H (a6.add (nat_lit 33)).block = some (Obj.cells c2 T1) ∧
 (a6.add (nat_lit 33)).spot = none ∧
 (a6.add (nat_lit 33)).off + [Value.int IntKind.u64 (IntKind.u64.wrap (x2 + (1 : Int)))].length ≤ c2.size ∧
 ∀ (H11 : Heap),
 H11 = H.upd (a6.add (nat_lit 33)).block (Obj.cells (splice c2 (a6.add (nat_lit 33)).off [Value.int IntKind.u64 (IntKind.u64.wrap (x2 + (1 : Int)))]) T1) →
 Tr Try.prog (69 : Nat) #[Value.pointer v, Value.agg #[Value.int IntKind.i64 (0 : Int), Value.int IntKind.i64 (0 : Int), Value.int IntKind.i64 (11 : Int), Value.int IntKind.i64 (IntKind.i64.wrap x1), Value.int IntKind.i64 (0 : Int), Value.int IntKind.i64 (0 : Int), Value.int IntKind.i64 (0 : Int), Value.int IntKind.i64 (0 : Int), Value.int IntKind.i64 (0 : Int)]] H11 fun (v3 : Value) (H'1 : Heap) =>
 ∃ (x3 : Int),
 ∃ (b : Bool),
 v3 = Value.tuple #[Value.int IntKind.i64 x3, Value.bool b] ∧
 (b = true →
 ∃ (a7 : Addr),
 v = some a7 ∧
 ∃ (a8 : Addr),
 v = some a8 ∧
 (∃ (A1 : Option Addr),
 ∃ (n1 : Nat),
 ∃ (c3 : Nat),
 At H'1 (a7.add (nat_lit 32)) [Value.slice A1 n1 c3] ∧
 ∃ (A2 : Option Addr),
 ∃ (n2 : Nat),
 ∃ (c4 : Nat),
 At H'1 (a8.add (nat_lit 32)) [Value.slice A2 n2 c4] ∧
 ∃ (a9 : Addr),
 (A1 = some a9 ∧ (0 : Int) ≤ IntKind.i64.wrap ((↑n2 : Int) - (1 : Int)) ∧ IntKind.i64.wrap ((↑n2 : Int) - (1 : Int)) < (↑n1 : Int)) ∧
 ∃ (x4 : Int), At H'1 ((a9.add ((IntKind.i64.wrap ((↑n2 : Int) - (1 : Int))).toNat * nat_lit 9)).add (nat_lit 3)) [Value.int IntKind.i64 x4] ∧ ∀ (b1 : Nat), H'1 b1 = none → ∀ (H12 : Heap), H12 = H'1.upd b1 (Obj.cells #[Value.int IntKind.i64 x4] (2 : Nat)) → Tr Try.prog (72 : Nat) #[Value.pointer r, Value.slice (some ({ block := b1, off := (0 : Nat) } : Addr)) (1 : Nat) (1 : Nat)] H12 fun (v4 : Value) (H'2 : Heap) => v4 = Value.tuple #[] ∧ K (Value.tuple #[]) H'2) ∧
 ∃ (A3 : Option Addr),
 ∃ (n3 : Nat),
 ∃ (c5 : Nat),
 At H'1 (a8.add (nat_lit 32)) [Value.slice A3 n3 c5] ∧
 ∃ (A4 : Option Addr),
 ∃ (n4 : Nat),
 ∃ (c6 : Nat),
 At H'1 (a7.add (nat_lit 32)) [Value.slice A4 n4 c6] ∧
 ∃ (a10 : Addr),
 (A4 = some a10 ∧ (0 : Int) ≤ IntKind.i64.wrap ((↑n3 : Int) - (1 : Int)) ∧ IntKind.i64.wrap ((↑n3 : Int) - (1 : Int)) < (↑n4 : Int)) ∧
 ∃ (x5 : Int), At H'1 ((a10.add ((IntKind.i64.wrap ((↑n3 : Int) - (1 : Int))).toNat * nat_lit 9)).add (nat_lit 3)) [Value.int IntKind.i64 x5] ∧ ∀ (b2 : Nat), H'1 b2 = none → ∀ (H13 : Heap), H13 = H'1.upd b2 (Obj.cells #[Value.int IntKind.i64 x5] (2 : Nat)) → Tr Try.prog (72 : Nat) #[Value.pointer r, Value.slice (some ({ block := b2, off := (0 : Nat) } : Addr)) (1 : Nat) (1 : Nat)] H13 fun (v5 : Value) (H'3 : Heap) => v5 = Value.tuple #[] ∧ K (Value.tuple #[]) H'3) ∧
 (b = false → K (Value.tuple #[]) H'1))) ∧
 ((oCode == (19 : Int)) = false →
 ((oCode == (34 : Int)) = true →
 Tr Try.prog (88 : Nat) #[Value.pointer r, Value.int IntKind.i64 (1 : Int)] H fun (v6 : Value) (H'4 : Heap) =>
 ∃ (x6 : Int),
 v6 = Value.int IntKind.i64 x6 ∧
 ∃ (a11 : Addr),
 ((!decide (x6 < (0 : Int))) = true → v = some a11) ∧
 ∃ (A5 : Option Addr),
 ∃ (n5 : Nat),
 ∃ (c7 : Nat),
 ((!decide (x6 < (0 : Int))) = true → At H'4 ((a11.add (nat_lit 2)).add (nat_lit 22)) [Value.slice A5 n5 c7]) ∧
 ∃ (a12 : Addr),
 ((!decide (x6 < (0 : Int))) = true → A5 = some a12 ∧ (0 : Int) ≤ x6 ∧ x6 < (↑n5 : Int)) ∧
 ∃ (x7 : Int),
 ((!decide (x6 < (0 : Int))) = true → At H'4 ((a12.add (x6.toNat * nat_lit 6)).add (nat_lit 0)) [Value.int IntKind.i64 x7]) ∧
 ∃ (a13 : Addr),
 ((!(decide (x6 < (0 : Int)) || x7 != (5 : Int))) = true → v = some a13) ∧
 ∃ (A6 : Option Addr),
 ∃ (n6 : Nat),
 ∃ (c8 : Nat),
 ((!(decide (x6 < (0 : Int)) || x7 != (5 : Int))) = true → At H'4 ((a13.add (nat_lit 2)).add (nat_lit 22)) [Value.slice A6 n6 c8]) ∧
 ∃ (a14 : Addr),
 ((!(decide (x6 < (0 : Int)) || x7 != (5 : Int))) = true → A6 = some a14 ∧ (0 : Int) ≤ x6 ∧ x6 < (↑n6 : Int)) ∧
 ∃ (x8 : Int),
 ((!(decide (x6 < (0 : Int)) || x7 != (5 : Int))) = true → At H'4 ((a14.add (x6.toNat * nat_lit 6)).add (nat_lit 1)) [Value.int IntKind.i64 x8]) ∧
 ((decide (x6 < (0 : Int)) || x7 != (5 : Int) || x8 == (0 : Int)) = true → ∃ (a15 : Addr), r = some a15 ∧ ∃ (c9 : Array Value), ∃ (T2 : TypeId), H'4 (a15.add (nat_lit 2)).block = some (Obj.cells c9 T2) ∧ (a15.add (nat_lit 2)).spot = none ∧ (a15.add (nat_lit 2)).off + [Value.bool true].length ≤ c9.size ∧ ∀ (H14 : Heap), H14 = H'4.upd (a15.add (nat_lit 2)).block (Obj.cells (splice c9 (a15.add (nat_lit 2)).off [Value.bool true]) T2) → K (Value.tuple #[]) H14) ∧
 ((decide (x6 < (0 : Int)) || x7 != (5 : Int) || x8 == (0 : Int)) = false →
 Tr Try.prog (52 : Nat) #[Value.pointer r] H'4 fun (v7 : Value) (H'5 : Heap) =>
 ∃ (x9 : Int),
 v7 = Value.int IntKind.i64 x9 ∧
 ∃ (a16 : Addr),
 r = some a16 ∧
 ∃ (b3 : Bool),
 At H'5 (a16.add (nat_lit 2)) [Value.bool b3] ∧
 (b3 = true → K (Value.tuple #[]) H'5) ∧
 (b3 = false →
 ((oCode == (16 : Int)) = true →
 ∃ (a17 : Addr),
 v = some a17 ∧
 ((0 : Int) ≤ oA ∧ oA < (↑(16 : Nat) : Int)) ∧
 ∃ (c10 : Array Value),
 ∃ (T3 : TypeId),
 H'5 (((a17.add (nat_lit 2)).add (nat_lit 0)).add (oA.toNat * nat_lit 1)).block = some (Obj.cells c10 T3) ∧
 (((a17.add (nat_lit 2)).add (nat_lit 0)).add (oA.toNat * nat_lit 1)).spot = none ∧ (((a17.add (nat_lit 2)).add (nat_lit 0)).add (oA.toNat * nat_lit 1)).off + [Value.int IntKind.i64 x9].length ≤ c10.size ∧ ∀ (H15 : Heap), H15 = H'5.upd (((a17.add (nat_lit 2)).add (nat_lit 0)).add (oA.toNat * nat_lit 1)).block (Obj.cells (splice c10 (((a17.add (nat_lit 2)).add (nat_lit 0)).add (oA.toNat * nat_lit 1)).off [Value.int IntKind.i64 x9]) T3) → K (Value.tuple #[]) H15) ∧
 ((oCode == (16 : Int)) = false →
 ((oCode == (20 : Int)) = true → Tr Try.prog (91 : Nat) #[Value.pointer r, Value.agg #[Value.int IntKind.i64 (0 : Int), Value.int IntKind.i64 (0 : Int), Value.int IntKind.i64 (3 : Int), Value.int IntKind.i64 oA, Value.int IntKind.i64 x9, Value.int IntKind.i64 (0 : Int), Value.int IntKind.i64 (0 : Int), Value.int IntKind.i64 (0 : Int), Value.int IntKind.i64 (0 : Int)]] H'5 fun (v8 : Value) (H'6 : Heap) => v8 = Value.tuple #[] ∧ K (Value.tuple #[]) H'6) ∧
 ((oCode == (20 : Int)) = false →
 ((oCode == (21 : Int)) = true →
 ∃ (a18 : Addr),
 v = some a18 ∧
 ∃ (x10 : Int),
 At H'5 ((a18.add (nat_lit 2)).add (nat_lit 20)) [Value.int IntKind.i64 x10] ∧
 Tr Try.prog (91 : Nat)
 #[Value.pointer r, Value.agg #[Value.int IntKind.i64 (0 : Int), Value.int IntKind.i64 (0 : Int), Value.int IntKind.i64 (4 : Int), Value.int IntKind.i64 (IntKind.i64.wrap (x10 + if (1048576 : Int) < if (0 : Int) > x9 then (0 : Int) else x9 then (1048576 : Int) else if (0 : Int) > x9 then (0 : Int) else x9)), Value.int IntKind.i64 (0 : Int), Value.int IntKind.i64 (0 : Int), Value.int IntKind.i64 (0 : Int), Value.int IntKind.i64 (0 : Int), Value.int IntKind.i64 (0 : Int)]] H'5
 fun (v9 : Value) (H'7 : Heap) => v9 = Value.tuple #[] ∧ K (Value.tuple #[]) H'7) ∧
 ((oCode == (21 : Int)) = false →
 ((oCode == (22 : Int)) = true → Tr Try.prog (91 : Nat) #[Value.pointer r, Value.agg #[Value.int IntKind.i64 (0 : Int), Value.int IntKind.i64 (0 : Int), Value.int IntKind.i64 (5 : Int), Value.int IntKind.i64 oA, Value.int IntKind.i64 x9, Value.int IntKind.i64 (0 : Int), Value.int IntKind.i64 (0 : Int), Value.int IntKind.i64 (0 : Int), Value.int IntKind.i64 (0 : Int)]] H'5 fun (v10 : Value) (H'8 : Heap) => v10 = Value.tuple #[] ∧ K (Value.tuple #[]) H'8) ∧
 ((oCode == (22 : Int)) = false →
 ((oCode == (33 : Int)) = true →
 Tr Try.prog (69 : Nat) #[Value.pointer v, Value.agg #[Value.int IntKind.i64 (0 : Int), Value.int IntKind.i64 (0 : Int), Value.int IntKind.i64 (10 : Int), Value.int IntKind.i64 oA, Value.int IntKind.i64 x9, Value.int IntKind.i64 (0 : Int), Value.int IntKind.i64 (0 : Int), Value.int IntKind.i64 (0 : Int), Value.int IntKind.i64 (0 : Int)]] H'5 fun (v11 : Value) (H'9 : Heap) =>
 ∃ (x11 : Int),
 ∃ (b4 : Bool),
 v11 = Value.tuple #[Value.int IntKind.i64 x11, Value.bool b4] ∧
 (b4 = true →
 ∃ (a19 : Addr),
 v = some a19 ∧
 ((0 : Int) ≤ oA ∧ oA < (↑(4 : Nat) : Int)) ∧
 ∃ (c11 : Array Value),
 ∃ (T4 : TypeId),
 H'9 (((a19.add (nat_lit 2)).add (nat_lit 16)).add (oA.toNat * nat_lit 1)).block = some (Obj.cells c11 T4) ∧
 (((a19.add (nat_lit 2)).add (nat_lit 16)).add (oA.toNat * nat_lit 1)).spot = none ∧ (((a19.add (nat_lit 2)).add (nat_lit 16)).add (oA.toNat * nat_lit 1)).off + [Value.int IntKind.i64 x9].length ≤ c11.size ∧ ∀ (H16 : Heap), H16 = H'9.upd (((a19.add (nat_lit 2)).add (nat_lit 16)).add (oA.toNat * nat_lit 1)).block (Obj.cells (splice c11 (((a19.add (nat_lit 2)).add (nat_lit 16)).add (oA.toNat * nat_lit 1)).off [Value.int IntKind.i64 x9]) T4) → K (Value.tuple #[]) H16) ∧
 (b4 = false → K (Value.tuple #[]) H'9)) ∧
 ((oCode == (33 : Int)) = false →
 ((oCode == (34 : Int)) = true →
 Tr Try.prog (52 : Nat) #[Value.pointer r] H'5 fun (v12 : Value) (H'10 : Heap) =>
 ∃ (x12 : Int),
 v12 = Value.int IntKind.i64 x12 ∧
 ∃ (a20 : Addr),
 v = some a20 ∧
 ∃ (A7 : Option Addr),
 ∃ (n7 : Nat),
 ∃ (c12 : Nat),
 At H'10 ((a20.add (nat_lit 2)).add (nat_lit 22)) [Value.slice A7 n7 c12] ∧
 ∃ (a21 : Addr),
 (A7 = some a21 ∧ (0 : Int) ≤ x6 ∧ x6 < (↑n7 : Int)) ∧
 ∃ (x13 : Int),
 At H'10 ((a21.add (x6.toNat * nat_lit 6)).add (nat_lit 1)) [Value.int IntKind.i64 x13] ∧
 Tr Try.prog (69 : Nat) #[Value.pointer v, Value.agg #[Value.int IntKind.i64 (0 : Int), Value.int IntKind.i64 (0 : Int), Value.int IntKind.i64 (9 : Int), Value.int IntKind.i64 x13, Value.int IntKind.i64 oA, Value.int IntKind.i64 x9, Value.int IntKind.i64 (0 : Int), Value.int IntKind.i64 (0 : Int), Value.int IntKind.i64 (0 : Int)]] H'10 fun (v13 : Value) (H'11 : Heap) =>
 ∃ (x14 : Int), ∃ (b5 : Bool), v13 = Value.tuple #[Value.int IntKind.i64 x14, Value.bool b5] ∧ K (Value.tuple #[]) H'11) ∧
 ((oCode == (34 : Int)) = false → K (Value.tuple #[]) H'5))))))))) ∧
 ((oCode == (34 : Int)) = false →
 Tr Try.prog (52 : Nat) #[Value.pointer r] H fun (v14 : Value) (H'12 : Heap) =>
 ∃ (x15 : Int),
 v14 = Value.int IntKind.i64 x15 ∧
 ∃ (a22 : Addr),
 r = some a22 ∧
 ∃ (b6 : Bool),
 At H'12 (a22.add (nat_lit 2)) [Value.bool b6] ∧
 (b6 = true → K (Value.tuple #[]) H'12) ∧
 (b6 = false →
 ((oCode == (16 : Int)) = true →
 ∃ (a23 : Addr),
 v = some a23 ∧
 ((0 : Int) ≤ oA ∧ oA < (↑(16 : Nat) : Int)) ∧
 ∃ (c13 : Array Value),
 ∃ (T5 : TypeId),
 H'12 (((a23.add (nat_lit 2)).add (nat_lit 0)).add (oA.toNat * nat_lit 1)).block = some (Obj.cells c13 T5) ∧
 (((a23.add (nat_lit 2)).add (nat_lit 0)).add (oA.toNat * nat_lit 1)).spot = none ∧ (((a23.add (nat_lit 2)).add (nat_lit 0)).add (oA.toNat * nat_lit 1)).off + [Value.int IntKind.i64 x15].length ≤ c13.size ∧ ∀ (H17 : Heap), H17 = H'12.upd (((a23.add (nat_lit 2)).add (nat_lit 0)).add (oA.toNat * nat_lit 1)).block (Obj.cells (splice c13 (((a23.add (nat_lit 2)).add (nat_lit 0)).add (oA.toNat * nat_lit 1)).off [Value.int IntKind.i64 x15]) T5) → K (Value.tuple #[]) H17) ∧
 ((oCode == (16 : Int)) = false →
 ((oCode == (20 : Int)) = true → Tr Try.prog (91 : Nat) #[Value.pointer r, Value.agg #[Value.int IntKind.i64 (0 : Int), Value.int IntKind.i64 (0 : Int), Value.int IntKind.i64 (3 : Int), Value.int IntKind.i64 oA, Value.int IntKind.i64 x15, Value.int IntKind.i64 (0 : Int), Value.int IntKind.i64 (0 : Int), Value.int IntKind.i64 (0 : Int), Value.int IntKind.i64 (0 : Int)]] H'12 fun (v15 : Value) (H'13 : Heap) => v15 = Value.tuple #[] ∧ K (Value.tuple #[]) H'13) ∧
 ((oCode == (20 : Int)) = false →
 ((oCode == (21 : Int)) = true →
 ∃ (a24 : Addr),
 v = some a24 ∧
 ∃ (x16 : Int),
 At H'12 ((a24.add (nat_lit 2)).add (nat_lit 20)) [Value.int IntKind.i64 x16] ∧
 Tr Try.prog (91 : Nat) #[Value.pointer r, Value.agg #[Value.int IntKind.i64 (0 : Int), Value.int IntKind.i64 (0 : Int), Value.int IntKind.i64 (4 : Int), Value.int IntKind.i64 (IntKind.i64.wrap (x16 + if (1048576 : Int) < if (0 : Int) > x15 then (0 : Int) else x15 then (1048576 : Int) else if (0 : Int) > x15 then (0 : Int) else x15)), Value.int IntKind.i64 (0 : Int), Value.int IntKind.i64 (0 : Int), Value.int IntKind.i64 (0 : Int), Value.int IntKind.i64 (0 : Int), Value.int IntKind.i64 (0 : Int)]] H'12 fun (v16 : Value) (H'14 : Heap) =>
 v16 = Value.tuple #[] ∧ K (Value.tuple #[]) H'14) ∧
 ((oCode == (21 : Int)) = false →
 ((oCode == (22 : Int)) = true → Tr Try.prog (91 : Nat) #[Value.pointer r, Value.agg #[Value.int IntKind.i64 (0 : Int), Value.int IntKind.i64 (0 : Int), Value.int IntKind.i64 (5 : Int), Value.int IntKind.i64 oA, Value.int IntKind.i64 x15, Value.int IntKind.i64 (0 : Int), Value.int IntKind.i64 (0 : Int), Value.int IntKind.i64 (0 : Int), Value.int IntKind.i64 (0 : Int)]] H'12 fun (v17 : Value) (H'15 : Heap) => v17 = Value.tuple #[] ∧ K (Value.tuple #[]) H'15) ∧
 ((oCode == (22 : Int)) = false →
 ((oCode == (33 : Int)) = true →
 Tr Try.prog (69 : Nat) #[Value.pointer v, Value.agg #[Value.int IntKind.i64 (0 : Int), Value.int IntKind.i64 (0 : Int), Value.int IntKind.i64 (10 : Int), Value.int IntKind.i64 oA, Value.int IntKind.i64 x15, Value.int IntKind.i64 (0 : Int), Value.int IntKind.i64 (0 : Int), Value.int IntKind.i64 (0 : Int), Value.int IntKind.i64 (0 : Int)]] H'12 fun (v18 : Value) (H'16 : Heap) =>
 ∃ (x17 : Int),
 ∃ (b7 : Bool),
 v18 = Value.tuple #[Value.int IntKind.i64 x17, Value.bool b7] ∧
 (b7 = true →
 ∃ (a25 : Addr),
 v = some a25 ∧
 ((0 : Int) ≤ oA ∧ oA < (↑(4 : Nat) : Int)) ∧
 ∃ (c14 : Array Value),
 ∃ (T6 : TypeId),
 H'16 (((a25.add (nat_lit 2)).add (nat_lit 16)).add (oA.toNat * nat_lit 1)).block = some (Obj.cells c14 T6) ∧
 (((a25.add (nat_lit 2)).add (nat_lit 16)).add (oA.toNat * nat_lit 1)).spot = none ∧ (((a25.add (nat_lit 2)).add (nat_lit 16)).add (oA.toNat * nat_lit 1)).off + [Value.int IntKind.i64 x15].length ≤ c14.size ∧ ∀ (H18 : Heap), H18 = H'16.upd (((a25.add (nat_lit 2)).add (nat_lit 16)).add (oA.toNat * nat_lit 1)).block (Obj.cells (splice c14 (((a25.add (nat_lit 2)).add (nat_lit 16)).add (oA.toNat * nat_lit 1)).off [Value.int IntKind.i64 x15]) T6) → K (Value.tuple #[]) H18) ∧
 (b7 = false → K (Value.tuple #[]) H'16)) ∧
 ((oCode == (33 : Int)) = false →
 ((oCode == (34 : Int)) = true →
 Tr Try.prog (52 : Nat) #[Value.pointer r] H'12 fun (v19 : Value) (H'17 : Heap) =>
 ∃ (x18 : Int),
 v19 = Value.int IntKind.i64 x18 ∧
 ∃ (a26 : Addr),
 v = some a26 ∧
 ∃ (A8 : Option Addr),
 ∃ (n8 : Nat),
 ∃ (c15 : Nat),
 At H'17 ((a26.add (nat_lit 2)).add (nat_lit 22)) [Value.slice A8 n8 c15] ∧
 ∃ (a27 : Addr),
 (A8 = some a27 ∧ (0 : Int) ≤ (0 : Int) ∧ (0 : Int) < (↑n8 : Int)) ∧
 ∃ (x19 : Int),
 At H'17 ((a27.add (Int.toNat (0 : Int) * nat_lit 6)).add (nat_lit 1)) [Value.int IntKind.i64 x19] ∧
 Tr Try.prog (69 : Nat) #[Value.pointer v, Value.agg #[Value.int IntKind.i64 (0 : Int), Value.int IntKind.i64 (0 : Int), Value.int IntKind.i64 (9 : Int), Value.int IntKind.i64 x19, Value.int IntKind.i64 oA, Value.int IntKind.i64 x15, Value.int IntKind.i64 (0 : Int), Value.int IntKind.i64 (0 : Int), Value.int IntKind.i64 (0 : Int)]] H'17 fun (v20 : Value) (H'18 : Heap) => ∃ (x20 : Int), ∃ (b8 : Bool), v20 = Value.tuple #[Value.int IntKind.i64 x20, Value.bool b8] ∧ K (Value.tuple #[]) H'18) ∧
 ((oCode == (34 : Int)) = false → K (Value.tuple #[]) H'12)))))))))
theorem v87 {r : Option Addr} {oCode : Int} {oA : Int} {H : Heap} {K : Value → Heap → Prop} (h : F87 r oCode oA H K) : Tr Try.prog 87 #[.pointer r, .agg #[.int .i64 oCode, .int .i64 oA]] H K :=
  tr_of_eq (C := c87) Try.func87 (show vcFn c87 Try.f87 [.pointer r, .agg #[.int .i64 oCode, .int .i64 oA]] H K = F87 r oCode oA H K by kernel_rfl) h
noncomputable def c31 : Cx := { P := Try.prog, res := [], pub := [25], loops := [⟨9, [(59, .int .i64)], [7, 60, 61, 62, 63, 64, 65, 66, 67, 68, 69, 70, 71, 72], []⟩, ⟨14, [], [8, 9, 73, 74, 75, 76, 77, 78, 79, 80, 81, 82, 83, 84, 85, 86, 87, 88, 89, 90, 91, 92, 93, 94, 95, 96, 97, 98, 99, 100, 101, 102, 103, 104, 105, 106, 107, 108, 109, 110, 111, 112, 113, 114, 115, 116, 117, 118, 119, 120, 121, 122, 123, 124, 125, 126, 127, 128, 129, 130, 131, 132, 133, 134, 135], []⟩, ⟨16, [(8, .bool), (9, .int .i64)], [73, 74, 75, 76, 77, 78, 79, 80, 81, 82, 83, 84, 85, 86, 87, 88, 89, 90, 91, 92, 93, 94, 95, 96, 97, 98, 99, 100, 101, 102, 103, 104, 105, 106, 107, 108, 109, 110, 111, 112, 113, 114, 115, 116, 117, 118, 119, 120, 121, 122, 123, 124, 125, 126, 127, 128, 129, 130, 131, 132, 133], []⟩], quiet := [50], draws := [⟨1, [], [], false, true⟩, ⟨22, [], [], false, true⟩], asm := true }
def F31 (m : Option Addr) (now : Int) (H : Heap) (K : Value → Heap → Prop) : Prop :=
 ∃ (a : Addr),
 m = some a ∧
 ∃ (c : Array Value),
 ∃ (T : TypeId),
 H (a.add (nat_lit 31)).block = some (Obj.cells c T) ∧
 (a.add (nat_lit 31)).spot = none ∧
 (a.add (nat_lit 31)).off + [Value.int IntKind.i64 (1000 : Int)].length ≤ c.size ∧
 ∀ (H1 : Heap),
 H1 = H.upd (a.add (nat_lit 31)).block (Obj.cells (splice c (a.add (nat_lit 31)).off [Value.int IntKind.i64 (1000 : Int)]) T) →
 ∃ (a1 : Addr),
 m = some a1 ∧
 ∃ (a2 : Addr),
 m = some a2 ∧
 (∃ (x : Int),
 At H1 (a1.add (nat_lit 30)) [Value.int IntKind.i64 x] ∧
 ∃ (x1 : Int),
 At H1 (a2.add (nat_lit 30)) [Value.int IntKind.i64 x1] ∧
 ∀ (b : Nat),
 H1 b = none →
 ∀ (H11 : Heap),
 H11 = H1.upd b (Obj.cells #[Value.int IntKind.i64 (IntKind.i64.wrap (x + (1 : Int))), Value.int IntKind.i64 now, Value.int IntKind.i64 (2 : Int), Value.int IntKind.i64 x1, Value.int IntKind.i64 (0 : Int), Value.int IntKind.i64 (0 : Int), Value.int IntKind.i64 (0 : Int), Value.int IntKind.i64 (0 : Int), Value.int IntKind.i64 (0 : Int)] (23 : Nat)) →
 ∃ (a3 : Addr),
 m = some a3 ∧
 ∃ (c1 : Array Value),
 ∃ (T1 : TypeId),
 H11 (a3.add (nat_lit 32)).block = some (Obj.cells c1 T1) ∧
 (a3.add (nat_lit 32)).spot = none ∧
 (a3.add (nat_lit 32)).off + [Value.slice (some ({ block := b, off := (0 : Nat) } : Addr)) (1 : Nat) (1 : Nat)].length ≤ c1.size ∧
 ∀ (H12 : Heap),
 H12 = H11.upd (a3.add (nat_lit 32)).block (Obj.cells (splice c1 (a3.add (nat_lit 32)).off [Value.slice (some ({ block := b, off := (0 : Nat) } : Addr)) (1 : Nat) (1 : Nat)]) T1) →
 ∃ (a4 : Addr),
 m = some a4 ∧
 ∃ (c2 : Array Value),
 ∃ (T2 : TypeId),
 H12 ((a4.add (nat_lit 2)).add (nat_lit 20)).block = some (Obj.cells c2 T2) ∧
 ((a4.add (nat_lit 2)).add (nat_lit 20)).spot = none ∧
 ((a4.add (nat_lit 2)).add (nat_lit 20)).off + [Value.int IntKind.i64 now].length ≤ c2.size ∧
 ∀ (H13 : Heap),
 H13 = H12.upd ((a4.add (nat_lit 2)).add (nat_lit 20)).block (Obj.cells (splice c2 ((a4.add (nat_lit 2)).add (nat_lit 20)).off [Value.int IntKind.i64 now]) T2) →
 ∃ (a5 : Addr),
 m = some a5 ∧
 ∃ (x2 : Int),
 At H13 (a5.add (nat_lit 30)) [Value.int IntKind.i64 x2] ∧
 ∃ (a6 : Addr),
 m = some a6 ∧
 ∃ (c3 : Array Value),
 ∃ (T3 : TypeId),
 H13 (a6.add (nat_lit 30)).block = some (Obj.cells c3 T3) ∧
 (a6.add (nat_lit 30)).spot = none ∧
 (a6.add (nat_lit 30)).off + [Value.int IntKind.i64 (IntKind.i64.wrap (x2 + (1 : Int)))].length ≤ c3.size ∧
 ∀ (H14 : Heap),
 H14 = H13.upd (a6.add (nat_lit 30)).block (Obj.cells (splice c3 (a6.add (nat_lit 30)).off [Value.int IntKind.i64 (IntKind.i64.wrap (x2 + (1 : Int)))]) T3) →
 ∃ (a7 : Addr),
 m = some a7 ∧
 ∃ (b1 : Bool),
 At H14 (a7.add (nat_lit 29)) [Value.bool b1] ∧
 ∃ (a8 : Addr),
 m = some a8 ∧
 ∃ (A : Option Addr),
 ∃ (n : Nat),
 ∃ (c4 : Nat),
 At H14 (a8.add (nat_lit 28)) [Value.slice A n c4] ∧
 ∃ (a9 : Addr),
 m = some a9 ∧
 ∃ (c5 : Array Value),
 ∃ (T4 : TypeId),
 H14 (a9.add (nat_lit 29)).block = some (Obj.cells c5 T4) ∧
 (a9.add (nat_lit 29)).spot = none ∧
 (a9.add (nat_lit 29)).off + [Value.bool false].length ≤ c5.size ∧
 ∀ (H15 : Heap),
 H15 = H14.upd (a9.add (nat_lit 29)).block (Obj.cells (splice c5 (a9.add (nat_lit 29)).off [Value.bool false]) T4) →
 ∃ (a10 : Addr),
 m = some a10 ∧
 ∃ (c6 : Array Value),
 ∃ (T5 : TypeId),
 H15 (a10.add (nat_lit 28)).block = some (Obj.cells c6 T5) ∧
 (a10.add (nat_lit 28)).spot = none ∧
 (a10.add (nat_lit 28)).off + [Value.slice none (0 : Nat) (0 : Nat)].length ≤ c6.size ∧
 ∀ (H16 : Heap),
 H16 = H15.upd (a10.add (nat_lit 28)).block (Obj.cells (splice c6 (a10.add (nat_lit 28)).off [Value.slice none (0 : Nat) (0 : Nat)]) T5) →
 (b1 = true →
 Tr Try.prog (48 : Nat) #[Value.pointer m, Value.int IntKind.i64 (0 : Int)] H16 fun (v : Value) (H' : Heap) =>
 v = Value.tuple #[] ∧
 ∃ (Rel : Int → Heap → Prop),
 ∃ (mu : Int → Heap → Nat),
 Rel (0 : Int) H' ∧
 ∀ (x3 : Int) (H1 : Heap),
 Rel x3 H1 →
 (decide (x3 < (↑n : Int)) = true →
 ∃ (a11 : Addr),
 (A = some a11 ∧ (0 : Int) ≤ x3 ∧ x3 < (↑n : Int)) ∧
 ∃ (x4 : Int),
 ∃ (x5 : Int),
 ∃ (x6 : Int),
 ∃ (x7 : Int),
 ∃ (x8 : Int),
 ∃ (x9 : Int),
 ∃ (x10 : Int),
 ∃ (x11 : Int),
 ∃ (x12 : Int),
 At H1 (a11.add (x3.toNat * nat_lit 9)) [Value.int IntKind.i64 x4, Value.int IntKind.i64 x5, Value.int IntKind.i64 x6, Value.int IntKind.i64 x7, Value.int IntKind.i64 x8, Value.int IntKind.i64 x9, Value.int IntKind.i64 x10, Value.int IntKind.i64 x11, Value.int IntKind.i64 x12] ∧
 ∃ (a12 : Addr),
 m = some a12 ∧
 ∃ (b2 : Bool),
 At H1 ((a12.add (nat_lit 2)).add (nat_lit 25)) [Value.bool b2] ∧
 ((!b2) = true →
 Tr Try.prog (49 : Nat) #[Value.pointer m, Value.agg #[Value.int IntKind.i64 x4, Value.int IntKind.i64 x5, Value.int IntKind.i64 x6, Value.int IntKind.i64 x7, Value.int IntKind.i64 x8, Value.int IntKind.i64 x9, Value.int IntKind.i64 x10, Value.int IntKind.i64 x11, Value.int IntKind.i64 x12]] H1 fun (v1 : Value) (H'1 : Heap) =>
 v1 = Value.tuple #[] ∧ Rel (IntKind.i64.wrap (x3 + (1 : Int))) H'1 ∧ mu (IntKind.i64.wrap (x3 + (1 : Int))) H'1 < mu x3 H1) ∧
 ((!b2) = false → Rel (IntKind.i64.wrap (x3 + (1 : Int))) H1 ∧ mu (IntKind.i64.wrap (x3 + (1 : Int))) H1 < mu x3 H1)) ∧
 (decide (x3 < (↑n : Int)) = false →
 ∃ (Rel1 : Heap → Prop),
 ∃ (mu1 : Heap → Nat),
 Rel1 H1 ∧
 ∀ (H2 : Heap),
 Rel1 H2 →
 ∃ (Rel2 : Bool → Int → Heap → Prop),
 ∃ (mu2 : Bool → Int → Heap → Nat),
 Rel2 false (0 : Int) H2 ∧
 ∀ (b3 : Bool) (x13 : Int) (H3 : Heap),
 Rel2 b3 x13 H3 →
 ∃ (a13 : Addr),
 m = some a13 ∧
 ∃ (A1 : Option Addr),
 ∃ (n1 : Nat),
 ∃ (c7 : Nat),
 At H3 ((a13.add (nat_lit 2)).add (nat_lit 21)) [Value.slice A1 n1 c7] ∧
 (decide (x13 < (↑n1 : Int)) = true →
 ∃ (a14 : Addr),
 m = some a14 ∧
 ∃ (b4 : Bool),
 At H3 ((a14.add (nat_lit 2)).add (nat_lit 25)) [Value.bool b4] ∧
 (b4 = true → K (Value.tuple #[]) H3) ∧
 (b4 = false →
 ∃ (a15 : Addr),
 m = some a15 ∧
 ∃ (A2 : Option Addr),
 ∃ (n2 : Nat),
 ∃ (c8 : Nat),
 At H3 ((a15.add (nat_lit 2)).add (nat_lit 21)) [Value.slice A2 n2 c8] ∧
 ∃ (a16 : Addr),
 (A2 = some a16 ∧ (0 : Int) ≤ x13 ∧ x13 < (↑n2 : Int)) ∧
 ∃ (x14 : Int),
 ∃ (x15 : Int),
 ∃ (x16 : Int),
 ∃ (A3 : Option Addr),
 ∃ (n3 : Nat),
 ∃ (c9 : Nat),
 ∃ (x17 : Int),
 ∃ (x18 : Int),
 ∃ (x19 : Int),
 ∃ (x20 : Int),
 ∃ (x21 : Int),
 At H3 (a16.add (x13.toNat * nat_lit 9)) [Value.int IntKind.i64 x14, Value.int IntKind.i64 x15, Value.int IntKind.i64 x16, Value.slice A3 n3 c9, Value.int IntKind.i64 x17, Value.int IntKind.i64 x18, Value.int IntKind.i64 x19, Value.int IntKind.i64 x20, Value.int IntKind.i64 x21] ∧
 ∃ (b5 : Bool),
 (Tr Try.prog (50 : Nat) #[Value.pointer m, Value.agg #[Value.int IntKind.i64 x14, Value.int IntKind.i64 x15, Value.int IntKind.i64 x16, Value.slice A3 n3 c9, Value.int IntKind.i64 x17, Value.int IntKind.i64 x18, Value.int IntKind.i64 x19, Value.int IntKind.i64 x20, Value.int IntKind.i64 x21]] H3
 fun (v2 : Value) (H'2 : Heap) => v2 = Value.bool b5 ∧ Ax.Sub H3 H'2) ∧
 ((!b5) = true → Rel2 b3 (IntKind.i64.wrap (x13 + (1 : Int))) H3 ∧ mu2 b3 (IntKind.i64.wrap (x13 + (1 : Int))) H3 < mu2 b3 x13 H3) ∧
 ((!b5) = false →
 Tr Try.prog (51 : Nat) #[Value.pointer m, Value.int IntKind.i64 x13] H3 fun (v3 : Value) (H'3 : Heap) =>
 ∃ (x22 : Int),
 v3 = Value.int IntKind.i64 x22 ∧
 ∃ (a17 : Addr),
 ((x22 == (2 : Int)) = true → m = some a17) ∧
 ∃ (b6 : Bool),
 ((x22 == (2 : Int)) = true → At H'3 ((a17.add (nat_lit 2)).add (nat_lit 25)) [Value.bool b6]) ∧
 ((x22 == (2 : Int) && !b6) = true →
 ∃ (a18 : Addr),
 m = some a18 ∧
 ∃ (a19 : Addr),
 m = some a19 ∧
 (∃ (A4 : Option Addr),
 ∃ (n4 : Nat),
 ∃ (c10 : Nat),
 At H'3 ((a18.add (nat_lit 2)).add (nat_lit 21)) [Value.slice A4 n4 c10] ∧
 ((0 : Int) ≤ x13 ∧ x13 ≤ (↑c10 : Int) ∧ (0 : Int) ≤ x13 ∧ x13 ≤ x13) ∧
 ∃ (A5 : Option Addr),
 ∃ (n5 : Nat),
 ∃ (c11 : Nat),
 At H'3 ((a19.add (nat_lit 2)).add (nat_lit 21)) [Value.slice A5 n5 c11] ∧
 ((0 : Int) ≤ IntKind.i64.wrap (x13 + (1 : Int)) ∧ IntKind.i64.wrap (x13 + (1 : Int)) ≤ (↑n5 : Int)) ∧
 appS (60 : Nat) (nat_lit 9) (nat_lit 88) H'3 (if x13.toNat = (0 : Nat) then A4 else Option.map (fun (x : Addr) => x.add ((0 : Nat) * nat_lit 9)) A4) (x13.toNat - (0 : Nat)) (x13.toNat - (0 : Nat))
 (if c11 = (IntKind.i64.wrap (x13 + (1 : Int))).toNat then A5 else Option.map (fun (x : Addr) => x.add ((IntKind.i64.wrap (x13 + (1 : Int))).toNat * nat_lit 9)) A5) (n5 - (IntKind.i64.wrap (x13 + (1 : Int))).toNat) fun (A' : Option Addr) (n' c' : Nat) (H'4 : Heap) =>
 ∃ (a20 : Addr),
 m = some a20 ∧
 ∃ (c12 : Array Value),
 ∃ (T6 : TypeId),
 H'4 ((a20.add (nat_lit 2)).add (nat_lit 21)).block = some (Obj.cells c12 T6) ∧
 ((a20.add (nat_lit 2)).add (nat_lit 21)).spot = none ∧
 ((a20.add (nat_lit 2)).add (nat_lit 21)).off + [Value.slice A' n' c'].length ≤ c12.size ∧
 ∀ (H17 : Heap),
 H17 = H'4.upd ((a20.add (nat_lit 2)).add (nat_lit 21)).block (Obj.cells (splice c12 ((a20.add (nat_lit 2)).add (nat_lit 21)).off [Value.slice A' n' c']) T6) →
 Rel2 true (IntKind.i64.wrap (IntKind.i64.wrap (x13 - (1 : Int)) + (1 : Int))) H17 ∧ mu2 true (IntKind.i64.wrap (IntKind.i64.wrap (x13 - (1 : Int)) + (1 : Int))) H17 < mu2 b3 x13 H3) ∧
 ∃ (A6 : Option Addr),
 ∃ (n6 : Nat),
 ∃ (c13 : Nat),
 At H'3 ((a19.add (nat_lit 2)).add (nat_lit 21)) [Value.slice A6 n6 c13] ∧
 ((0 : Int) ≤ IntKind.i64.wrap (x13 + (1 : Int)) ∧ IntKind.i64.wrap (x13 + (1 : Int)) ≤ (↑n6 : Int)) ∧
 ∃ (A7 : Option Addr),
 ∃ (n7 : Nat),
 ∃ (c14 : Nat),
 At H'3 ((a18.add (nat_lit 2)).add (nat_lit 21)) [Value.slice A7 n7 c14] ∧
 ((0 : Int) ≤ x13 ∧ x13 ≤ (↑c14 : Int) ∧ (0 : Int) ≤ x13 ∧ x13 ≤ x13) ∧
 appS (60 : Nat) (nat_lit 9) (nat_lit 88) H'3 (if x13.toNat = (0 : Nat) then A7 else Option.map (fun (x : Addr) => x.add ((0 : Nat) * nat_lit 9)) A7) (x13.toNat - (0 : Nat)) (x13.toNat - (0 : Nat))
 (if c13 = (IntKind.i64.wrap (x13 + (1 : Int))).toNat then A6 else Option.map (fun (x : Addr) => x.add ((IntKind.i64.wrap (x13 + (1 : Int))).toNat * nat_lit 9)) A6) (n6 - (IntKind.i64.wrap (x13 + (1 : Int))).toNat) fun (A'1 : Option Addr) (n'1 c'1 : Nat) (H'5 : Heap) =>
 ∃ (a21 : Addr),
 m = some a21 ∧
 ∃ (c15 : Array Value),
 ∃ (T7 : TypeId),
 H'5 ((a21.add (nat_lit 2)).add (nat_lit 21)).block = some (Obj.cells c15 T7) ∧
 ((a21.add (nat_lit 2)).add (nat_lit 21)).spot = none ∧
 ((a21.add (nat_lit 2)).add (nat_lit 21)).off + [Value.slice A'1 n'1 c'1].length ≤ c15.size ∧
 ∀ (H18 : Heap),
 H18 = H'5.upd ((a21.add (nat_lit 2)).add (nat_lit 21)).block (Obj.cells (splice c15 ((a21.add (nat_lit 2)).add (nat_lit 21)).off [Value.slice A'1 n'1 c'1]) T7) →
 Rel2 true (IntKind.i64.wrap (IntKind.i64.wrap (x13 - (1 : Int)) + (1 : Int))) H18 ∧ mu2 true (IntKind.i64.wrap (IntKind.i64.wrap (x13 - (1 : Int)) + (1 : Int))) H18 < mu2 b3 x13 H3) ∧
 ((x22 == (2 : Int) && !b6) = false → Rel2 true (IntKind.i64.wrap (x13 + (1 : Int))) H'3 ∧ mu2 true (IntKind.i64.wrap (x13 + (1 : Int))) H'3 < mu2 b3 x13 H3)))) ∧
 (decide (x13 < (↑n1 : Int)) = false → ((!b3) = true → K (Value.tuple #[]) H3) ∧ ((!b3) = false → Rel1 H3 ∧ mu1 H3 < mu1 H2)))) ∧
 (b1 = false →
 ∃ (Rel3 : Int → Heap → Prop),
 ∃ (mu3 : Int → Heap → Nat),
 Rel3 (0 : Int) H16 ∧
 ∀ (x23 : Int) (H4 : Heap),
 Rel3 x23 H4 →
 (decide (x23 < (↑n : Int)) = true →
 ∃ (a22 : Addr),
 (A = some a22 ∧ (0 : Int) ≤ x23 ∧ x23 < (↑n : Int)) ∧
 ∃ (x24 : Int),
 ∃ (x25 : Int),
 ∃ (x26 : Int),
 ∃ (x27 : Int),
 ∃ (x28 : Int),
 ∃ (x29 : Int),
 ∃ (x30 : Int),
 ∃ (x31 : Int),
 ∃ (x32 : Int),
 At H4 (a22.add (x23.toNat * nat_lit 9)) [Value.int IntKind.i64 x24, Value.int IntKind.i64 x25, Value.int IntKind.i64 x26, Value.int IntKind.i64 x27, Value.int IntKind.i64 x28, Value.int IntKind.i64 x29, Value.int IntKind.i64 x30, Value.int IntKind.i64 x31, Value.int IntKind.i64 x32] ∧
 ∃ (a23 : Addr),
 m = some a23 ∧
 ∃ (b7 : Bool),
 At H4 ((a23.add (nat_lit 2)).add (nat_lit 25)) [Value.bool b7] ∧
 ((!b7) = true →
 Tr Try.prog (49 : Nat) #[Value.pointer m, Value.agg #[Value.int IntKind.i64 x24, Value.int IntKind.i64 x25, Value.int IntKind.i64 x26, Value.int IntKind.i64 x27, Value.int IntKind.i64 x28, Value.int IntKind.i64 x29, Value.int IntKind.i64 x30, Value.int IntKind.i64 x31, Value.int IntKind.i64 x32]] H4 fun (v4 : Value) (H'6 : Heap) =>
 v4 = Value.tuple #[] ∧ Rel3 (IntKind.i64.wrap (x23 + (1 : Int))) H'6 ∧ mu3 (IntKind.i64.wrap (x23 + (1 : Int))) H'6 < mu3 x23 H4) ∧
 ((!b7) = false → Rel3 (IntKind.i64.wrap (x23 + (1 : Int))) H4 ∧ mu3 (IntKind.i64.wrap (x23 + (1 : Int))) H4 < mu3 x23 H4)) ∧
 (decide (x23 < (↑n : Int)) = false →
 ∃ (Rel4 : Heap → Prop),
 ∃ (mu4 : Heap → Nat),
 Rel4 H4 ∧
 ∀ (H5 : Heap),
 Rel4 H5 →
 ∃ (Rel5 : Bool → Int → Heap → Prop),
 ∃ (mu5 : Bool → Int → Heap → Nat),
 Rel5 false (0 : Int) H5 ∧
 ∀ (b8 : Bool) (x33 : Int) (H6 : Heap),
 Rel5 b8 x33 H6 →
 ∃ (a24 : Addr),
 m = some a24 ∧
 ∃ (A8 : Option Addr),
 ∃ (n8 : Nat),
 ∃ (c16 : Nat),
 At H6 ((a24.add (nat_lit 2)).add (nat_lit 21)) [Value.slice A8 n8 c16] ∧
 (decide (x33 < (↑n8 : Int)) = true →
 ∃ (a25 : Addr),
 m = some a25 ∧
 ∃ (b9 : Bool),
 At H6 ((a25.add (nat_lit 2)).add (nat_lit 25)) [Value.bool b9] ∧
 (b9 = true → K (Value.tuple #[]) H6) ∧
 (b9 = false →
 ∃ (a26 : Addr),
 m = some a26 ∧
 ∃ (A9 : Option Addr),
 ∃ (n9 : Nat),
 ∃ (c17 : Nat),
 At H6 ((a26.add (nat_lit 2)).add (nat_lit 21)) [Value.slice A9 n9 c17] ∧
 ∃ (a27 : Addr),
 (A9 = some a27 ∧ (0 : Int) ≤ x33 ∧ x33 < (↑n9 : Int)) ∧
 ∃ (x34 : Int),
 ∃ (x35 : Int),
 ∃ (x36 : Int),
 ∃ (A10 : Option Addr),
 ∃ (n10 : Nat),
 ∃ (c18 : Nat),
 ∃ (x37 : Int),
 ∃ (x38 : Int),
 ∃ (x39 : Int),
 ∃ (x40 : Int),
 ∃ (x41 : Int),
 At H6 (a27.add (x33.toNat * nat_lit 9)) [Value.int IntKind.i64 x34, Value.int IntKind.i64 x35, Value.int IntKind.i64 x36, Value.slice A10 n10 c18, Value.int IntKind.i64 x37, Value.int IntKind.i64 x38, Value.int IntKind.i64 x39, Value.int IntKind.i64 x40, Value.int IntKind.i64 x41] ∧
 ∃ (b10 : Bool),
 (Tr Try.prog (50 : Nat) #[Value.pointer m, Value.agg #[Value.int IntKind.i64 x34, Value.int IntKind.i64 x35, Value.int IntKind.i64 x36, Value.slice A10 n10 c18, Value.int IntKind.i64 x37, Value.int IntKind.i64 x38, Value.int IntKind.i64 x39, Value.int IntKind.i64 x40, Value.int IntKind.i64 x41]] H6
 fun (v5 : Value) (H'7 : Heap) => v5 = Value.bool b10 ∧ Ax.Sub H6 H'7) ∧
 ((!b10) = true → Rel5 b8 (IntKind.i64.wrap (x33 + (1 : Int))) H6 ∧ mu5 b8 (IntKind.i64.wrap (x33 + (1 : Int))) H6 < mu5 b8 x33 H6) ∧
 ((!b10) = false →
 Tr Try.prog (51 : Nat) #[Value.pointer m, Value.int IntKind.i64 x33] H6 fun (v6 : Value) (H'8 : Heap) =>
 ∃ (x42 : Int),
 v6 = Value.int IntKind.i64 x42 ∧
 ∃ (a28 : Addr),
 ((x42 == (2 : Int)) = true → m = some a28) ∧
 ∃ (b11 : Bool),
 ((x42 == (2 : Int)) = true → At H'8 ((a28.add (nat_lit 2)).add (nat_lit 25)) [Value.bool b11]) ∧
 ((x42 == (2 : Int) && !b11) = true →
 ∃ (a29 : Addr),
 m = some a29 ∧
 ∃ (a30 : Addr),
 m = some a30 ∧
 (∃ (A11 : Option Addr),
 ∃ (n11 : Nat),
 ∃ (c19 : Nat),
 At H'8 ((a29.add (nat_lit 2)).add (nat_lit 21)) [Value.slice A11 n11 c19] ∧
 ((0 : Int) ≤ x33 ∧ x33 ≤ (↑c19 : Int) ∧ (0 : Int) ≤ x33 ∧ x33 ≤ x33) ∧
 ∃ (A12 : Option Addr),
 ∃ (n12 : Nat),
 ∃ (c20 : Nat),
 At H'8 ((a30.add (nat_lit 2)).add (nat_lit 21)) [Value.slice A12 n12 c20] ∧
 ((0 : Int) ≤ IntKind.i64.wrap (x33 + (1 : Int)) ∧ IntKind.i64.wrap (x33 + (1 : Int)) ≤ (↑n12 : Int)) ∧
 appS (60 : Nat) (nat_lit 9) (nat_lit 88) H'8 (if x33.toNat = (0 : Nat) then A11 else Option.map (fun (x : Addr) => x.add ((0 : Nat) * nat_lit 9)) A11) (x33.toNat - (0 : Nat)) (x33.toNat - (0 : Nat))
 (if c20 = (IntKind.i64.wrap (x33 + (1 : Int))).toNat then A12 else Option.map (fun (x : Addr) => x.add ((IntKind.i64.wrap (x33 + (1 : Int))).toNat * nat_lit 9)) A12) (n12 - (IntKind.i64.wrap (x33 + (1 : Int))).toNat) fun (A'2 : Option Addr) (n'2 c'2 : Nat) (H'9 : Heap) =>
 ∃ (a31 : Addr),
 m = some a31 ∧
 ∃ (c21 : Array Value),
 ∃ (T8 : TypeId),
 H'9 ((a31.add (nat_lit 2)).add (nat_lit 21)).block = some (Obj.cells c21 T8) ∧
 ((a31.add (nat_lit 2)).add (nat_lit 21)).spot = none ∧
 ((a31.add (nat_lit 2)).add (nat_lit 21)).off + [Value.slice A'2 n'2 c'2].length ≤ c21.size ∧
 ∀ (H19 : Heap),
 H19 = H'9.upd ((a31.add (nat_lit 2)).add (nat_lit 21)).block (Obj.cells (splice c21 ((a31.add (nat_lit 2)).add (nat_lit 21)).off [Value.slice A'2 n'2 c'2]) T8) →
 Rel5 true (IntKind.i64.wrap (IntKind.i64.wrap (x33 - (1 : Int)) + (1 : Int))) H19 ∧ mu5 true (IntKind.i64.wrap (IntKind.i64.wrap (x33 - (1 : Int)) + (1 : Int))) H19 < mu5 b8 x33 H6) ∧
 ∃ (A13 : Option Addr),
 ∃ (n13 : Nat),
 ∃ (c22 : Nat),
 At H'8 ((a30.add (nat_lit 2)).add (nat_lit 21)) [Value.slice A13 n13 c22] ∧
 ((0 : Int) ≤ IntKind.i64.wrap (x33 + (1 : Int)) ∧ IntKind.i64.wrap (x33 + (1 : Int)) ≤ (↑n13 : Int)) ∧
 ∃ (A14 : Option Addr),
 ∃ (n14 : Nat),
 ∃ (c23 : Nat),
 At H'8 ((a29.add (nat_lit 2)).add (nat_lit 21)) [Value.slice A14 n14 c23] ∧
 ((0 : Int) ≤ x33 ∧ x33 ≤ (↑c23 : Int) ∧ (0 : Int) ≤ x33 ∧ x33 ≤ x33) ∧
 appS (60 : Nat) (nat_lit 9) (nat_lit 88) H'8 (if x33.toNat = (0 : Nat) then A14 else Option.map (fun (x : Addr) => x.add ((0 : Nat) * nat_lit 9)) A14) (x33.toNat - (0 : Nat)) (x33.toNat - (0 : Nat))
 (if c22 = (IntKind.i64.wrap (x33 + (1 : Int))).toNat then A13 else Option.map (fun (x : Addr) => x.add ((IntKind.i64.wrap (x33 + (1 : Int))).toNat * nat_lit 9)) A13) (n13 - (IntKind.i64.wrap (x33 + (1 : Int))).toNat) fun (A'3 : Option Addr) (n'3 c'3 : Nat) (H'10 : Heap) =>
 ∃ (a32 : Addr),
 m = some a32 ∧
 ∃ (c24 : Array Value),
 ∃ (T9 : TypeId),
 H'10 ((a32.add (nat_lit 2)).add (nat_lit 21)).block = some (Obj.cells c24 T9) ∧
 ((a32.add (nat_lit 2)).add (nat_lit 21)).spot = none ∧
 ((a32.add (nat_lit 2)).add (nat_lit 21)).off + [Value.slice A'3 n'3 c'3].length ≤ c24.size ∧
 ∀ (H110 : Heap),
 H110 = H'10.upd ((a32.add (nat_lit 2)).add (nat_lit 21)).block (Obj.cells (splice c24 ((a32.add (nat_lit 2)).add (nat_lit 21)).off [Value.slice A'3 n'3 c'3]) T9) →
 Rel5 true (IntKind.i64.wrap (IntKind.i64.wrap (x33 - (1 : Int)) + (1 : Int))) H110 ∧ mu5 true (IntKind.i64.wrap (IntKind.i64.wrap (x33 - (1 : Int)) + (1 : Int))) H110 < mu5 b8 x33 H6) ∧
 ((x42 == (2 : Int) && !b11) = false → Rel5 true (IntKind.i64.wrap (x33 + (1 : Int))) H'8 ∧ mu5 true (IntKind.i64.wrap (x33 + (1 : Int))) H'8 < mu5 b8 x33 H6)))) ∧
 (decide (x33 < (↑n8 : Int)) = false → ((!b8) = true → K (Value.tuple #[]) H6) ∧ ((!b8) = false → Rel4 H6 ∧ mu4 H6 < mu4 H5))))) ∧
 ∃ (x43 : Int),
 At H1 (a2.add (nat_lit 30)) [Value.int IntKind.i64 x43] ∧
 ∃ (x44 : Int),
 At H1 (a1.add (nat_lit 30)) [Value.int IntKind.i64 x44] ∧
 ∀ (b12 : Nat),
 H1 b12 = none →
 ∀ (H111 : Heap),
 H111 = H1.upd b12 (Obj.cells #[Value.int IntKind.i64 (IntKind.i64.wrap (x44 + (1 : Int))), Value.int IntKind.i64 now, Value.int IntKind.i64 (2 : Int), Value.int IntKind.i64 x43, Value.int IntKind.i64 (0 : Int), Value.int IntKind.i64 (0 : Int), Value.int IntKind.i64 (0 : Int), Value.int IntKind.i64 (0 : Int), Value.int IntKind.i64 (0 : Int)] (23 : Nat)) →
 ∃ (a33 : Addr),
 m = some a33 ∧
 ∃ (c25 : Array Value),
 ∃ (T10 : TypeId),
 H111 (a33.add (nat_lit 32)).block = some (Obj.cells c25 T10) ∧
 (a33.add (nat_lit 32)).spot = none ∧
 (a33.add (nat_lit 32)).off + [Value.slice (some ({ block := b12, off := (0 : Nat) } : Addr)) (1 : Nat) (1 : Nat)].length ≤ c25.size ∧
 ∀ (H112 : Heap),
 H112 = H111.upd (a33.add (nat_lit 32)).block (Obj.cells (splice c25 (a33.add (nat_lit 32)).off [Value.slice (some ({ block := b12, off := (0 : Nat) } : Addr)) (1 : Nat) (1 : Nat)]) T10) →
 ∃ (a34 : Addr),
 m = some a34 ∧
 ∃ (c26 : Array Value),
 ∃ (T11 : TypeId),
 H112 ((a34.add (nat_lit 2)).add (nat_lit 20)).block = some (Obj.cells c26 T11) ∧
 ((a34.add (nat_lit 2)).add (nat_lit 20)).spot = none ∧
 ((a34.add (nat_lit 2)).add (nat_lit 20)).off + [Value.int IntKind.i64 now].length ≤ c26.size ∧
 ∀ (H113 : Heap),
 H113 = H112.upd ((a34.add (nat_lit 2)).add (nat_lit 20)).block (Obj.cells (splice c26 ((a34.add (nat_lit 2)).add (nat_lit 20)).off [Value.int IntKind.i64 now]) T11) →
 ∃ (a35 : Addr),
 m = some a35 ∧
 ∃ (x45 : Int),
 At H113 (a35.add (nat_lit 30)) [Value.int IntKind.i64 x45] ∧
 ∃ (a36 : Addr),
 m = some a36 ∧
 ∃ (c27 : Array Value),
 ∃ (T12 : TypeId),
 H113 (a36.add (nat_lit 30)).block = some (Obj.cells c27 T12) ∧
 (a36.add (nat_lit 30)).spot = none ∧
 (a36.add (nat_lit 30)).off + [Value.int IntKind.i64 (IntKind.i64.wrap (x45 + (1 : Int)))].length ≤ c27.size ∧
 ∀ (H114 : Heap),
 H114 = H113.upd (a36.add (nat_lit 30)).block (Obj.cells (splice c27 (a36.add (nat_lit 30)).off [Value.int IntKind.i64 (IntKind.i64.wrap (x45 + (1 : Int)))]) T12) →
 ∃ (a37 : Addr),
 m = some a37 ∧
 ∃ (b13 : Bool),
 At H114 (a37.add (nat_lit 29)) [Value.bool b13] ∧
 ∃ (a38 : Addr),
 m = some a38 ∧
 ∃ (A15 : Option Addr),
 ∃ (n15 : Nat),
 ∃ (c28 : Nat),
 At H114 (a38.add (nat_lit 28)) [Value.slice A15 n15 c28] ∧
 ∃ (a39 : Addr),
 m = some a39 ∧
 ∃ (c29 : Array Value),
 ∃ (T13 : TypeId),
 H114 (a39.add (nat_lit 29)).block = some (Obj.cells c29 T13) ∧
 (a39.add (nat_lit 29)).spot = none ∧
 (a39.add (nat_lit 29)).off + [Value.bool false].length ≤ c29.size ∧
 ∀ (H115 : Heap),
 H115 = H114.upd (a39.add (nat_lit 29)).block (Obj.cells (splice c29 (a39.add (nat_lit 29)).off [Value.bool false]) T13) →
 ∃ (a40 : Addr),
 m = some a40 ∧
 ∃ (c30 : Array Value),
 ∃ (T14 : TypeId),
 H115 (a40.add (nat_lit 28)).block = some (Obj.cells c30 T14) ∧
 (a40.add (nat_lit 28)).spot = none ∧
 (a40.add (nat_lit 28)).off + [Value.slice none (0 : Nat) (0 : Nat)].length ≤ c30.size ∧
 ∀ (H116 : Heap),
 H116 = H115.upd (a40.add (nat_lit 28)).block (Obj.cells (splice c30 (a40.add (nat_lit 28)).off [Value.slice none (0 : Nat) (0 : Nat)]) T14) →
 (b13 = true →
 Tr Try.prog (48 : Nat) #[Value.pointer m, Value.int IntKind.i64 (0 : Int)] H116 fun (v7 : Value) (H'11 : Heap) =>
 v7 = Value.tuple #[] ∧
 ∃ (Rel6 : Int → Heap → Prop),
 ∃ (mu6 : Int → Heap → Nat),
 Rel6 (0 : Int) H'11 ∧
 ∀ (x46 : Int) (H7 : Heap),
 Rel6 x46 H7 →
 (decide (x46 < (↑n15 : Int)) = true →
 ∃ (a41 : Addr),
 (A15 = some a41 ∧ (0 : Int) ≤ x46 ∧ x46 < (↑n15 : Int)) ∧
 ∃ (x47 : Int),
 ∃ (x48 : Int),
 ∃ (x49 : Int),
 ∃ (x50 : Int),
 ∃ (x51 : Int),
 ∃ (x52 : Int),
 ∃ (x53 : Int),
 ∃ (x54 : Int),
 ∃ (x55 : Int),
 At H7 (a41.add (x46.toNat * nat_lit 9)) [Value.int IntKind.i64 x47, Value.int IntKind.i64 x48, Value.int IntKind.i64 x49, Value.int IntKind.i64 x50, Value.int IntKind.i64 x51, Value.int IntKind.i64 x52, Value.int IntKind.i64 x53, Value.int IntKind.i64 x54, Value.int IntKind.i64 x55] ∧
 ∃ (a42 : Addr),
 m = some a42 ∧
 ∃ (b14 : Bool),
 At H7 ((a42.add (nat_lit 2)).add (nat_lit 25)) [Value.bool b14] ∧
 ((!b14) = true →
 Tr Try.prog (49 : Nat) #[Value.pointer m, Value.agg #[Value.int IntKind.i64 x47, Value.int IntKind.i64 x48, Value.int IntKind.i64 x49, Value.int IntKind.i64 x50, Value.int IntKind.i64 x51, Value.int IntKind.i64 x52, Value.int IntKind.i64 x53, Value.int IntKind.i64 x54, Value.int IntKind.i64 x55]] H7 fun (v8 : Value) (H'12 : Heap) =>
 v8 = Value.tuple #[] ∧ Rel6 (IntKind.i64.wrap (x46 + (1 : Int))) H'12 ∧ mu6 (IntKind.i64.wrap (x46 + (1 : Int))) H'12 < mu6 x46 H7) ∧
 ((!b14) = false → Rel6 (IntKind.i64.wrap (x46 + (1 : Int))) H7 ∧ mu6 (IntKind.i64.wrap (x46 + (1 : Int))) H7 < mu6 x46 H7)) ∧
 (decide (x46 < (↑n15 : Int)) = false →
 ∃ (Rel7 : Heap → Prop),
 ∃ (mu7 : Heap → Nat),
 Rel7 H7 ∧
 ∀ (H8 : Heap),
 Rel7 H8 →
 ∃ (Rel8 : Bool → Int → Heap → Prop),
 ∃ (mu8 : Bool → Int → Heap → Nat),
 Rel8 false (0 : Int) H8 ∧
 ∀ (b15 : Bool) (x56 : Int) (H9 : Heap),
 Rel8 b15 x56 H9 →
 ∃ (a43 : Addr),
 m = some a43 ∧
 ∃ (A16 : Option Addr),
 ∃ (n16 : Nat),
 ∃ (c31 : Nat),
 At H9 ((a43.add (nat_lit 2)).add (nat_lit 21)) [Value.slice A16 n16 c31] ∧
 (decide (x56 < (↑n16 : Int)) = true →
 ∃ (a44 : Addr),
 m = some a44 ∧
 ∃ (b16 : Bool),
 At H9 ((a44.add (nat_lit 2)).add (nat_lit 25)) [Value.bool b16] ∧
 (b16 = true → K (Value.tuple #[]) H9) ∧
 (b16 = false →
 ∃ (a45 : Addr),
 m = some a45 ∧
 ∃ (A17 : Option Addr),
 ∃ (n17 : Nat),
 ∃ (c32 : Nat),
 At H9 ((a45.add (nat_lit 2)).add (nat_lit 21)) [Value.slice A17 n17 c32] ∧
 ∃ (a46 : Addr),
 (A17 = some a46 ∧ (0 : Int) ≤ x56 ∧ x56 < (↑n17 : Int)) ∧
 ∃ (x57 : Int),
 ∃ (x58 : Int),
 ∃ (x59 : Int),
 ∃ (A18 : Option Addr),
 ∃ (n18 : Nat),
 ∃ (c33 : Nat),
 ∃ (x60 : Int),
 ∃ (x61 : Int),
 ∃ (x62 : Int),
 ∃ (x63 : Int),
 ∃ (x64 : Int),
 At H9 (a46.add (x56.toNat * nat_lit 9)) [Value.int IntKind.i64 x57, Value.int IntKind.i64 x58, Value.int IntKind.i64 x59, Value.slice A18 n18 c33, Value.int IntKind.i64 x60, Value.int IntKind.i64 x61, Value.int IntKind.i64 x62, Value.int IntKind.i64 x63, Value.int IntKind.i64 x64] ∧
 ∃ (b17 : Bool),
 (Tr Try.prog (50 : Nat) #[Value.pointer m, Value.agg #[Value.int IntKind.i64 x57, Value.int IntKind.i64 x58, Value.int IntKind.i64 x59, Value.slice A18 n18 c33, Value.int IntKind.i64 x60, Value.int IntKind.i64 x61, Value.int IntKind.i64 x62, Value.int IntKind.i64 x63, Value.int IntKind.i64 x64]] H9
 fun (v9 : Value) (H'13 : Heap) => v9 = Value.bool b17 ∧ Ax.Sub H9 H'13) ∧
 ((!b17) = true → Rel8 b15 (IntKind.i64.wrap (x56 + (1 : Int))) H9 ∧ mu8 b15 (IntKind.i64.wrap (x56 + (1 : Int))) H9 < mu8 b15 x56 H9) ∧
 ((!b17) = false →
 Tr Try.prog (51 : Nat) #[Value.pointer m, Value.int IntKind.i64 x56] H9 fun (v10 : Value) (H'14 : Heap) =>
 ∃ (x65 : Int),
 v10 = Value.int IntKind.i64 x65 ∧
 ∃ (a47 : Addr),
 ((x65 == (2 : Int)) = true → m = some a47) ∧
 ∃ (b18 : Bool),
 ((x65 == (2 : Int)) = true → At H'14 ((a47.add (nat_lit 2)).add (nat_lit 25)) [Value.bool b18]) ∧
 ((x65 == (2 : Int) && !b18) = true →
 ∃ (a48 : Addr),
 m = some a48 ∧
 ∃ (a49 : Addr),
 m = some a49 ∧
 (∃ (A19 : Option Addr),
 ∃ (n19 : Nat),
 ∃ (c34 : Nat),
 At H'14 ((a48.add (nat_lit 2)).add (nat_lit 21)) [Value.slice A19 n19 c34] ∧
 ((0 : Int) ≤ x56 ∧ x56 ≤ (↑c34 : Int) ∧ (0 : Int) ≤ x56 ∧ x56 ≤ x56) ∧
 ∃ (A20 : Option Addr),
 ∃ (n20 : Nat),
 ∃ (c35 : Nat),
 At H'14 ((a49.add (nat_lit 2)).add (nat_lit 21)) [Value.slice A20 n20 c35] ∧
 ((0 : Int) ≤ IntKind.i64.wrap (x56 + (1 : Int)) ∧ IntKind.i64.wrap (x56 + (1 : Int)) ≤ (↑n20 : Int)) ∧
 appS (60 : Nat) (nat_lit 9) (nat_lit 88) H'14 (if x56.toNat = (0 : Nat) then A19 else Option.map (fun (x : Addr) => x.add ((0 : Nat) * nat_lit 9)) A19) (x56.toNat - (0 : Nat)) (x56.toNat - (0 : Nat))
 (if c35 = (IntKind.i64.wrap (x56 + (1 : Int))).toNat then A20 else Option.map (fun (x : Addr) => x.add ((IntKind.i64.wrap (x56 + (1 : Int))).toNat * nat_lit 9)) A20) (n20 - (IntKind.i64.wrap (x56 + (1 : Int))).toNat)
 fun (A'4 : Option Addr) (n'4 c'4 : Nat) (H'15 : Heap) =>
 ∃ (a50 : Addr),
 m = some a50 ∧
 ∃ (c36 : Array Value),
 ∃ (T15 : TypeId),
 H'15 ((a50.add (nat_lit 2)).add (nat_lit 21)).block = some (Obj.cells c36 T15) ∧
 ((a50.add (nat_lit 2)).add (nat_lit 21)).spot = none ∧
 ((a50.add (nat_lit 2)).add (nat_lit 21)).off + [Value.slice A'4 n'4 c'4].length ≤ c36.size ∧
 ∀ (H117 : Heap),
 H117 = H'15.upd ((a50.add (nat_lit 2)).add (nat_lit 21)).block (Obj.cells (splice c36 ((a50.add (nat_lit 2)).add (nat_lit 21)).off [Value.slice A'4 n'4 c'4]) T15) →
 Rel8 true (IntKind.i64.wrap (IntKind.i64.wrap (x56 - (1 : Int)) + (1 : Int))) H117 ∧ mu8 true (IntKind.i64.wrap (IntKind.i64.wrap (x56 - (1 : Int)) + (1 : Int))) H117 < mu8 b15 x56 H9) ∧
 ∃ (A21 : Option Addr),
 ∃ (n21 : Nat),
 ∃ (c37 : Nat),
 At H'14 ((a49.add (nat_lit 2)).add (nat_lit 21)) [Value.slice A21 n21 c37] ∧
 ((0 : Int) ≤ IntKind.i64.wrap (x56 + (1 : Int)) ∧ IntKind.i64.wrap (x56 + (1 : Int)) ≤ (↑n21 : Int)) ∧
 ∃ (A22 : Option Addr),
 ∃ (n22 : Nat),
 ∃ (c38 : Nat),
 At H'14 ((a48.add (nat_lit 2)).add (nat_lit 21)) [Value.slice A22 n22 c38] ∧
 ((0 : Int) ≤ x56 ∧ x56 ≤ (↑c38 : Int) ∧ (0 : Int) ≤ x56 ∧ x56 ≤ x56) ∧
 appS (60 : Nat) (nat_lit 9) (nat_lit 88) H'14 (if x56.toNat = (0 : Nat) then A22 else Option.map (fun (x : Addr) => x.add ((0 : Nat) * nat_lit 9)) A22) (x56.toNat - (0 : Nat)) (x56.toNat - (0 : Nat))
 (if c37 = (IntKind.i64.wrap (x56 + (1 : Int))).toNat then A21 else Option.map (fun (x : Addr) => x.add ((IntKind.i64.wrap (x56 + (1 : Int))).toNat * nat_lit 9)) A21) (n21 - (IntKind.i64.wrap (x56 + (1 : Int))).toNat)
 fun (A'5 : Option Addr) (n'5 c'5 : Nat) (H'16 : Heap) =>
 ∃ (a51 : Addr),
 m = some a51 ∧
 ∃ (c39 : Array Value),
 ∃ (T16 : TypeId),
 H'16 ((a51.add (nat_lit 2)).add (nat_lit 21)).block = some (Obj.cells c39 T16) ∧
 ((a51.add (nat_lit 2)).add (nat_lit 21)).spot = none ∧
 ((a51.add (nat_lit 2)).add (nat_lit 21)).off + [Value.slice A'5 n'5 c'5].length ≤ c39.size ∧
 ∀ (H118 : Heap),
 H118 = H'16.upd ((a51.add (nat_lit 2)).add (nat_lit 21)).block (Obj.cells (splice c39 ((a51.add (nat_lit 2)).add (nat_lit 21)).off [Value.slice A'5 n'5 c'5]) T16) →
 Rel8 true (IntKind.i64.wrap (IntKind.i64.wrap (x56 - (1 : Int)) + (1 : Int))) H118 ∧ mu8 true (IntKind.i64.wrap (IntKind.i64.wrap (x56 - (1 : Int)) + (1 : Int))) H118 < mu8 b15 x56 H9) ∧
 ((x65 == (2 : Int) && !b18) = false → Rel8 true (IntKind.i64.wrap (x56 + (1 : Int))) H'14 ∧ mu8 true (IntKind.i64.wrap (x56 + (1 : Int))) H'14 < mu8 b15 x56 H9)))) ∧
 (decide (x56 < (↑n16 : Int)) = false → ((!b15) = true → K (Value.tuple #[]) H9) ∧ ((!b15) = false → Rel7 H9 ∧ mu7 H9 < mu7 H8)))) ∧
 (b13 = false →
 ∃ (Rel9 : Int → Heap → Prop),
 ∃ (mu9 : Int → Heap → Nat),
 Rel9 (0 : Int) H116 ∧
 ∀ (x66 : Int) (H10 : Heap),
 Rel9 x66 H10 →
 (decide (x66 < (↑n15 : Int)) = true →
 ∃ (a52 : Addr),
 (A15 = some a52 ∧ (0 : Int) ≤ x66 ∧ x66 < (↑n15 : Int)) ∧
 ∃ (x67 : Int),
 ∃ (x68 : Int),
 ∃ (x69 : Int),
 ∃ (x70 : Int),
 ∃ (x71 : Int),
 ∃ (x72 : Int),
 ∃ (x73 : Int),
 ∃ (x74 : Int),
 ∃ (x75 : Int),
 At H10 (a52.add (x66.toNat * nat_lit 9)) [Value.int IntKind.i64 x67, Value.int IntKind.i64 x68, Value.int IntKind.i64 x69, Value.int IntKind.i64 x70, Value.int IntKind.i64 x71, Value.int IntKind.i64 x72, Value.int IntKind.i64 x73, Value.int IntKind.i64 x74, Value.int IntKind.i64 x75] ∧
 ∃ (a53 : Addr),
 m = some a53 ∧
 ∃ (b19 : Bool),
 At H10 ((a53.add (nat_lit 2)).add (nat_lit 25)) [Value.bool b19] ∧
 ((!b19) = true →
 Tr Try.prog (49 : Nat) #[Value.pointer m, Value.agg #[Value.int IntKind.i64 x67, Value.int IntKind.i64 x68, Value.int IntKind.i64 x69, Value.int IntKind.i64 x70, Value.int IntKind.i64 x71, Value.int IntKind.i64 x72, Value.int IntKind.i64 x73, Value.int IntKind.i64 x74, Value.int IntKind.i64 x75]] H10 fun (v11 : Value) (H'17 : Heap) =>
 v11 = Value.tuple #[] ∧ Rel9 (IntKind.i64.wrap (x66 + (1 : Int))) H'17 ∧ mu9 (IntKind.i64.wrap (x66 + (1 : Int))) H'17 < mu9 x66 H10) ∧
 ((!b19) = false → Rel9 (IntKind.i64.wrap (x66 + (1 : Int))) H10 ∧ mu9 (IntKind.i64.wrap (x66 + (1 : Int))) H10 < mu9 x66 H10)) ∧
 (decide (x66 < (↑n15 : Int)) = false →
 ∃ (Rel10 : Heap → Prop),
 ∃ (mu10 : Heap → Nat),
 Rel10 H10 ∧
 ∀ (H11 : Heap),
 Rel10 H11 →
 ∃ (Rel11 : Bool → Int → Heap → Prop),
 ∃ (mu11 : Bool → Int → Heap → Nat),
 Rel11 false (0 : Int) H11 ∧
 ∀ (b20 : Bool) (x76 : Int) (H12 : Heap),
 Rel11 b20 x76 H12 →
 ∃ (a54 : Addr),
 m = some a54 ∧
 ∃ (A23 : Option Addr),
 ∃ (n23 : Nat),
 ∃ (c40 : Nat),
 At H12 ((a54.add (nat_lit 2)).add (nat_lit 21)) [Value.slice A23 n23 c40] ∧
 (decide (x76 < (↑n23 : Int)) = true →
 ∃ (a55 : Addr),
 m = some a55 ∧
 ∃ (b21 : Bool),
 At H12 ((a55.add (nat_lit 2)).add (nat_lit 25)) [Value.bool b21] ∧
 (b21 = true → K (Value.tuple #[]) H12) ∧
 (b21 = false →
 ∃ (a56 : Addr),
 m = some a56 ∧
 ∃ (A24 : Option Addr),
 ∃ (n24 : Nat),
 ∃ (c41 : Nat),
 At H12 ((a56.add (nat_lit 2)).add (nat_lit 21)) [Value.slice A24 n24 c41] ∧
 ∃ (a57 : Addr),
 (A24 = some a57 ∧ (0 : Int) ≤ x76 ∧ x76 < (↑n24 : Int)) ∧
 ∃ (x77 : Int),
 ∃ (x78 : Int),
 ∃ (x79 : Int),
 ∃ (A25 : Option Addr),
 ∃ (n25 : Nat),
 ∃ (c42 : Nat),
 ∃ (x80 : Int),
 ∃ (x81 : Int),
 ∃ (x82 : Int),
 ∃ (x83 : Int),
 ∃ (x84 : Int),
 At H12 (a57.add (x76.toNat * nat_lit 9)) [Value.int IntKind.i64 x77, Value.int IntKind.i64 x78, Value.int IntKind.i64 x79, Value.slice A25 n25 c42, Value.int IntKind.i64 x80, Value.int IntKind.i64 x81, Value.int IntKind.i64 x82, Value.int IntKind.i64 x83, Value.int IntKind.i64 x84] ∧
 ∃ (b22 : Bool),
 (Tr Try.prog (50 : Nat) #[Value.pointer m, Value.agg #[Value.int IntKind.i64 x77, Value.int IntKind.i64 x78, Value.int IntKind.i64 x79, Value.slice A25 n25 c42, Value.int IntKind.i64 x80, Value.int IntKind.i64 x81, Value.int IntKind.i64 x82, Value.int IntKind.i64 x83, Value.int IntKind.i64 x84]] H12
 fun (v12 : Value) (H'18 : Heap) => v12 = Value.bool b22 ∧ Ax.Sub H12 H'18) ∧
 ((!b22) = true → Rel11 b20 (IntKind.i64.wrap (x76 + (1 : Int))) H12 ∧ mu11 b20 (IntKind.i64.wrap (x76 + (1 : Int))) H12 < mu11 b20 x76 H12) ∧
 ((!b22) = false →
 Tr Try.prog (51 : Nat) #[Value.pointer m, Value.int IntKind.i64 x76] H12 fun (v13 : Value) (H'19 : Heap) =>
 ∃ (x85 : Int),
 v13 = Value.int IntKind.i64 x85 ∧
 ∃ (a58 : Addr),
 ((x85 == (2 : Int)) = true → m = some a58) ∧
 ∃ (b23 : Bool),
 ((x85 == (2 : Int)) = true → At H'19 ((a58.add (nat_lit 2)).add (nat_lit 25)) [Value.bool b23]) ∧
 ((x85 == (2 : Int) && !b23) = true →
 ∃ (a59 : Addr),
 m = some a59 ∧
 ∃ (a60 : Addr),
 m = some a60 ∧
 (∃ (A26 : Option Addr),
 ∃ (n26 : Nat),
 ∃ (c43 : Nat),
 At H'19 ((a59.add (nat_lit 2)).add (nat_lit 21)) [Value.slice A26 n26 c43] ∧
 ((0 : Int) ≤ x76 ∧ x76 ≤ (↑c43 : Int) ∧ (0 : Int) ≤ x76 ∧ x76 ≤ x76) ∧
 ∃ (A27 : Option Addr),
 ∃ (n27 : Nat),
 ∃ (c44 : Nat),
 At H'19 ((a60.add (nat_lit 2)).add (nat_lit 21)) [Value.slice A27 n27 c44] ∧
 ((0 : Int) ≤ IntKind.i64.wrap (x76 + (1 : Int)) ∧ IntKind.i64.wrap (x76 + (1 : Int)) ≤ (↑n27 : Int)) ∧
 appS (60 : Nat) (nat_lit 9) (nat_lit 88) H'19 (if x76.toNat = (0 : Nat) then A26 else Option.map (fun (x : Addr) => x.add ((0 : Nat) * nat_lit 9)) A26) (x76.toNat - (0 : Nat)) (x76.toNat - (0 : Nat))
 (if c44 = (IntKind.i64.wrap (x76 + (1 : Int))).toNat then A27 else Option.map (fun (x : Addr) => x.add ((IntKind.i64.wrap (x76 + (1 : Int))).toNat * nat_lit 9)) A27) (n27 - (IntKind.i64.wrap (x76 + (1 : Int))).toNat) fun (A'6 : Option Addr) (n'6 c'6 : Nat) (H'20 : Heap) =>
 ∃ (a61 : Addr),
 m = some a61 ∧
 ∃ (c45 : Array Value),
 ∃ (T17 : TypeId),
 H'20 ((a61.add (nat_lit 2)).add (nat_lit 21)).block = some (Obj.cells c45 T17) ∧
 ((a61.add (nat_lit 2)).add (nat_lit 21)).spot = none ∧
 ((a61.add (nat_lit 2)).add (nat_lit 21)).off + [Value.slice A'6 n'6 c'6].length ≤ c45.size ∧
 ∀ (H119 : Heap),
 H119 = H'20.upd ((a61.add (nat_lit 2)).add (nat_lit 21)).block (Obj.cells (splice c45 ((a61.add (nat_lit 2)).add (nat_lit 21)).off [Value.slice A'6 n'6 c'6]) T17) →
 Rel11 true (IntKind.i64.wrap (IntKind.i64.wrap (x76 - (1 : Int)) + (1 : Int))) H119 ∧ mu11 true (IntKind.i64.wrap (IntKind.i64.wrap (x76 - (1 : Int)) + (1 : Int))) H119 < mu11 b20 x76 H12) ∧
 ∃ (A28 : Option Addr),
 ∃ (n28 : Nat),
 ∃ (c46 : Nat),
 At H'19 ((a60.add (nat_lit 2)).add (nat_lit 21)) [Value.slice A28 n28 c46] ∧
 ((0 : Int) ≤ IntKind.i64.wrap (x76 + (1 : Int)) ∧ IntKind.i64.wrap (x76 + (1 : Int)) ≤ (↑n28 : Int)) ∧
 ∃ (A29 : Option Addr),
 ∃ (n29 : Nat),
 ∃ (c47 : Nat),
 At H'19 ((a59.add (nat_lit 2)).add (nat_lit 21)) [Value.slice A29 n29 c47] ∧
 ((0 : Int) ≤ x76 ∧ x76 ≤ (↑c47 : Int) ∧ (0 : Int) ≤ x76 ∧ x76 ≤ x76) ∧
 appS (60 : Nat) (nat_lit 9) (nat_lit 88) H'19 (if x76.toNat = (0 : Nat) then A29 else Option.map (fun (x : Addr) => x.add ((0 : Nat) * nat_lit 9)) A29) (x76.toNat - (0 : Nat)) (x76.toNat - (0 : Nat))
 (if c46 = (IntKind.i64.wrap (x76 + (1 : Int))).toNat then A28 else Option.map (fun (x : Addr) => x.add ((IntKind.i64.wrap (x76 + (1 : Int))).toNat * nat_lit 9)) A28) (n28 - (IntKind.i64.wrap (x76 + (1 : Int))).toNat) fun (A'7 : Option Addr) (n'7 c'7 : Nat) (H'21 : Heap) =>
 ∃ (a62 : Addr),
 m = some a62 ∧
 ∃ (c48 : Array Value),
 ∃ (T18 : TypeId),
 H'21 ((a62.add (nat_lit 2)).add (nat_lit 21)).block = some (Obj.cells c48 T18) ∧
 ((a62.add (nat_lit 2)).add (nat_lit 21)).spot = none ∧
 ((a62.add (nat_lit 2)).add (nat_lit 21)).off + [Value.slice A'7 n'7 c'7].length ≤ c48.size ∧
 ∀ (H120 : Heap),
 H120 = H'21.upd ((a62.add (nat_lit 2)).add (nat_lit 21)).block (Obj.cells (splice c48 ((a62.add (nat_lit 2)).add (nat_lit 21)).off [Value.slice A'7 n'7 c'7]) T18) →
 Rel11 true (IntKind.i64.wrap (IntKind.i64.wrap (x76 - (1 : Int)) + (1 : Int))) H120 ∧ mu11 true (IntKind.i64.wrap (IntKind.i64.wrap (x76 - (1 : Int)) + (1 : Int))) H120 < mu11 b20 x76 H12) ∧
 ((x85 == (2 : Int) && !b23) = false → Rel11 true (IntKind.i64.wrap (x76 + (1 : Int))) H'19 ∧ mu11 true (IntKind.i64.wrap (x76 + (1 : Int))) H'19 < mu11 b20 x76 H12)))) ∧
 (decide (x76 < (↑n23 : Int)) = false → ((!b20) = true → K (Value.tuple #[]) H12) ∧ ((!b20) = false → Rel10 H12 ∧ mu10 H12 < mu10 H11))))
theorem v31 {m : Option Addr} {now : Int} {H : Heap} {K : Value → Heap → Prop} (h : F31 m now H K) : Tr Try.prog 31 #[.pointer m, .int .i64 now] H K :=
  tr_of_eq (C := c31) Try.func31 (show vcFn c31 Try.f31 [.pointer m, .int .i64 now] H K = F31 m now H K by kernel_rfl) h
noncomputable def c12 : Cx := { P := Try.prog, res := [], pub := [59], loops := [], quiet := [27, 28, 30], draws := [⟨12, [4, 6, 13, 17], [], true, true⟩, ⟨16, [5], [], false, true⟩, ⟨18, [3, 6], [], false, true⟩, ⟨21, [3, 6], [], false, true⟩, ⟨23, [3, 6], [], false, true⟩, ⟨27, [3, 6, 8], [], false, true⟩], asm := true }
def F12 (m : Option Addr) (eId : Int) (eTime : Int) (eKind : Int) (eA : Int) (eB : Int) (eC : Int) (eD : Int) (eE : Int) (eF : Int) (H : Heap) (K : Value → Heap → Prop) : Prop :=
 (m.isNone = true → K (Value.int IntKind.i64 (42 : Int)) H) ∧
 (m.isNone = false →
 ∃ (a : Addr),
 m = some a ∧
 ∃ (b : Bool),
 At H ((a.add (nat_lit 2)).add (nat_lit 25)) [Value.bool b] ∧
 (b = true → K (Value.int IntKind.i64 (46 : Int)) H) ∧
 (b = false →
 ∃ (b1 : Bool),
 (Tr Try.prog (27 : Nat) #[Value.agg #[Value.int IntKind.i64 eId, Value.int IntKind.i64 eTime, Value.int IntKind.i64 eKind, Value.int IntKind.i64 eA, Value.int IntKind.i64 eB, Value.int IntKind.i64 eC, Value.int IntKind.i64 eD, Value.int IntKind.i64 eE, Value.int IntKind.i64 eF]] H fun (v : Value) (H' : Heap) => v = Value.bool b1 ∧ Ax.Sub H H') ∧
 ∃ (a1 : Addr),
 ((!!b1) = true → m = some a1) ∧
 ∃ (x : Int),
 ((!!b1) = true → At H (a1.add (nat_lit 30)) [Value.int IntKind.i64 x]) ∧
 ∃ (b2 : Bool),
 ((!(!b1 || eId != IntKind.i64.wrap (x + (1 : Int)))) = true → Tr Try.prog (28 : Nat) #[Value.agg #[Value.int IntKind.i64 eId, Value.int IntKind.i64 eTime, Value.int IntKind.i64 eKind, Value.int IntKind.i64 eA, Value.int IntKind.i64 eB, Value.int IntKind.i64 eC, Value.int IntKind.i64 eD, Value.int IntKind.i64 eE, Value.int IntKind.i64 eF]] H fun (v1 : Value) (H'1 : Heap) => v1 = Value.bool b2 ∧ Ax.Sub H H'1) ∧
 ∃ (a2 : Addr),
 ((!(!b1 || eId != IntKind.i64.wrap (x + (1 : Int)) || !b2)) = true → m = some a2) ∧
 ∃ (x1 : Int),
 ((!(!b1 || eId != IntKind.i64.wrap (x + (1 : Int)) || !b2)) = true → At H (a2.add (nat_lit 30)) [Value.int IntKind.i64 x1]) ∧
 ((!b1 || eId != IntKind.i64.wrap (x + (1 : Int)) || !b2 || !(eKind == (1 : Int)) == (x1 == (0 : Int))) = true → K (Value.int IntKind.i64 (54 : Int)) H) ∧
 ((!b1 || eId != IntKind.i64.wrap (x + (1 : Int)) || !b2 || !(eKind == (1 : Int)) == (x1 == (0 : Int))) = false →
 ∃ (a3 : Addr),
 m = some a3 ∧
 ∃ (x2 : Int),
 At H (a3.add (nat_lit 30)) [Value.int IntKind.i64 x2] ∧
 ∃ (a4 : Addr),
 m = some a4 ∧
 ∃ (c : Array Value),
 ∃ (T : TypeId),
 H (a4.add (nat_lit 30)).block = some (Obj.cells c T) ∧
 (a4.add (nat_lit 30)).spot = none ∧
 (a4.add (nat_lit 30)).off + [Value.int IntKind.i64 (IntKind.i64.wrap (x2 + (1 : Int)))].length ≤ c.size ∧
 ∀ (H1 : Heap),
 H1 = H.upd (a4.add (nat_lit 30)).block (Obj.cells (splice c (a4.add (nat_lit 30)).off [Value.int IntKind.i64 (IntKind.i64.wrap (x2 + (1 : Int)))]) T) →
 ((eKind == (1 : Int)) = true →
 ∀ (b3 : Nat),
 H1 b3 = none →
 ∀ (H11 : Heap),
 H11 = H1.upd b3 (Obj.cells #[Value.int IntKind.i64 (0 : Int), Value.int IntKind.i64 (0 : Int), Value.int IntKind.i64 (0 : Int), Value.slice none (0 : Nat) (0 : Nat), Value.int IntKind.i64 eB, Value.int IntKind.i64 (-1 : Int), Value.int IntKind.i64 (0 : Int), Value.int IntKind.i64 (-1 : Int), Value.int IntKind.i64 (-1 : Int)] (60 : Nat)) →
 ∃ (a5 : Addr),
 m = some a5 ∧
 ∃ (c1 : Array Value),
 ∃ (T1 : TypeId),
 H11 ((a5.add (nat_lit 2)).add (nat_lit 21)).block = some (Obj.cells c1 T1) ∧
 ((a5.add (nat_lit 2)).add (nat_lit 21)).spot = none ∧ ((a5.add (nat_lit 2)).add (nat_lit 21)).off + [Value.slice (some ({ block := b3, off := (0 : Nat) } : Addr)) (1 : Nat) (1 : Nat)].length ≤ c1.size ∧ ∀ (H12 : Heap), H12 = H11.upd ((a5.add (nat_lit 2)).add (nat_lit 21)).block (Obj.cells (splice c1 ((a5.add (nat_lit 2)).add (nat_lit 21)).off [Value.slice (some ({ block := b3, off := (0 : Nat) } : Addr)) (1 : Nat) (1 : Nat)]) T1) → K (Value.int IntKind.i64 (0 : Int)) H12) ∧
 ((eKind == (1 : Int)) = false →
 ((eKind == (19 : Int)) = true →
 ∃ (Hs : Heap),
 Ax.Sub Hs H1 ∧
 ∃ (a6 : Addr),
 m = some a6 ∧
 ∃ (a7 : Addr),
 m = some a7 ∧
 ∃ (A : Option Addr),
 ∃ (n : Nat),
 ∃ (c2 : Nat),
 At Hs ((a6.add (nat_lit 2)).add (nat_lit 24)) [Value.slice A n c2] ∧
 (∃ (A1 : Option Addr),
 ∃ (n1 : Nat),
 ∃ (c3 : Nat),
 At H1 ((a7.add (nat_lit 2)).add (nat_lit 24)) [Value.slice A1 n1 c3] ∧
 Ax.Sub Hs H1 ∧
 ∃ (a8 : Addr),
 (A1 = some a8 ∧ (0 : Int) ≤ eA ∧ eA < (↑n1 : Int)) ∧
 (∃ (A2 : Option Addr),
 ∃ (n2 : Nat),
 ∃ (c4 : Nat),
 At H1 (a8.add (eA.toNat * nat_lit 1)) [Value.slice A2 n2 c4] ∧
 Ax.Sub Hs H1 ∧
 Ax.Sub Hs H1 ∧
 appC (2 : Nat) (nat_lit 1) (nat_lit 8) H1 A2 n2 c4 [Value.int IntKind.i64 eB] (1 : Nat) fun (A' : Option Addr) (n' c' : Nat) (H'2 : Heap) =>
 Ax.Sub Hs H'2 ∧
 ∃ (a9 : Addr),
 (A = some a9 ∧ (0 : Int) ≤ eA ∧ eA < (↑n : Int)) ∧
 ∃ (c5 : Array Value), ∃ (T2 : TypeId), H'2 (a9.add (eA.toNat * nat_lit 1)).block = some (Obj.cells c5 T2) ∧ (a9.add (eA.toNat * nat_lit 1)).spot = none ∧ (a9.add (eA.toNat * nat_lit 1)).off + [Value.slice A' n' c'].length ≤ c5.size ∧ ∀ (H13 : Heap), H13 = H'2.upd (a9.add (eA.toNat * nat_lit 1)).block (Obj.cells (splice c5 (a9.add (eA.toNat * nat_lit 1)).off [Value.slice A' n' c']) T2) → Ax.Sub Hs H13 ∧ K (Value.int IntKind.i64 (0 : Int)) H13) ∧
 Ax.Sub Hs H1 ∧
 ∃ (A3 : Option Addr),
 ∃ (n3 : Nat),
 ∃ (c6 : Nat),
 At H1 (a8.add (eA.toNat * nat_lit 1)) [Value.slice A3 n3 c6] ∧
 Ax.Sub Hs H1 ∧
 appC (2 : Nat) (nat_lit 1) (nat_lit 8) H1 A3 n3 c6 [Value.int IntKind.i64 eB] (1 : Nat) fun (A'1 : Option Addr) (n'1 c'1 : Nat) (H'3 : Heap) =>
 Ax.Sub Hs H'3 ∧
 ∃ (a10 : Addr),
 (A = some a10 ∧ (0 : Int) ≤ eA ∧ eA < (↑n : Int)) ∧
 ∃ (c7 : Array Value), ∃ (T3 : TypeId), H'3 (a10.add (eA.toNat * nat_lit 1)).block = some (Obj.cells c7 T3) ∧ (a10.add (eA.toNat * nat_lit 1)).spot = none ∧ (a10.add (eA.toNat * nat_lit 1)).off + [Value.slice A'1 n'1 c'1].length ≤ c7.size ∧ ∀ (H14 : Heap), H14 = H'3.upd (a10.add (eA.toNat * nat_lit 1)).block (Obj.cells (splice c7 (a10.add (eA.toNat * nat_lit 1)).off [Value.slice A'1 n'1 c'1]) T3) → Ax.Sub Hs H14 ∧ K (Value.int IntKind.i64 (0 : Int)) H14) ∧
 Ax.Sub Hs H1 ∧
 ∃ (A4 : Option Addr),
 ∃ (n4 : Nat),
 ∃ (c8 : Nat),
 At H1 ((a7.add (nat_lit 2)).add (nat_lit 24)) [Value.slice A4 n4 c8] ∧
 Ax.Sub Hs H1 ∧
 ∃ (a11 : Addr),
 (A4 = some a11 ∧ (0 : Int) ≤ eA ∧ eA < (↑n4 : Int)) ∧
 ∃ (A5 : Option Addr),
 ∃ (n5 : Nat),
 ∃ (c9 : Nat),
 At H1 (a11.add (eA.toNat * nat_lit 1)) [Value.slice A5 n5 c9] ∧
 Ax.Sub Hs H1 ∧
 appC (2 : Nat) (nat_lit 1) (nat_lit 8) H1 A5 n5 c9 [Value.int IntKind.i64 eB] (1 : Nat) fun (A'2 : Option Addr) (n'2 c'2 : Nat) (H'4 : Heap) =>
 Ax.Sub Hs H'4 ∧
 ∃ (a12 : Addr),
 (A = some a12 ∧ (0 : Int) ≤ eA ∧ eA < (↑n : Int)) ∧
 ∃ (c10 : Array Value), ∃ (T4 : TypeId), H'4 (a12.add (eA.toNat * nat_lit 1)).block = some (Obj.cells c10 T4) ∧ (a12.add (eA.toNat * nat_lit 1)).spot = none ∧ (a12.add (eA.toNat * nat_lit 1)).off + [Value.slice A'2 n'2 c'2].length ≤ c10.size ∧ ∀ (H15 : Heap), H15 = H'4.upd (a12.add (eA.toNat * nat_lit 1)).block (Obj.cells (splice c10 (a12.add (eA.toNat * nat_lit 1)).off [Value.slice A'2 n'2 c'2]) T4) → Ax.Sub Hs H15 ∧ K (Value.int IntKind.i64 (0 : Int)) H15) ∧
 ((eKind == (19 : Int)) = false →
 ((eKind == (20 : Int)) = true → ∃ (a13 : Addr), m = some a13 ∧ ∃ (c11 : Array Value), ∃ (T5 : TypeId), H1 (a13.add (nat_lit 29)).block = some (Obj.cells c11 T5) ∧ (a13.add (nat_lit 29)).spot = none ∧ (a13.add (nat_lit 29)).off + [Value.bool true].length ≤ c11.size ∧ ∀ (H16 : Heap), H16 = H1.upd (a13.add (nat_lit 29)).block (Obj.cells (splice c11 (a13.add (nat_lit 29)).off [Value.bool true]) T5) → K (Value.int IntKind.i64 (0 : Int)) H16) ∧
 ((eKind == (20 : Int)) = false →
 ((eKind == (21 : Int)) = true →
 ∃ (a14 : Addr),
 m = some a14 ∧
 (∃ (A6 : Option Addr),
 ∃ (n6 : Nat),
 ∃ (c12 : Nat),
 At H1 (a14.add (nat_lit 28)) [Value.slice A6 n6 c12] ∧
 appC (23 : Nat) (nat_lit 9) (nat_lit 72) H1 A6 n6 c12 [Value.int IntKind.i64 eId, Value.int IntKind.i64 eTime, Value.int IntKind.i64 eKind, Value.int IntKind.i64 eA, Value.int IntKind.i64 eB, Value.int IntKind.i64 eC, Value.int IntKind.i64 eD, Value.int IntKind.i64 eE, Value.int IntKind.i64 eF] (1 : Nat) fun (A'3 : Option Addr) (n'3 c'3 : Nat) (H'5 : Heap) =>
 ∃ (a15 : Addr), m = some a15 ∧ ∃ (c13 : Array Value), ∃ (T6 : TypeId), H'5 (a15.add (nat_lit 28)).block = some (Obj.cells c13 T6) ∧ (a15.add (nat_lit 28)).spot = none ∧ (a15.add (nat_lit 28)).off + [Value.slice A'3 n'3 c'3].length ≤ c13.size ∧ ∀ (H17 : Heap), H17 = H'5.upd (a15.add (nat_lit 28)).block (Obj.cells (splice c13 (a15.add (nat_lit 28)).off [Value.slice A'3 n'3 c'3]) T6) → K (Value.int IntKind.i64 (0 : Int)) H17) ∧
 ∃ (A7 : Option Addr),
 ∃ (n7 : Nat),
 ∃ (c14 : Nat),
 At H1 (a14.add (nat_lit 28)) [Value.slice A7 n7 c14] ∧
 appC (23 : Nat) (nat_lit 9) (nat_lit 72) H1 A7 n7 c14 [Value.int IntKind.i64 eId, Value.int IntKind.i64 eTime, Value.int IntKind.i64 eKind, Value.int IntKind.i64 eA, Value.int IntKind.i64 eB, Value.int IntKind.i64 eC, Value.int IntKind.i64 eD, Value.int IntKind.i64 eE, Value.int IntKind.i64 eF] (1 : Nat) fun (A'4 : Option Addr) (n'4 c'4 : Nat) (H'6 : Heap) =>
 ∃ (a16 : Addr), m = some a16 ∧ ∃ (c15 : Array Value), ∃ (T7 : TypeId), H'6 (a16.add (nat_lit 28)).block = some (Obj.cells c15 T7) ∧ (a16.add (nat_lit 28)).spot = none ∧ (a16.add (nat_lit 28)).off + [Value.slice A'4 n'4 c'4].length ≤ c15.size ∧ ∀ (H18 : Heap), H18 = H'6.upd (a16.add (nat_lit 28)).block (Obj.cells (splice c15 (a16.add (nat_lit 28)).off [Value.slice A'4 n'4 c'4]) T7) → K (Value.int IntKind.i64 (0 : Int)) H18) ∧
 ((eKind == (21 : Int)) = false →
 ((eKind == (22 : Int)) = true → ∃ (x3 : Int), (Tr Try.prog (30 : Nat) #[Value.pointer m, Value.int IntKind.i64 eA] H1 fun (v2 : Value) (H'7 : Heap) => v2 = Value.int IntKind.i64 x3 ∧ Ax.Sub H1 H'7) ∧ Tr Try.prog (29 : Nat) #[Value.pointer m, Value.int IntKind.i64 x3, Value.int IntKind.i64 eB, Value.int IntKind.i64 (0 : Int)] H1 fun (v3 : Value) (H'8 : Heap) => v3 = Value.tuple #[] ∧ K (Value.int IntKind.i64 (0 : Int)) H'8) ∧
 ((eKind == (22 : Int)) = false →
 ((eKind == (23 : Int)) = true → ∃ (x4 : Int), (Tr Try.prog (30 : Nat) #[Value.pointer m, Value.int IntKind.i64 eA] H1 fun (v4 : Value) (H'9 : Heap) => v4 = Value.int IntKind.i64 x4 ∧ Ax.Sub H1 H'9) ∧ Tr Try.prog (29 : Nat) #[Value.pointer m, Value.int IntKind.i64 x4, Value.int IntKind.i64 eB, Value.int IntKind.i64 (1 : Int)] H1 fun (v5 : Value) (H'10 : Heap) => v5 = Value.tuple #[] ∧ K (Value.int IntKind.i64 (0 : Int)) H'10) ∧
 ((eKind == (23 : Int)) = false →
 ((eKind == (27 : Int)) = true → ∃ (x5 : Int), (Tr Try.prog (30 : Nat) #[Value.pointer m, Value.int IntKind.i64 eA] H1 fun (v6 : Value) (H'11 : Heap) => v6 = Value.int IntKind.i64 x5 ∧ Ax.Sub H1 H'11) ∧ Tr Try.prog (29 : Nat) #[Value.pointer m, Value.int IntKind.i64 x5, Value.int IntKind.i64 eB, Value.int IntKind.i64 (1 : Int)] H1 fun (v7 : Value) (H'12 : Heap) => v7 = Value.tuple #[] ∧ K (Value.int IntKind.i64 (0 : Int)) H'12) ∧
 ((eKind == (27 : Int)) = false →
 ((eKind == (24 : Int)) = true → ∃ (x6 : Int), (Tr Try.prog (30 : Nat) #[Value.pointer m, Value.int IntKind.i64 eA] H1 fun (v8 : Value) (H'13 : Heap) => v8 = Value.int IntKind.i64 x6 ∧ Ax.Sub H1 H'13) ∧ Tr Try.prog (29 : Nat) #[Value.pointer m, Value.int IntKind.i64 x6, Value.int IntKind.i64 eB, Value.int IntKind.i64 (2 : Int)] H1 fun (v9 : Value) (H'14 : Heap) => v9 = Value.tuple #[] ∧ K (Value.int IntKind.i64 (0 : Int)) H'14) ∧
 ((eKind == (24 : Int)) = false →
 ((eKind == (25 : Int)) = true → ∃ (x7 : Int), (Tr Try.prog (30 : Nat) #[Value.pointer m, Value.int IntKind.i64 eA] H1 fun (v10 : Value) (H'15 : Heap) => v10 = Value.int IntKind.i64 x7 ∧ Ax.Sub H1 H'15) ∧ Tr Try.prog (29 : Nat) #[Value.pointer m, Value.int IntKind.i64 x7, Value.int IntKind.i64 (0 : Int), Value.int IntKind.i64 (0 : Int)] H1 fun (v11 : Value) (H'16 : Heap) => v11 = Value.tuple #[] ∧ K (Value.int IntKind.i64 (0 : Int)) H'16) ∧
 ((eKind == (25 : Int)) = false →
 ((eKind == (28 : Int)) = true → ∃ (x8 : Int), (Tr Try.prog (30 : Nat) #[Value.pointer m, Value.int IntKind.i64 eA] H1 fun (v12 : Value) (H'17 : Heap) => v12 = Value.int IntKind.i64 x8 ∧ Ax.Sub H1 H'17) ∧ Tr Try.prog (29 : Nat) #[Value.pointer m, Value.int IntKind.i64 x8, Value.int IntKind.i64 eB, Value.int IntKind.i64 eC] H1 fun (v13 : Value) (H'18 : Heap) => v13 = Value.tuple #[] ∧ K (Value.int IntKind.i64 (0 : Int)) H'18) ∧
 ((eKind == (28 : Int)) = false →
 ((eKind == (16 : Int)) = true →
 ∃ (a17 : Addr),
 m = some a17 ∧ ∃ (c16 : Array Value), ∃ (T8 : TypeId), H1 ((a17.add (nat_lit 2)).add (nat_lit 25)).block = some (Obj.cells c16 T8) ∧ ((a17.add (nat_lit 2)).add (nat_lit 25)).spot = none ∧ ((a17.add (nat_lit 2)).add (nat_lit 25)).off + [Value.bool true].length ≤ c16.size ∧ ∀ (H19 : Heap), H19 = H1.upd ((a17.add (nat_lit 2)).add (nat_lit 25)).block (Obj.cells (splice c16 ((a17.add (nat_lit 2)).add (nat_lit 25)).off [Value.bool true]) T8) → K (Value.int IntKind.i64 (0 : Int)) H19) ∧
 ((eKind == (16 : Int)) = false →
 ((eKind == (30 : Int)) = true →
 ∃ (a18 : Addr),
 m = some a18 ∧
 ∃ (c17 : Array Value), ∃ (T9 : TypeId), H1 ((a18.add (nat_lit 2)).add (nat_lit 25)).block = some (Obj.cells c17 T9) ∧ ((a18.add (nat_lit 2)).add (nat_lit 25)).spot = none ∧ ((a18.add (nat_lit 2)).add (nat_lit 25)).off + [Value.bool true].length ≤ c17.size ∧ ∀ (H110 : Heap), H110 = H1.upd ((a18.add (nat_lit 2)).add (nat_lit 25)).block (Obj.cells (splice c17 ((a18.add (nat_lit 2)).add (nat_lit 25)).off [Value.bool true]) T9) → K (Value.int IntKind.i64 (0 : Int)) H110) ∧
 ((eKind == (30 : Int)) = false →
 ((eKind == (31 : Int)) = true →
 ∃ (a19 : Addr),
 m = some a19 ∧
 ∃ (c18 : Array Value),
 ∃ (T10 : TypeId), H1 ((a19.add (nat_lit 2)).add (nat_lit 25)).block = some (Obj.cells c18 T10) ∧ ((a19.add (nat_lit 2)).add (nat_lit 25)).spot = none ∧ ((a19.add (nat_lit 2)).add (nat_lit 25)).off + [Value.bool true].length ≤ c18.size ∧ ∀ (H111 : Heap), H111 = H1.upd ((a19.add (nat_lit 2)).add (nat_lit 25)).block (Obj.cells (splice c18 ((a19.add (nat_lit 2)).add (nat_lit 25)).off [Value.bool true]) T10) → K (Value.int IntKind.i64 (0 : Int)) H111) ∧
 ((eKind == (31 : Int)) = false → K (Value.int IntKind.i64 (0 : Int)) H1))))))))))))))))
theorem v12 {m : Option Addr} {eId : Int} {eTime : Int} {eKind : Int} {eA : Int} {eB : Int} {eC : Int} {eD : Int} {eE : Int} {eF : Int} {H : Heap} {K : Value → Heap → Prop} (h : F12 m eId eTime eKind eA eB eC eD eE eF H K) : Tr Try.prog 12 #[.pointer m, .agg #[.int .i64 eId, .int .i64 eTime, .int .i64 eKind, .int .i64 eA, .int .i64 eB, .int .i64 eC, .int .i64 eD, .int .i64 eE, .int .i64 eF]] H K :=
  tr_of_eq (C := c12) Try.func12 (show vcFn c12 Try.f12 [.pointer m, .agg #[.int .i64 eId, .int .i64 eTime, .int .i64 eKind, .int .i64 eA, .int .i64 eB, .int .i64 eC, .int .i64 eD, .int .i64 eE, .int .i64 eF]] H K = F12 m eId eTime eKind eA eB eC eD eE eF H K by kernel_rfl) h
end Go.Proofs.Ytjmdoiakcakfoaa
set_option maxRecDepth 100000
namespace Go.Proofs.Ytjmdoiakcakfoaa
open Go.Ax
theorem t90 (n : Int) (H : Heap) : Tr Try.prog 90 #[.int .u64 n] H fun v H' => v = .int .u64 (mix64 n) ∧ Sub H H' := by
  apply v90; unfold F90
  exact ⟨by decide, by decide, by decide, rfl, Sub.refl _⟩
theorem clamp_eq (x : Int) : (if (1048576 : Int) < if (0 : Int) > x then (0 : Int) else x then (1048576 : Int) else if (0 : Int) > x then (0 : Int) else x) = clampM x := by
  unfold clampM
  split <;> split at * <;> omega
section
variable {G H : Heap} {m : Nat} {pf po : SlH} {sl : Nat → SlH} {F : Heap} {ex : Value} {st : List SlH} {s : VS}
theorem VMX.wrVar (h : VMX G H m pf po sl F ex st s) {k : Nat} (hk : k < 16) {x : Int} {Q : Heap → Prop} (q : ∀ H', VMX G H' m pf po sl F ex st { s with vars := s.vars.set k x } → Q H') : Wr H ((⟨m, 0, none⟩ : Addr).add (2 + k)) (.int .i64 x) Q := by
  refine h.wr (k := 2 + k) (by omega) { s with vars := s.vars.set k x } ?_ rfl rfl rfl rfl rfl rfl rfl (by simp [h.vars]) h.attrs q
  unfold mCells
  rw [← cellsV_set h.vars hk]
  simp only [List.append_assoc]
  rw [List.set_append_right _ _ (by simp), List.set_append_left _ _ (by rw [cellsV_len]; simp; omega)]
  have : 2 + k - [pf.v, po.v].length = k := by simp
  rw [this]
theorem VMX.wrAttr (h : VMX G H m pf po sl F ex st s) {k : Nat} (hk : k < 4) {x : Int} {Q : Heap → Prop} (q : ∀ H', VMX G H' m pf po sl F ex st { s with attrs := s.attrs.set k x } → Q H') : Wr H ((⟨m, 0, none⟩ : Addr).add (18 + k)) (.int .i64 x) Q := by
  refine h.wr (k := 18 + k) (by omega) { s with attrs := s.attrs.set k x } ?_ rfl rfl rfl rfl rfl rfl rfl h.vars (by simp [h.attrs]) q
  unfold mCells
  rw [← cellsV_set h.attrs hk]
  simp only [List.append_assoc]
  rw [List.set_append_right _ _ (by simp; omega), List.set_append_right _ _ (by rw [cellsV_len]; simp; omega), List.set_append_left _ _ (by rw [cellsV_len, cellsV_len]; simp; omega)]
  have : 18 + k - [pf.v, po.v].length - (cellsV 16 s.vars).length = k := by rw [cellsV_len]; simp; omega
  rw [this]
end
end Go.Proofs.Ytjmdoiakcakfoaa
set_option maxRecDepth 100000
namespace Go.Proofs.Ytjmdoiakcakfoaa
open Go.Ax
def TailP (m rb : Nat) (op a v : Int) (H : Heap) (Z : Prop) (K : Heap → Prop) : Prop :=
  ((op == 16) = true → ∃ a17 : Addr, some (⟨m, 0, none⟩ : Addr) = some a17 ∧ (0 ≤ a ∧ a < ((16 : Nat) : Int)) ∧ Wr H (((a17.add 2).add 0).add (a.toNat * 1)) (.int .i64 v) K) ∧ ((op == 16) = false →
  ((op == 20) = true → Tr Try.prog 91 #[.pointer (some ⟨rb, 0, none⟩), (evM 3 a v 0).val] H fun x H' => x = .tuple #[] ∧ K H') ∧ ((op == 20) = false →
  ((op == 21) = true → ∃ a18 : Addr, some (⟨m, 0, none⟩ : Addr) = some a18 ∧ ∃ n : Int, At H ((a18.add 2).add 20) [.int .i64 n] ∧
    Tr Try.prog 91 #[.pointer (some ⟨rb, 0, none⟩), (evM 4 (IntKind.i64.wrap (n + if (1048576 : Int) < if (0 : Int) > v then (0 : Int) else v then (1048576 : Int) else if (0 : Int) > v then (0 : Int) else v)) 0 0).val] H fun x H' => x = .tuple #[] ∧ K H') ∧ ((op == 21) = false →
  ((op == 22) = true → Tr Try.prog 91 #[.pointer (some ⟨rb, 0, none⟩), (evM 5 a v 0).val] H fun x H' => x = .tuple #[] ∧ K H') ∧ ((op == 22) = false →
  ((op == 33) = true → Tr Try.prog 69 #[.pointer (some ⟨m, 0, none⟩), (evM 10 a v 0).val] H fun x H' => ∃ (i : Int) (b : Bool), x = .tuple #[.int .i64 i, .bool b] ∧
    (b = true → ∃ a19 : Addr, some (⟨m, 0, none⟩ : Addr) = some a19 ∧ (0 ≤ a ∧ a < ((4 : Nat) : Int)) ∧ Wr H' (((a19.add 2).add 16).add (a.toNat * 1)) (.int .i64 v) K) ∧ (b = false → K H')) ∧ ((op == 33) = false →
  ((op == 34) = true → Z) ∧ ((op == 34) = false → K H))))))
structure CmdOk (r : Rn) : Prop where
  stack : r.t.stack.length ≤ 1000
  par : ScpOk r.s.scopes
  scope : r.t.scope < r.s.scopes.length
  c0 : 0 ≤ r.s.count
  c1 : r.s.count ≤ 100000
  made : r.s.made.length ≤ 100000
  futs : r.s.futures.length ≤ 1000000
section
variable {p : Prg} {G0 H0 G H : Heap} {m rb tb : Nat} {q : SlH} {pf po : SlH} {sl : Nat → SlH} {F : Heap} {ex : Value} {st : List SlH} {r : Rn}
theorem RX.tailP (h : RX p G0 H0 G H m rb tb q pf po sl F ex st r) (ok : CmdOk r) (op a v ev : Int) (h16 : op = 16 → 0 ≤ a ∧ a < 16) (h33 : op = 33 → 0 ≤ a ∧ a < 4) {Z : Prop} (hz : op = 34 → Z) {K : Heap → Prop}
    (k : ∀ H', RZ p G0 m rb tb pf po ex (r.command op a ev v) H' → K H') : TailP m rb op a v H Z K := by
  have nf : ∀ {k : Int}, (op == k) = false → ¬ op = k := fun e e2 => by subst e2; simp at e
  have yf : ∀ {k : Int}, (op == k) = true → op = k := fun e => by simpa using e
  have op_ : ∀ (e : Ev), r.command op a ev v = r.opens e → Tr Try.prog 91 #[.pointer (some ⟨rb, 0, none⟩), e.val] H fun x H' => x = .tuple #[] ∧ K H' := fun e he =>
    (t91 h ok.stack ok.par ok.scope ok.c0 ok.c1 ok.made ok.futs e).mono fun x H' ⟨e1, z⟩ => ⟨e1, k H' (by rw [he]; exact z)⟩
  refine ⟨fun e => ⟨_, rfl, h16 (yf e), ?_⟩, fun e16 => ⟨fun e => op_ _ ?_, fun e20 => ⟨fun e => ⟨_, rfl, _, h.vm.c22, ?_⟩, fun e21 => ⟨fun e => op_ _ ?_, fun e22 => ⟨fun e => ?_, fun e33 => ⟨fun e => hz (yf e), fun e => k H ?_⟩⟩⟩⟩⟩⟩
  · have ha := h16 (yf e)
    have hcmd : r.command op a ev v = r.vs { r.s with vars := r.s.vars.set a.toNat v } := by unfold Rn.command; rw [if_pos (yf e)]
    rw [add2, add2, Nat.mul_one]
    exact h.vm.wrVar (k := a.toNat) (by omega) fun H' v' => k H' (by rw [hcmd]; exact (h.setVs v').z)
  · unfold Rn.command; rw [if_neg (nf e16), if_pos (yf e)]
  · rw [clamp_eq]
    refine op_ _ ?_
    unfold Rn.command; rw [if_neg (nf e16), if_neg (nf e20), if_pos (yf e)]
  · unfold Rn.command; rw [if_neg (nf e16), if_neg (nf e20), if_neg (nf e21), if_pos (yf e)]
  · have ha := h33 (yf e)
    have hcmd : r.command op a ev v = (if (r.s.emit (evM 10 a v 0)).1.2 = true then r.vs { (r.s.emit (evM 10 a v 0)).2 with attrs := (r.s.emit (evM 10 a v 0)).2.attrs.set a.toNat v } else r.vs (r.s.emit (evM 10 a v 0)).2) := by
      unfold Rn.command; rw [if_neg (nf e16), if_neg (nf e20), if_neg (nf e21), if_neg (nf e22), if_pos (yf e)]
    refine (t69 h.vm (evM 10 a v 0) ok.c0 ok.c1 ok.made).mono fun x H1 ⟨hx, sl1, v1⟩ => ⟨_, _, hx, fun eb => ⟨_, rfl, ha, ?_⟩, fun eb => k H1 ?_⟩
    · rw [add2, add2, Nat.mul_one]
      exact v1.wrAttr (k := a.toNat) (by omega) fun H' v' => k H' (by rw [hcmd, if_pos eb]; exact (h.setVs v').z)
    · rw [hcmd, if_neg (by rw [eb]; simp)]; exact (h.setVs v1).z
  · have : r.command op a ev v = r := by
      unfold Rn.command; rw [if_neg (nf e16), if_neg (nf e20), if_neg (nf e21), if_neg (nf e22), if_neg (nf e33), if_neg (nf e)]
    rw [this]; exact h.z
end
end Go.Proofs.Ytjmdoiakcakfoaa
set_option maxRecDepth 100000
namespace Go.Proofs.Ytjmdoiakcakfoaa
open Go.Ax
theorem emit0_made (s : VS) (e : Ev) (h : (s.emit0 e).1.2 = true) : ∃ w, (s.emit0 e).2.made = s.made ++ [w] := by
  unfold VS.emit0 at h ⊢
  split at h
  · exact ⟨_, rfl⟩
  · cases h
  · split at h
    · rename_i hm; simp only [hm, if_true]; exact ⟨_, rfl⟩
    · cases h
theorem emit_made (s : VS) (e : Ev) (h : (s.emit e).1.2 = true) : ∃ w, (s.emit e).2.made = s.made ++ [w] := by
  unfold VS.emit at h ⊢
  split at h
  · cases h
  · rename_i hm; rw [if_neg hm]; exact emit0_made _ _ h
theorem CmdOk.take {r : Rn} (ok : CmdOk r) : CmdOk r.take.2 := by
  have hs := take_s r
  have := take_len r
  exact ⟨Nat.le_trans this ok.stack, by rw [hs]; exact ok.par, by rw [hs, take_scope]; exact ok.scope, by rw [hs]; exact ok.c0, by rw [hs]; exact ok.c1, by rw [hs]; exact ok.made, by rw [hs]; exact ok.futs⟩
section
variable {G H : Heap} {m : Nat} {pf po : SlH} {sl : Nat → SlH} {F : Heap} {ex : Value} {st : List SlH} {s : VS}
theorem VMX.c33 (h : VMX G H m pf po sl F ex st s) : At H ((⟨m, 0, none⟩ : Addr).add 33) [.int .u64 s.draws] := h.cell rfl
theorem VMX.row (h : VMX G H m pf po sl F ex st s) {i : Nat} {w : Ev} (hw : s.made[i]? = some w) : ∃ a, (sl 5).A = some a ∧ At H (a.add (i * 9)) w.cells :=
  src_elem (cells := Ev.cells) (sz := 9) (fun _ => rfl) (by decide) (h.ok 5 (by decide)).src i w hw
end
section
variable {p : Prg} {G0 H0 G H : Heap} {m rb tb : Nat} {q : SlH} {pf po : SlH} {sl : Nat → SlH} {F : Heap} {ex : Value} {st : List SlH} {r : Rn}
theorem RX.draws (h : RX p G0 H0 G H m rb tb q pf po sl F ex st r) (ok : CmdOk r) {K : Value → Heap → Prop}
    (k : ∀ H', RZ p G0 m rb tb pf po ex (r.commands 19 0) H' → K (.tuple #[]) H') (hn : ¬ (r.t.stack.length : Int) = 32) :
    Wr H ((⟨m, 0, none⟩ : Addr).add 33) (.int .u64 (IntKind.u64.wrap (r.s.draws + 1))) fun H11 => Tr Try.prog 69 #[.pointer (some ⟨m, 0, none⟩), (evM 11 (IntKind.i64.wrap (mix64 r.s.draws)) 0 0).val] H11 fun v3 H1 => ∃ (x3 : Int) (b : Bool), v3 = .tuple #[.int .i64 x3, .bool b] ∧
      (b = true → ∃ (A : Option Addr) (n c : Nat), At H1 ((⟨m, 0, none⟩ : Addr).add 32) [.slice A n c] ∧ ∃ a9 : Addr, (A = some a9 ∧ (0 : Int) ≤ IntKind.i64.wrap ((n : Int) - 1) ∧ IntKind.i64.wrap ((n : Int) - 1) < (n : Int)) ∧ ∃ x4 : Int, At H1 ((a9.add ((IntKind.i64.wrap ((n : Int) - 1)).toNat * 9)).add 3) [.int .i64 x4] ∧
        ∀ b1 : Nat, H1 b1 = none → ∀ H12, H12 = H1.upd b1 (.cells #[.int .i64 x4] 2 (0, 0)) → Tr Try.prog 72 #[.pointer (some ⟨rb, 0, none⟩), .slice (some ⟨b1, 0, none⟩) 1 1] H12 fun v4 H2 => v4 = .tuple #[] ∧ K (.tuple #[]) H2) ∧ (b = false → K (.tuple #[]) H1) := by
  have hcmd : r.commands 19 0 = (let s1 : VS := { r.s with draws := IntKind.u64.wrap (r.s.draws + 1) }
     let q := s1.emit (evM 11 (IntKind.i64.wrap (mix64 r.s.draws)) 0 0)
     if q.1.2 = true then (r.vs q.2).leave [((q.2.made.getLast?).map Ev.a).getD 0] else r.vs q.2) := by
    unfold Rn.commands; rw [if_pos rfl, if_neg (by simpa using hn)]
  simp only at hcmd
  refine h.vm.wr (k := 33) (by decide) { r.s with draws := IntKind.u64.wrap (r.s.draws + 1) } rfl rfl rfl rfl rfl rfl rfl rfl h.vm.vars h.vm.attrs fun H1 v1 => ?_
  refine (t69 v1 (evM 11 (IntKind.i64.wrap (mix64 r.s.draws)) 0 0) ok.c0 ok.c1 ok.made).mono fun x H2 ⟨hx, sl2, v2⟩ => ⟨_, _, hx, fun eb => ?_, fun eb => k H2 ?_⟩
  · obtain ⟨w, hw⟩ := emit_made _ _ eb
    have hlen := v2.madeLen
    have hl2 : (sl2 5).n = r.s.made.length + 1 := by rw [hlen, hw]; simp
    have hm := ok.made
    have hwr : IntKind.i64.wrap (((sl2 5).n : Int) - 1) = ((sl2 5).n : Int) - 1 := wrapi (by omega) (by omega)
    have ht : (((sl2 5).n : Int) - 1).toNat = r.s.made.length := by omega
    have hget : (({ r.s with draws := IntKind.u64.wrap (r.s.draws + 1) } : VS).emit (evM 11 (IntKind.i64.wrap (mix64 r.s.draws)) 0 0)).2.made[r.s.made.length]? = some w := by rw [hw]; simp
    obtain ⟨a, ha, hat⟩ := v2.row hget
    refine ⟨_, _, _, v2.c32, a, ⟨ha, by rw [hwr]; omega, by rw [hwr]; omega⟩, w.a, by rw [hwr, ht]; exact at_one 3 hat rfl, fun b1 hb1 H12 e12 => ?_⟩
    refine (h.setVs v2).leaves [w.a] (by show r.t.stack.length + 1 ≤ _; have := ok.stack; omega) hb1 e12 fun G' F' q' H' h' => k H' ?_
    rw [hcmd, if_pos eb, hw]
    simp only [List.getLast?_append, List.getLast?_singleton, Option.some_or, Option.map_some, Option.getD_some]
    exact h'.z
  · rw [hcmd, if_neg (by rw [eb]; simp)]; exact (h.setVs v2).z
end
end Go.Proofs.Ytjmdoiakcakfoaa
set_option maxRecDepth 100000
namespace Go.Proofs.Ytjmdoiakcakfoaa
open Go.Ax
section
variable {p : Prg} {G0 H0 G H : Heap} {m rb tb : Nat} {q : SlH} {pf po : SlH} {sl : Nat → SlH} {F : Heap} {ex : Value} {st : List SlH} {r : Rn}
theorem told_other {op : Int} (h : op ≠ 34) (r : Rn) : r.told op = (0, r) := by unfold Rn.told; rw [if_neg h]
theorem commands_other {op a : Int} (h19 : op ≠ 19) (h : op ≠ 34) (r : Rn) : r.commands op a = if r.take.2.fault = true then r.take.2 else r.take.2.command op a 0 r.take.1 := by
  unfold Rn.commands; rw [if_neg h19, told_other h]; rfl
theorem t87 (h : RX p G0 H0 G H m rb tb q pf po sl F ex st r) (ok : CmdOk r) (hev : ∀ (i : Nat) (f : Fut), r.s.futures[i]? = some f → 0 ≤ f.event) (op a : Int) (h16 : op = 16 → 0 ≤ a ∧ a < 16) (h33 : op = 33 → 0 ≤ a ∧ a < 4) :
    Tr Try.prog 87 #[.pointer (some ⟨rb, 0, none⟩), .agg #[.int .i64 op, .int .i64 a]] H fun v H' => v = .tuple #[] ∧ RZ p G0 m rb tb pf po ex (r.commands op a) H' := by
  have hst := ok.stack
  apply v87; unfold F87
  refine ⟨_, rfl, _, h.r0_, fun e => ⟨_, rfl, _, h.r1, _, rfl, _, _, _, h.t3, fun en => ⟨_, rfl, ?_⟩, fun en => ?_⟩, fun e => ⟨fun e34 => ?_, fun e34 => ?_⟩⟩
  · have e : op = 19 := by simpa using e
    subst e
    rw [h.len] at en
    refine h.setF (b := true) fun G' F' H' h' => ⟨rfl, ?_⟩
    have : r.commands 19 a = r.fail := by unfold Rn.commands; rw [if_pos rfl, if_pos en]
    rw [this]; exact h'.z
  · have e : op = 19 := by simpa using e
    subst e
    rw [h.len] at en
    have key := h.draws ok (K := fun v H' => v = .tuple #[] ∧ RZ p G0 m rb tb pf po ex (r.commands 19 a) H') (fun H' z => ⟨rfl, z⟩) (by simpa using en)
    obtain ⟨c2, T1, k1, k2, k3, k4⟩ := key
    refine ⟨_, rfl, _, h.vm.c33, _, t90 _ _, _, rfl, _, h.vm.c33, _, rfl, c2, T1, k1, k2, k3, fun H11 e11 => (k4 H11 e11).mono fun x H2 ⟨x3, b, hx, kt, kf⟩ => ⟨x3, b, hx, fun eb => ?_, kf⟩⟩
    obtain ⟨A, n, c, g1, a9, g2, x4, g3, g4⟩ := kt eb
    exact ⟨_, rfl, _, rfl, ⟨A, n, c, g1, A, n, c, g1, a9, g2, x4, g3, g4⟩, A, n, c, g1, A, n, c, g1, a9, g2, x4, g3, g4⟩
  · have e34 : op = 34 := by simpa using e34
    subst e34
    have ta := t88 h (by omega) 1 (by omega)
    rcases asked_cases r 1 with hx | ⟨k, hx, hk0, hk1⟩
    · have hcmd : r.commands 34 a = (r.asked 1).2.fail := by
        unfold Rn.commands Rn.told
        rw [if_neg (by decide), if_pos rfl, hx]
        rfl
      rw [hx] at ta hcmd
      refine ta.mono fun v H1 ⟨hv, G1, F1, q1, h1⟩ => ⟨-1, hv, ?_⟩
      refine ⟨⟨0, 0, none⟩, fun e => absurd e (by simp), none, 0, 0, fun e => absurd e (by simp), ⟨0, 0, none⟩, fun e => absurd e (by simp), 0, fun e => absurd e (by simp), ⟨0, 0, none⟩, fun e => absurd e (by simp), none, 0, 0, fun e => absurd e (by simp), ⟨0, 0, none⟩, fun e => absurd e (by simp), 0, fun e => absurd e (by simp),
        fun _ => ⟨_, rfl, ?_⟩, fun e => absurd e (by simp)⟩
      exact h1.setF (b := true) fun G' F' H' h' => ⟨rfl, by rw [hcmd]; exact h'.z⟩
    · obtain ⟨f, hf⟩ := get_some (l := r.s.futures) (i := k.toNat) (by omega)
      have he0 := hev _ _ hf
      have hlow : decide (k < 0) = false := decide_eq_false (by omega)
      have htold : r.told 34 = if (f.kind != 5 || f.event == 0) = true then (-1, r.fail) else (f.event, r) := by
        unfold Rn.told
        rw [if_pos rfl, hx]
        simp only
        rw [if_neg (by rw [hlow]; simp), hf]
      rw [hx] at ta
      refine ta.mono fun v H1 ⟨hv, G1, F1, q1, h1⟩ => ⟨k, hv, ?_⟩
      have h1 : RX p G0 H0 G1 H1 m rb tb q1 pf po sl F1 ex st r := h1
      obtain ⟨a1, ha1, hat1⟩ := h1.vm.fut hf
      have bd : (0 : Int) ≤ k ∧ k < ((sl 1).n : Int) := ⟨hk0, by rw [h1.vm.futLen]; exact hk1⟩
      refine ⟨_, fun _ => rfl, _, _, _, fun _ => h1.vm.c24, a1, fun _ => ⟨ha1, bd⟩, f.kind, fun _ => at_one 0 hat1 rfl, _, fun _ => rfl, _, _, _, fun _ => h1.vm.c24, a1, fun _ => ⟨ha1, bd⟩, f.event, fun _ => at_one 1 hat1 rfl, fun e => ⟨_, rfl, ?_⟩, fun e => ?_⟩
      · rw [hlow, Bool.false_or] at e
        have hcmd : r.commands 34 a = r.fail := by
          have ht2 : r.told 34 = (-1, r.fail) := by rw [htold, if_pos e]
          unfold Rn.commands
          rw [if_neg (by decide), ht2]
          rfl
        exact h1.setF (b := true) fun G' F' H' h' => ⟨rfl, by rw [hcmd]; exact h'.z⟩
      · rw [hlow, Bool.false_or] at e
        have hcmd : r.commands 34 a = if r.take.2.fault = true then r.take.2 else r.take.2.command 34 a f.event r.take.1 := by
          have ht2 : r.told 34 = (f.event, r) := by rw [htold, if_neg (by rw [e]; simp)]
          have hl : decide (f.event < 0) = false := decide_eq_false (by omega)
          unfold Rn.commands
          rw [if_neg (by decide), ht2]
          show (if decide (f.event < 0) = true then r else if r.take.2.fault = true then r.take.2 else r.take.2.command 34 a f.event r.take.1) = _
          rw [hl]; rfl
        refine h1.takes (by omega) fun G2 F2 q2 H2 h2 => ⟨_, rfl, _, rfl, _, h2.r2, fun e1 => ⟨rfl, ?_⟩, fun e1 => ?_⟩
        · rw [hcmd, if_pos e1]; exact h2.z
        · refine h2.tailP ok.take 34 a r.take.1 f.event h16 h33 (fun _ => ?_) (K := fun H' => Value.tuple #[] = .tuple #[] ∧ RZ p G0 m rb tb pf po ex (r.commands 34 a) H') fun H' z => ⟨rfl, by rw [hcmd, if_neg (by rw [e1]; simp)]; exact z⟩
          have hb2 := take_len r
          refine h2.takes (by omega) fun G3 F3 q3 H3 h3 => ⟨_, rfl, ?_⟩
          have hs3 : r.take.2.take.2.s = r.s := (take_s _).trans (take_s _)
          obtain ⟨a3, ha3, hat3⟩ := h3.vm.fut (i := k.toNat) (f := f) (by rw [hs3]; exact hf)
          refine ⟨_, rfl, _, _, _, h3.vm.c24, a3, ⟨ha3, hk0, by rw [h3.vm.futLen, hs3]; exact hk1⟩, f.event, at_one 1 hat3 rfl, ?_⟩
          refine h3.emits (evM 9 f.event a r.take.1) (by rw [hs3]; exact ok.c0) (by rw [hs3]; exact ok.c1) (by rw [hs3]; exact ok.made) fun H' z => ⟨rfl, ?_⟩
          rw [hcmd, if_neg (by rw [e1]; simp)]
          have : r.take.2.command 34 a f.event r.take.1 = r.take.2.take.2.vs (r.take.2.take.2.s.emit (evM 9 f.event a r.take.1)).2 := by
            rw [take_s]; rfl
          rw [this]; exact z
  · have n19 : op ≠ 19 := fun e2 => by subst e2; simp at e
    have n34 : op ≠ 34 := fun e2 => by subst e2; simp at e34
    have hcmd := commands_other (a := a) n19 n34 r
    refine h.takes (by omega) fun G2 F2 q2 H2 h2 => ⟨_, rfl, _, rfl, _, h2.r2, fun e1 => ⟨rfl, ?_⟩, fun e1 => ?_⟩
    · rw [hcmd, if_pos e1]; exact h2.z
    · exact h2.tailP ok.take op a r.take.1 0 h16 h33 (fun e2 => absurd e2 n34) (K := fun H' => Value.tuple #[] = .tuple #[] ∧ RZ p G0 m rb tb pf po ex (r.commands op a) H') fun H' z => ⟨rfl, by rw [hcmd, if_neg (by rw [e1]; simp)]; exact z⟩
end
end Go.Proofs.Ytjmdoiakcakfoaa
