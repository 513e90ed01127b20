/- Code: Decode, the program's and the document's. Conditions: the text is within the machine's limit. -/
import Derived.Test.YtanahoejlnmfiaaK12
set_option maxRecDepth 100000
namespace Go.Ax

theorem dec_more {s : List UInt8} {r : Rd} (e : (rdP s ⟨0, 0⟩).2 = r) (h : r.err = 0) (hp : r.pos < s.length) : decM s = (none0, 3, (r.pos : Int)) := by
  have hd : decE s = 3 := by unfold decE; rw [e, if_pos ⟨h, hp⟩]
  unfold decM; rw [hd, if_pos (by decide), e]; rfl
theorem dec_err {s : List UInt8} {r : Rd} (e : (rdP s ⟨0, 0⟩).2 = r) (h : r.err ≠ 0) : decM s = (none0, (r.err : Int), (r.pos : Int)) := by
  have hd : decE s = r.err := by unfold decE; rw [e, if_neg (fun q => h q.1)]
  unfold decM; rw [hd, if_pos h, e]
theorem dec_all {s : List UInt8} {r : Rd} (e : (rdP s ⟨0, 0⟩).2 = r) (h : r.err = 0) (hp : ¬ r.pos < s.length) {p : Prg} (hq : (rdP s ⟨0, 0⟩).1 = p) : decM s = if p.check.1 ≠ 0 then (none0, p.check.1, 0) else (p, 0, 0) := by
  have hd : decE s = 0 := by unfold decE; rw [e, if_neg (fun q => hp q.2), h]
  unfold decM; rw [hd, if_neg (by simp), hq]
theorem hasP_none (H : Heap) : HasP H none 0 none 0 none0 := ⟨⟨rfl, by decide, fun i f h => by simp [none0] at h⟩, ⟨rfl, by decide, fun i o h => by simp [none0] at h⟩⟩
/-- What Decode leaves. -/
structure DecV (s : ByteArray) (H : Heap) (v : Value) (H' : Heap) : Prop where
  out : ∃ (A : Option Addr) (n c : Nat) (A1 : Option Addr) (n1 c1 : Nat), v = .tuple #[.agg #[.slice A n c, .slice A1 n1 c1], .int .i64 (decM s.data.toList).2.1, .int .i64 (decM s.data.toList).2.2] ∧ HasP H' A n A1 n1 (decM s.data.toList).1 ∧ Sub H H'
end Go.Ax
namespace Go.Proofs.Ytanahoejlnmfiaa
open Go.Ax

theorem t40 (s : ByteArray) (hs : s.size ≤ 9223372036854775807) (H : Heap) : Tr Try.prog 40 #[.string s] H (fun v H' => DecV s H v H') := by
  have sz := size_list s
  have up : ∀ {lim : Nat}, lim < 18446744073709551616 → ∀ r : Rd, r.pos ≤ s.size → (rdU s.data.toList lim r).2.pos ≤ s.size := fun hl r hp => by
    have := (reads_U s.data.toList hl).pos_le (r := r) (by omega); omega
  apply v40; unfold F40
  intro b hb H1 e1
  have h0 : RdAt H1 90 b s ⟨0, 0⟩ := ⟨by rw [e1]; exact Heap.upd_same, Nat.zero_le _, hs⟩
  have sH1 : Sub H H1 := by rw [e1]; exact Sub.upd_new hb
  have sUp : ∀ {F : Heap} {r : Rd}, Sub H F → Sub H (F.upd b (rdCell 90 s r)) := fun k => ⟨fun i o ho => by
    rw [Heap.upd_other (fun e => by subst e; rw [hb] at ho; cases ho)]; exact k.sub i o ho⟩
  refine (t58 h0 (lim := 16) (by decide)).mono ?_
  rintro v H2 ⟨rfl, rfl⟩
  have h1 := h0.upd (up (lim := 16) (by decide) ⟨0, 0⟩ (Nat.zero_le _))
  generalize eq1 : rdU s.data.toList 16 ⟨0, 0⟩ = q1 at h1 ⊢
  have rg := rdU_range (s := s.data.toList) (lim := 16) ⟨0, 0⟩
  rw [eq1] at rg
  refine ⟨_, rfl, fun x A n c H3 => ∃ (k : Nat) (hs : List FnH) (F : Heap) (σ : Rd), x = k ∧ n = k ∧ RdL (rdFn s.data.toList) q1.1.toNat q1.2 k (hs.map (·.1)) σ ∧ RdAt F 90 b s σ ∧ Sub H F ∧ OwnS F H3 A n c 3 (hs.flatMap fnC) ∧ ∀ z ∈ hs, HasOps (del F b) z.2.1 z.2.2.1 z.1.ops,
    fun x _ _ _ _ => (q1.1 - x).toNat, ⟨0, [], _, q1.2, rfl, rfl, RdL.zero _ _ _, h1, sUp sH1, OwnS.nil _ 3, by simp⟩, ?_⟩
  rintro x A n c H3 ⟨k, hs', F, σ, rfl, rfl, L, hm, sF, o, hops⟩
  have hlen : hs'.length = n := by have := L.len; rw [List.length_map] at this; exact this
  have go : (n : Int) < q1.1 → ∀ v H', FnV 90 s b σ H3 v H' → ∃ (x2 x3 : Int) (A1 : Option Addr) (n1 c1 : Nat), v = .agg #[.int .i64 x2, .int .i64 x3, .slice A1 n1 c1] ∧ appC 70 3 40 H' A n c [.int .i64 x2, .int .i64 x3, .slice A1 n1 c1] 1 fun A' n' c' H'' =>
      (∃ (k : Nat) (hs : List FnH) (F : Heap) (σ : Rd), IntKind.i64.wrap ((n : Int) + 1) = k ∧ n' = k ∧ RdL (rdFn s.data.toList) q1.1.toNat q1.2 k (hs.map (·.1)) σ ∧ RdAt F 90 b s σ ∧ Sub H F ∧ OwnS F H'' A' n' c' 3 (hs.flatMap fnC) ∧ ∀ z ∈ hs, HasOps (del F b) z.2.1 z.2.2.1 z.1.ops) ∧
      (q1.1 - IntKind.i64.wrap ((n : Int) + 1)).toNat < (q1.1 - (n : Int)).toNat := by
    intro hlt v H' hv
    obtain ⟨f, A1, n1, c1, rfl, hn1, h128, o1, hf⟩ := hv.out
    have ot := o.turn (y := rdCell 90 s (rdFn s.data.toList σ).2) hm.at_
    obtain ⟨F2, f1, f2, -, f3⟩ := ot.absorb o1
    have hpos := (reads_Fn s.data.toList).pos_le (r := σ) (by have := hm.pos; omega)
    refine ⟨_, _, _, _, _, rfl, own_app f2 rfl rfl (show (n + 1) * 40 ≤ 140737488355328 by omega) (by omega) fun A' c' H'' o2 => ?_⟩
    have w1 : IntKind.i64.wrap ((n : Int) + 1) = ((n + 1 : Nat) : Int) := by rw [wrapi (by omega) (by omega)]; omega
    rw [w1]
    refine ⟨⟨n + 1, hs' ++ [(f, A1, n1, c1)], F2, (rdFn s.data.toList σ).2, rfl, rfl, ?_, ⟨f1.sub _ _ Heap.upd_same, by omega, hs⟩, (sUp sF).trans f1, by rw [List.flatMap_append]; exact o2, fun z hz => ?_⟩, by omega⟩
    · rw [List.map_append]
      exact L.next (by omega) ((reads_Fn s.data.toList).stay σ) f hf
    · rcases List.mem_append.1 hz with hz | hz
      · exact (hops z hz).sub (del_grow f1)
      · simp at hz; subst hz
        exact hasOps_of (f3 b (by rw [Heap.upd_same]; rfl)) hn1 (by simp only; omega)
  refine ⟨fun hlt => ?_, fun hge => ?_⟩
  · have hlt : (n : Int) < q1.1 := of_decide_eq_true hlt
    refine ⟨(t59 (hm.own o)).mono (go hlt), (t59 (hm.own o)).mono fun v H' hv => ?_⟩
    obtain ⟨x2, x3, A1, n1, c1, e, kk⟩ := go hlt v H' hv
    exact ⟨x2, x3, A1, n1, c1, e, kk, kk⟩
  have hge : ¬ (n : Int) < q1.1 := of_decide_eq_false hge
  obtain ⟨d1, d2⟩ := L.done (.inl (by omega))
  refine (t58 (hm.own o) (lim := 8) (by decide)).mono ?_
  rintro v H4 ⟨rfl, rfl⟩
  have h4 := (hm.own o).upd (up (lim := 8) (by decide) σ hm.pos)
  generalize eq2 : rdU s.data.toList 8 σ = q2 at h4 ⊢
  have rg2 := rdU_range (s := s.data.toList) (lim := 8) σ
  rw [eq2] at rg2
  have hfns : HasFns (del H3 b) A n (hs'.map (·.1)) := hasFns_of (o.del hm.at_) hlen.symm (by have := L.le; omega) fun z hz => (hops z hz).sub (del_mono o.sub)
  refine ⟨_, rfl, fun x A3 n3 c3 H5 => ∃ (k : Nat) (out : List O) (F : Heap) (σ' : Rd), x = k ∧ n3 = k ∧ RdL (rdO s.data.toList) q2.1.toNat q2.2 k out σ' ∧ RdAt F 90 b s σ' ∧ Sub H F ∧ HasFns (del F b) A n (hs'.map (·.1)) ∧ OwnS F H5 A3 n3 c3 11 (out.flatMap O.cells),
    fun x _ _ _ _ => (q2.1 - x).toNat, ⟨0, [], _, q2.2, rfl, rfl, RdL.zero _ _ _, h4, sUp (sF.trans o.sub), by rw [del_upd]; exact hfns, OwnS.nil _ 11⟩, ?_⟩
  rintro x A3 n3 c3 H5 ⟨k, out, F', σ', rfl, rfl, L2, hm2, sF2, hfns2, o2⟩
  have hlen2 := L2.len
  have go2 : (n3 : Int) < q2.1 → ∀ v H', (v = (rdO s.data.toList σ').1.val ∧ Sub (H5.upd b (rdCell 90 s (rdO s.data.toList σ').2)) H') → ∃ (x8 x9 x10 x11 x12 x13 x14 x15 x16 x17 x18 : Int),
      v = .agg #[.int .i64 x8, .int .i64 x9, .int .i64 x10, .int .i64 x11, .int .i64 x12, .int .i64 x13, .int .i64 x14, .int .i64 x15, .int .i64 x16, .int .i64 x17, .int .i64 x18] ∧
      appC 23 11 88 H' A3 n3 c3 [.int .i64 x8, .int .i64 x9, .int .i64 x10, .int .i64 x11, .int .i64 x12, .int .i64 x13, .int .i64 x14, .int .i64 x15, .int .i64 x16, .int .i64 x17, .int .i64 x18] 1 fun A' n' c' H'' =>
      (∃ (k : Nat) (out : List O) (F : Heap) (σ' : Rd), IntKind.i64.wrap ((n3 : Int) + 1) = k ∧ n' = k ∧ RdL (rdO s.data.toList) q2.1.toNat q2.2 k out σ' ∧ RdAt F 90 b s σ' ∧ Sub H F ∧ HasFns (del F b) A n (hs'.map (·.1)) ∧ OwnS F H'' A' n' c' 11 (out.flatMap O.cells)) ∧
      (q2.1 - IntKind.i64.wrap ((n3 : Int) + 1)).toNat < (q2.1 - (n3 : Int)).toNat := by
    rintro hlt v H' ⟨rfl, hsub⟩
    have ot := (o2.turn (y := rdCell 90 s (rdO s.data.toList σ').2) hm2.at_).grow hsub
    have hpos := (reads_O s.data.toList).pos_le (r := σ') (by have := hm2.pos; omega)
    refine ⟨_, _, _, _, _, _, _, _, _, _, _, rfl, own_app ot rfl rfl (show (n3 + 1) * 88 ≤ 140737488355328 by omega) (by omega) fun A' c' H'' o3 => ?_⟩
    have w1 : IntKind.i64.wrap ((n3 : Int) + 1) = ((n3 + 1 : Nat) : Int) := by rw [wrapi (by omega) (by omega)]; omega
    rw [w1]
    exact ⟨⟨n3 + 1, out ++ [(rdO s.data.toList σ').1], _, _, rfl, rfl, L2.next (by omega) ((reads_O s.data.toList).stay σ') _ (fun _ => rfl), hm2.upd (by omega), sUp sF2, by rw [del_upd]; exact hfns2, by rw [List.flatMap_append]; exact o3⟩, by omega⟩
  refine ⟨fun hlt => ?_, fun hge => ?_⟩
  · have hlt : (n3 : Int) < q2.1 := of_decide_eq_true hlt
    refine ⟨(t60 (hm2.own o2)).mono (go2 hlt), (t60 (hm2.own o2)).mono fun v H' hv => ?_⟩
    obtain ⟨x8, x9, x10, x11, x12, x13, x14, x15, x16, x17, x18, e, kk⟩ := go2 hlt v H' hv
    exact ⟨x8, x9, x10, x11, x12, x13, x14, x15, x16, x17, x18, e, kk, kk⟩
  have hge : ¬ (n3 : Int) < q2.1 := of_decide_eq_false hge
  obtain ⟨g1, g2⟩ := L2.done (.inl (by omega))
  have hN : rdL s.data.toList 16 (rdFn s.data.toList) ⟨0, 0⟩ = rdN (rdFn s.data.toList) q1.1.toNat q1.2 := by unfold rdL; rw [eq1]
  have hO : rdL s.data.toList 8 (rdO s.data.toList) σ = rdN (rdO s.data.toList) q2.1.toNat q2.2 := by unfold rdL; rw [eq2]
  have eP2 : (rdP s.data.toList ⟨0, 0⟩).2 = σ' := by
    unfold rdP rdM rdB; simp only
    rw [hN, d1, hO, g1]
  have eP1 : σ'.err = 0 → (rdP s.data.toList ⟨0, 0⟩).1 = ⟨hs'.map (·.1), out⟩ := fun q => by
    have hσ : σ.err = 0 := by
      rcases Nat.eq_zero_or_pos σ.err with c | c
      · exact c
      · exfalso
        have st := (reads_L (reads_O s.data.toList) (lim := 8) (by decide)).stay σ (by omega)
        rw [hO, g1] at st
        rw [st] at q; omega
    unfold rdP rdM rdB; simp only
    rw [hN, d1, hO, d2 hσ, g2 q]
  have hm5 := hm2.own o2
  have sH5 : Sub H H5 := sF2.trans o2.sub
  have hpos := hm2.pos
  refine ⟨_, rfl, _, hm5.err, _, fun _ => rfl, _, fun _ => hm5.pos_, fun hq => ?_, fun hq => ?_⟩
  · have hq : σ'.err = 0 ∧ (σ'.pos : Int) < s.size := by simpa using hq
    have em := dec_more eP2 hq.1 (by omega)
    refine ⟨_, rfl, hm5.setErr 3 ?_⟩
    have h6 := hm5.upd (r' := ⟨σ'.pos, 3⟩) hpos
    refine ⟨_, rfl, _, h6.err, ct rfl ⟨_, Sub.refl _, _, rfl, _, rfl, _, h6.err, _, h6.pos_, Sub.refl _, ⟨_, _, _, _, _, _, by rw [em] <;> rfl, ?_, sUp sH5⟩⟩⟩
    rw [em]; exact hasP_none _
  · refine ⟨_, rfl, _, hm5.err, fun he => ?_, fun he => ?_⟩
    · have he : σ'.err ≠ 0 := by simpa using he
      have em := dec_err eP2 he
      refine ⟨_, Sub.refl _, _, rfl, _, rfl, _, hm5.err, _, hm5.pos_, Sub.refl _, ⟨_, _, _, _, _, _, by rw [em], ?_, sH5⟩⟩
      rw [em]; exact hasP_none _
    · have he : σ'.err = 0 := by simpa using he
      have hp2 : ¬ σ'.pos < s.data.toList.length := by
        rw [he] at hq
        have : ¬ (σ'.pos : Int) < s.size := by simpa using hq
        omega
      have em := dec_all eP2 he hp2 (eP1 he)
      have hP : HasP H5 A n A3 n3 ⟨hs'.map (·.1), out⟩ := ⟨(hfns2.sub del_sub).sub o2.sub, hasOpts_of o2.src hlen2.symm (by have := L2.le; omega)⟩
      refine ⟨_, _, _, t33 hP, fun hc => ?_, fun hc => ?_⟩
      · have hc : (Prg.check ⟨hs'.map (·.1), out⟩).1 ≠ 0 := by simpa using hc
        rw [if_pos hc] at em
        refine ⟨_, _, _, _, _, _, by rw [em], ?_, sH5⟩
        rw [em]; exact hasP_none _
      · have hc : (Prg.check ⟨hs'.map (·.1), out⟩).1 = 0 := by simpa using hc
        rw [if_neg (by rw [hc]; simp)] at em
        refine ⟨_, _, _, _, _, _, by rw [em], ?_, sH5⟩
        rw [em]; exact hP
theorem t41 (s : ByteArray) (hs : s.size ≤ 9223372036854775807) (H : Heap) : Tr Try.prog 41 #[.string s] H (fun v H' => DecV s H v H') := by
  have sz := size_list s
  have up : ∀ {lim : Nat}, lim < 18446744073709551616 → ∀ r : Rd, r.pos ≤ s.size → (rdU s.data.toList lim r).2.pos ≤ s.size := fun hl r hp => by
    have := (reads_U s.data.toList hl).pos_le (r := r) (by omega); omega
  apply v41; unfold F41
  intro b hb H1 e1
  have h0 : RdAt H1 95 b s ⟨0, 0⟩ := ⟨by rw [e1]; exact Heap.upd_same, Nat.zero_le _, hs⟩
  have sH1 : Sub H H1 := by rw [e1]; exact Sub.upd_new hb
  have sUp : ∀ {F : Heap} {r : Rd}, Sub H F → Sub H (F.upd b (rdCell 95 s r)) := fun k => ⟨fun i o ho => by
    rw [Heap.upd_other (fun e => by subst e; rw [hb] at ho; cases ho)]; exact k.sub i o ho⟩
  refine (t61 h0 (lim := 16) (by decide)).mono ?_
  rintro v H2 ⟨rfl, rfl⟩
  have h1 := h0.upd (up (lim := 16) (by decide) ⟨0, 0⟩ (Nat.zero_le _))
  generalize eq1 : rdU s.data.toList 16 ⟨0, 0⟩ = q1 at h1 ⊢
  have rg := rdU_range (s := s.data.toList) (lim := 16) ⟨0, 0⟩
  rw [eq1] at rg
  refine ⟨_, rfl, fun x A n c H3 => ∃ (k : Nat) (hs : List FnH) (F : Heap) (σ : Rd), x = k ∧ n = k ∧ RdL (rdFn s.data.toList) q1.1.toNat q1.2 k (hs.map (·.1)) σ ∧ RdAt F 95 b s σ ∧ Sub H F ∧ OwnS F H3 A n c 3 (hs.flatMap fnC) ∧ ∀ z ∈ hs, HasOps (del F b) z.2.1 z.2.2.1 z.1.ops,
    fun x _ _ _ _ => (q1.1 - x).toNat, ⟨0, [], _, q1.2, rfl, rfl, RdL.zero _ _ _, h1, sUp sH1, OwnS.nil _ 3, by simp⟩, ?_⟩
  rintro x A n c H3 ⟨k, hs', F, σ, rfl, rfl, L, hm, sF, o, hops⟩
  have hlen : hs'.length = n := by have := L.len; rw [List.length_map] at this; exact this
  have go : (n : Int) < q1.1 → ∀ v H', FnV 95 s b σ H3 v H' → ∃ (x2 x3 : Int) (A1 : Option Addr) (n1 c1 : Nat), v = .agg #[.int .i64 x2, .int .i64 x3, .slice A1 n1 c1] ∧ appC 70 3 40 H' A n c [.int .i64 x2, .int .i64 x3, .slice A1 n1 c1] 1 fun A' n' c' H'' =>
      (∃ (k : Nat) (hs : List FnH) (F : Heap) (σ : Rd), IntKind.i64.wrap ((n : Int) + 1) = k ∧ n' = k ∧ RdL (rdFn s.data.toList) q1.1.toNat q1.2 k (hs.map (·.1)) σ ∧ RdAt F 95 b s σ ∧ Sub H F ∧ OwnS F H'' A' n' c' 3 (hs.flatMap fnC) ∧ ∀ z ∈ hs, HasOps (del F b) z.2.1 z.2.2.1 z.1.ops) ∧
      (q1.1 - IntKind.i64.wrap ((n : Int) + 1)).toNat < (q1.1 - (n : Int)).toNat := by
    intro hlt v H' hv
    obtain ⟨f, A1, n1, c1, rfl, hn1, h128, o1, hf⟩ := hv.out
    have ot := o.turn (y := rdCell 95 s (rdFn s.data.toList σ).2) hm.at_
    obtain ⟨F2, f1, f2, -, f3⟩ := ot.absorb o1
    have hpos := (reads_Fn s.data.toList).pos_le (r := σ) (by have := hm.pos; omega)
    refine ⟨_, _, _, _, _, rfl, own_app f2 rfl rfl (show (n + 1) * 40 ≤ 140737488355328 by omega) (by omega) fun A' c' H'' o2 => ?_⟩
    have w1 : IntKind.i64.wrap ((n : Int) + 1) = ((n + 1 : Nat) : Int) := by rw [wrapi (by omega) (by omega)]; omega
    rw [w1]
    refine ⟨⟨n + 1, hs' ++ [(f, A1, n1, c1)], F2, (rdFn s.data.toList σ).2, rfl, rfl, ?_, ⟨f1.sub _ _ Heap.upd_same, by omega, hs⟩, (sUp sF).trans f1, by rw [List.flatMap_append]; exact o2, fun z hz => ?_⟩, by omega⟩
    · rw [List.map_append]
      exact L.next (by omega) ((reads_Fn s.data.toList).stay σ) f hf
    · rcases List.mem_append.1 hz with hz | hz
      · exact (hops z hz).sub (del_grow f1)
      · simp at hz; subst hz
        exact hasOps_of (f3 b (by rw [Heap.upd_same]; rfl)) hn1 (by simp only; omega)
  refine ⟨_, fun _ => rfl, _, fun _ => (hm.own o).err, fun hlt => ?_, fun hge => ?_⟩
  · have hlt : (n : Int) < q1.1 := by
      have hlt : (n : Int) < q1.1 ∧ σ.err = 0 := by simpa using hlt
      exact hlt.1
    refine ⟨(t62 (hm.own o)).mono (go hlt), (t62 (hm.own o)).mono fun v H' hv => ?_⟩
    obtain ⟨x2, x3, A1, n1, c1, e, kk⟩ := go hlt v H' hv
    exact ⟨x2, x3, A1, n1, c1, e, kk, kk⟩
  have hge : ¬ (n : Int) < q1.1 ∨ σ.err ≠ 0 := by
    by_cases c : (n : Int) < q1.1
    · right
      rw [decide_eq_true c] at hge
      simpa using hge
    · exact .inl c
  obtain ⟨d1, d2⟩ := L.done (hge.imp (fun q => by omega) id)
  refine (t61 (hm.own o) (lim := 8) (by decide)).mono ?_
  rintro v H4 ⟨rfl, rfl⟩
  have h4 := (hm.own o).upd (up (lim := 8) (by decide) σ hm.pos)
  generalize eq2 : rdU s.data.toList 8 σ = q2 at h4 ⊢
  have rg2 := rdU_range (s := s.data.toList) (lim := 8) σ
  rw [eq2] at rg2
  have hfns : HasFns (del H3 b) A n (hs'.map (·.1)) := hasFns_of (o.del hm.at_) hlen.symm (by have := L.le; omega) fun z hz => (hops z hz).sub (del_mono o.sub)
  refine ⟨_, rfl, fun x A3 n3 c3 H5 => ∃ (k : Nat) (out : List O) (F : Heap) (σ' : Rd), x = k ∧ n3 = k ∧ RdL (rdO s.data.toList) q2.1.toNat q2.2 k out σ' ∧ RdAt F 95 b s σ' ∧ Sub H F ∧ HasFns (del F b) A n (hs'.map (·.1)) ∧ OwnS F H5 A3 n3 c3 11 (out.flatMap O.cells),
    fun x _ _ _ _ => (q2.1 - x).toNat, ⟨0, [], _, q2.2, rfl, rfl, RdL.zero _ _ _, h4, sUp (sF.trans o.sub), by rw [del_upd]; exact hfns, OwnS.nil _ 11⟩, ?_⟩
  rintro x A3 n3 c3 H5 ⟨k, out, F', σ', rfl, rfl, L2, hm2, sF2, hfns2, o2⟩
  have hlen2 := L2.len
  have go2 : (n3 : Int) < q2.1 → ∀ v H', (v = (rdO s.data.toList σ').1.val ∧ Sub (H5.upd b (rdCell 95 s (rdO s.data.toList σ').2)) H') → ∃ (x8 x9 x10 x11 x12 x13 x14 x15 x16 x17 x18 : Int),
      v = .agg #[.int .i64 x8, .int .i64 x9, .int .i64 x10, .int .i64 x11, .int .i64 x12, .int .i64 x13, .int .i64 x14, .int .i64 x15, .int .i64 x16, .int .i64 x17, .int .i64 x18] ∧
      appC 23 11 88 H' A3 n3 c3 [.int .i64 x8, .int .i64 x9, .int .i64 x10, .int .i64 x11, .int .i64 x12, .int .i64 x13, .int .i64 x14, .int .i64 x15, .int .i64 x16, .int .i64 x17, .int .i64 x18] 1 fun A' n' c' H'' =>
      (∃ (k : Nat) (out : List O) (F : Heap) (σ' : Rd), IntKind.i64.wrap ((n3 : Int) + 1) = k ∧ n' = k ∧ RdL (rdO s.data.toList) q2.1.toNat q2.2 k out σ' ∧ RdAt F 95 b s σ' ∧ Sub H F ∧ HasFns (del F b) A n (hs'.map (·.1)) ∧ OwnS F H'' A' n' c' 11 (out.flatMap O.cells)) ∧
      (q2.1 - IntKind.i64.wrap ((n3 : Int) + 1)).toNat < (q2.1 - (n3 : Int)).toNat := by
    rintro hlt v H' ⟨rfl, hsub⟩
    have ot := (o2.turn (y := rdCell 95 s (rdO s.data.toList σ').2) hm2.at_).grow hsub
    have hpos := (reads_O s.data.toList).pos_le (r := σ') (by have := hm2.pos; omega)
    refine ⟨_, _, _, _, _, _, _, _, _, _, _, rfl, own_app ot rfl rfl (show (n3 + 1) * 88 ≤ 140737488355328 by omega) (by omega) fun A' c' H'' o3 => ?_⟩
    have w1 : IntKind.i64.wrap ((n3 : Int) + 1) = ((n3 + 1 : Nat) : Int) := by rw [wrapi (by omega) (by omega)]; omega
    rw [w1]
    exact ⟨⟨n3 + 1, out ++ [(rdO s.data.toList σ').1], _, _, rfl, rfl, L2.next (by omega) ((reads_O s.data.toList).stay σ') _ (fun _ => rfl), hm2.upd (by omega), sUp sF2, by rw [del_upd]; exact hfns2, by rw [List.flatMap_append]; exact o3⟩, by omega⟩
  refine ⟨_, fun _ => rfl, _, fun _ => (hm2.own o2).err, fun hlt => ?_, fun hge => ?_⟩
  · have hlt : (n3 : Int) < q2.1 := by
      have hlt : (n3 : Int) < q2.1 ∧ σ'.err = 0 := by simpa using hlt
      exact hlt.1
    refine ⟨(t63 (hm2.own o2)).mono (go2 hlt), (t63 (hm2.own o2)).mono fun v H' hv => ?_⟩
    obtain ⟨x8, x9, x10, x11, x12, x13, x14, x15, x16, x17, x18, e, kk⟩ := go2 hlt v H' hv
    exact ⟨x8, x9, x10, x11, x12, x13, x14, x15, x16, x17, x18, e, kk, kk⟩
  have hge : ¬ (n3 : Int) < q2.1 ∨ σ'.err ≠ 0 := by
    by_cases c : (n3 : Int) < q2.1
    · right
      rw [decide_eq_true c] at hge
      simpa using hge
    · exact .inl c
  obtain ⟨g1, g2⟩ := L2.done (hge.imp (fun q => by omega) id)
  have hN : rdL s.data.toList 16 (rdFn s.data.toList) ⟨0, 0⟩ = rdN (rdFn s.data.toList) q1.1.toNat q1.2 := by unfold rdL; rw [eq1]
  have hO : rdL s.data.toList 8 (rdO s.data.toList) σ = rdN (rdO s.data.toList) q2.1.toNat q2.2 := by unfold rdL; rw [eq2]
  have eP2 : (rdP s.data.toList ⟨0, 0⟩).2 = σ' := by
    unfold rdP rdM rdB; simp only
    rw [hN, d1, hO, g1]
  have eP1 : σ'.err = 0 → (rdP s.data.toList ⟨0, 0⟩).1 = ⟨hs'.map (·.1), out⟩ := fun q => by
    have hσ : σ.err = 0 := by
      rcases Nat.eq_zero_or_pos σ.err with c | c
      · exact c
      · exfalso
        have st := (reads_L (reads_O s.data.toList) (lim := 8) (by decide)).stay σ (by omega)
        rw [hO, g1] at st
        rw [st] at q; omega
    unfold rdP rdM rdB; simp only
    rw [hN, d1, hO, d2 hσ, g2 q]
  have hm5 := hm2.own o2
  have sH5 : Sub H H5 := sF2.trans o2.sub
  have hpos := hm2.pos
  refine ⟨_, rfl, _, hm5.err, _, fun _ => rfl, _, fun _ => hm5.pos_, fun hq => ?_, fun hq => ?_⟩
  · have hq : σ'.err = 0 ∧ (σ'.pos : Int) < s.size := by simpa using hq
    have em := dec_more eP2 hq.1 (by omega)
    refine ⟨_, rfl, hm5.setErr 3 ?_⟩
    have h6 := hm5.upd (r' := ⟨σ'.pos, 3⟩) hpos
    refine ⟨_, rfl, _, h6.err, ct rfl ⟨_, Sub.refl _, _, rfl, _, rfl, _, h6.err, _, h6.pos_, Sub.refl _, ⟨_, _, _, _, _, _, by rw [em] <;> rfl, ?_, sUp sH5⟩⟩⟩
    rw [em]; exact hasP_none _
  · refine ⟨_, rfl, _, hm5.err, fun he => ?_, fun he => ?_⟩
    · have he : σ'.err ≠ 0 := by simpa using he
      have em := dec_err eP2 he
      refine ⟨_, Sub.refl _, _, rfl, _, rfl, _, hm5.err, _, hm5.pos_, Sub.refl _, ⟨_, _, _, _, _, _, by rw [em], ?_, sH5⟩⟩
      rw [em]; exact hasP_none _
    · have he : σ'.err = 0 := by simpa using he
      have hp2 : ¬ σ'.pos < s.data.toList.length := by
        rw [he] at hq
        have : ¬ (σ'.pos : Int) < s.size := by simpa using hq
        omega
      have em := dec_all eP2 he hp2 (eP1 he)
      have hP : HasP H5 A n A3 n3 ⟨hs'.map (·.1), out⟩ := ⟨(hfns2.sub del_sub).sub o2.sub, hasOpts_of o2.src hlen2.symm (by have := L2.le; omega)⟩
      refine ⟨_, _, _, t34 hP, fun hc => ?_, fun hc => ?_⟩
      · have hc : (Prg.check ⟨hs'.map (·.1), out⟩).1 ≠ 0 := by simpa using hc
        rw [if_pos hc] at em
        refine ⟨_, _, _, _, _, _, by rw [em], ?_, sH5⟩
        rw [em]; exact hasP_none _
      · have hc : (Prg.check ⟨hs'.map (·.1), out⟩).1 = 0 := by simpa using hc
        rw [if_neg (by rw [hc]; simp)] at em
        refine ⟨_, _, _, _, _, _, by rw [em], ?_, sH5⟩
        rw [em]; exact hP
end Go.Proofs.Ytanahoejlnmfiaa
