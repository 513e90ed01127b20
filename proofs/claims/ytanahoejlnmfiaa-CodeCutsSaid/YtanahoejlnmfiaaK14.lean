/- Code: shown, and the contracts of the laws CodeKinds, CodeChecks, CodeFinds, CodeEncodes, CodeDecodes, CodeBack, CodeCuts. Conditions: as each says (the program in memory, its numbers the machine's, lengths within the machine's limit). -/
import Derived.Test.YtanahoejlnmfiaaK13
import Derived.Test.YtanahoejlnmfiaaK8
import Derived.Test.YtanahoejlnmfiaaV6
set_option maxRecDepth 100000
namespace Go.Proofs.Ytanahoejlnmfiaa
open Go.Ax

theorem small_check : smallP.check = (0, 0, 0) := by rfl
theorem none_check : none0.check = (40, -1, -1) := by rfl
theorem small_ok : Okp smallP := (check_ok (by rw [small_check])).2
theorem small_wf : smallP.Wf := by
  refine ⟨fun f hf o ho => ?_, fun f hf => ?_, fun o ho => by simp [smallP] at ho⟩
  · simp [smallP] at hf; subst hf
    simp at ho
    rcases ho with rfl | rfl <;> exact ⟨⟨by decide, by decide⟩, ⟨by decide, by decide⟩⟩
  · simp [smallP] at hf; subst hf
    exact ⟨⟨by decide, by decide⟩, ⟨by decide, by decide⟩⟩
theorem small_enc : encP smallP = [1, 0, 0, 2, 17, 36, 0] := by
  simp [encP, smallP, encFn, encOp, putU_lt, opd]
theorem encS_ok {p : Prg} (h : p.check.1 = 0) : encS p = strOf (encP p) := by unfold encS; rw [if_pos h]
theorem encS_size {p : Prg} (w : p.Wf) : (encS p).size ≤ 50000 := by
  unfold encS
  split
  · rename_i h
    rw [strOf_size]; exact encP_le (good_of (check_ok h).2 w)
  · show 0 ≤ 50000; omega
theorem dec_encS {p : Prg} (w : p.Wf) (h : p.check.1 = 0) : decM (encS p).data.toList = (p, 0, 0) := by
  rw [encS_ok h, strOf_list]
  have := dec_enc (check_ok h).2 w []
  rw [List.append_nil, if_pos rfl] at this; exact this
theorem t27 (H : Heap) : Tr Try.prog 27 #[] H (fun v H' => v = .bool true ∧ Sub H H') := by
  apply v27; unfold F27
  refine (t43 H).mono ?_
  rintro v H1 ⟨A, n, c, A1, n1, c1, rfl, hP1, s1⟩
  refine ⟨_, _, _, _, _, _, rfl, _, _, _, t33 hP1, (t43 H1).mono ?_⟩
  rintro v H2 ⟨A', n', c', A1', n1', c1', rfl, hP2, s2⟩
  refine ⟨_, _, _, _, _, _, rfl, _, _, t38 hP2 small_wf, (t40 _ (by have := encS_size small_wf; omega) H2).mono ?_⟩
  rintro v H3 ⟨B, m, d, B1, m1, d1, rfl, hP3, s3⟩
  refine ⟨_, _, _, _, _, _, _, _, rfl, (t43 H3).mono ?_⟩
  rintro v H4 ⟨C, k, e, C1, k1, e1, rfl, hP4, s4⟩
  refine ⟨_, _, _, _, _, _, rfl, _, t35 (hP3.sub s4) hP4, _, _, _, t33 (hasP_none H4), ?_, s1.trans (s2.trans (s3.trans s4))⟩
  have c0 : smallP.check.1 = 0 := by rw [small_check]
  have em := dec_encS small_wf c0
  have eb : beqS (encS smallP) { data := #[1, 0, 0, 2, 17, 36, 0] } = true := by
    rw [beqS_iff, encS_ok c0, small_enc]; rfl
  rw [em, eb, sameB_iff.2 rfl, small_check, none_check]
  rfl
theorem t7 (op : Int) (H : Heap) : Tr Try.prog 7 #[.int .i64 op] H (fun v H' => v = .bool true ∧ Sub H H') := by
  apply v7; unfold F7
  exact ⟨_, t27 H, _, t28 op H, _, t29 op H, _, t30 op H, _, t31 op H, by simp, Sub.refl _⟩
theorem t8 {H : Heap} {fA oA : Option Addr} {fn fc on oc : Nat} {p : Prg} (h : HasP H fA fn oA on p) (z : p.Sz) :
    Tr Try.prog 8 #[.agg #[.slice fA fn fc, .slice oA on oc]] H (fun v H' => v = .bool true ∧ Sub H H') := by
  apply v8; unfold F8
  refine ⟨_, t27 H, (t32 h z).mono ?_⟩
  rintro v H1 ⟨A, n, c, A1, n1, c1, rfl, hP1, s1⟩
  refine ⟨_, _, _, _, _, _, rfl, _, _, _, t33 hP1, _, _, _, t34 (h.sub s1), _, t35 hP1 (h.sub s1), ?_, s1⟩
  rw [sameB_iff.2 rfl]; simp
theorem t9 {H : Heap} {fA oA : Option Addr} {fn fc on oc : Nat} {p : Prg} (h : HasP H fA fn oA on p) (kind name : Int) :
    Tr Try.prog 9 #[.agg #[.slice fA fn fc, .slice oA on oc], .int .i64 kind, .int .i64 name] H (fun v H' => v = .bool true ∧ Sub H H') := by
  apply v9; unfold F9
  exact ⟨_, t27 H, _, t36 h kind name, _, t37 h kind name, by simp, Sub.refl _⟩
theorem t10 {H : Heap} {fA oA : Option Addr} {fn fc on oc : Nat} {p : Prg} (h : HasP H fA fn oA on p) (w : p.Wf) :
    Tr Try.prog 10 #[.agg #[.slice fA fn fc, .slice oA on oc]] H (fun v H' => v = .bool true ∧ Sub H H') := by
  apply v10; unfold F10
  refine ⟨_, t27 H, _, _, t38 h w, _, _, t39 h w, ?_, Sub.refl _⟩
  rw [beqS_iff.2 rfl]; simp
theorem t11 (s : ByteArray) (hs : s.size ≤ 9223372036854775807) (H : Heap) : Tr Try.prog 11 #[.string s] H (fun v H' => v = .bool true ∧ Sub H H') := by
  apply v11; unfold F11
  refine ⟨_, t27 H, (t40 s hs H).mono ?_⟩
  rintro v H1 ⟨A, n, c, A1, n1, c1, rfl, hP1, s1⟩
  refine ⟨_, _, _, _, _, _, _, _, rfl, (t41 s hs H1).mono ?_⟩
  rintro v H2 ⟨B, m, d, B1, m1, d1, rfl, hP2, s2⟩
  refine ⟨_, _, _, _, _, _, _, _, rfl, _, t35 (hP1.sub s2) hP2, ?_, s1.trans s2⟩
  rw [sameB_iff.2 rfl]; simp
/-- reading back: what is read is written so -/
theorem back_read (s : ByteArray) (hs : s.size ≤ 9223372036854775807) (H : Heap) {K : Value → Heap → Prop} (k : ∀ H', Sub H H' → K (.bool true) H') :
    Tr Try.prog 40 #[.string s] H fun v H' => ∃ (A : Option Addr) (n c : Nat) (A1 : Option Addr) (n1 c1 : Nat) (x x1 : Int), v = .tuple #[.agg #[.slice A n c, .slice A1 n1 c1], .int .i64 x, .int .i64 x1] ∧
      ((x == 0) = true → ∃ (s2 : ByteArray) (x5 : Int), Tr Try.prog 38 #[.agg #[.slice A n c, .slice A1 n1 c1]] H' (fun v H'' => v = .tuple #[.string s2, .int .i64 x5] ∧ Sub H' H'') ∧
        ((x5 != 0 || !beqS s2 s) = true → K (.bool false) H') ∧ ((x5 != 0 || !beqS s2 s) = false → K (.bool true) H')) ∧
      ((x == 0) = false → K (.bool true) H') := by
  refine (t40 s hs H).mono ?_
  rintro v H1 ⟨A, n, c, A1, n1, c1, rfl, hP1, s1⟩
  refine ⟨_, _, _, _, _, _, _, _, rfl, fun e => ?_, fun _ => k _ s1⟩
  have e : (decM s.data.toList).2.1 = 0 := by simpa using e
  obtain ⟨i1, i2, i3, -⟩ := dec_inv e
  have hc := ok_check i1
  have es : encS (decM s.data.toList).1 = s := by
    rw [encS_ok (by rw [hc]), ← i3, strOf_of]
  refine ⟨_, _, t38 hP1 (wf_of i2), fun q => ?_, fun _ => k _ s1⟩
  rw [es, beqS_iff.2 rfl, hc] at q; cases q
theorem t12 {H : Heap} {fA oA : Option Addr} {fn fc on oc : Nat} {p : Prg} (h : HasP H fA fn oA on p) (w : p.Wf) (s : ByteArray) (hs : s.size ≤ 9223372036854775807) :
    Tr Try.prog 12 #[.agg #[.slice fA fn fc, .slice oA on oc], .string s] H (fun v H' => v = .bool true ∧ Sub H H') := by
  apply v12; unfold F12
  refine ⟨_, t27 H, _, _, t38 h w, fun e => ?_, fun e => ?_⟩
  · have e : p.check.1 = 0 := by simpa using e
    have em := dec_encS w e
    refine (t40 _ (by have := encS_size w; omega) H).mono ?_
    rintro v H1 ⟨A, n, c, A1, n1, c1, rfl, hP1, s1⟩
    rw [em] at hP1 ⊢
    refine ⟨_, _, _, _, _, _, _, _, rfl, _, t35 hP1 (h.sub s1), fun q => ?_, fun _ => ?_⟩
    · rw [sameB_iff.2 rfl] at q; simp at q
    · exact back_read (K := fun v H' => v = .bool true ∧ Sub H H') s hs H1 fun H' s2 => ⟨rfl, s1.trans s2⟩
  · exact back_read (K := fun v H' => v = .bool true ∧ Sub H H') s hs H fun H' s2 => ⟨rfl, s2⟩
theorem cuts_eq {p : Prg} (w : p.Wf) (h : p.check.1 = 0) (more : ByteArray) {k : Nat} (hk : k < (encS p).size) {x5 x6 x7 x8 : Int} {i : Int} (hi : i = k)
    (h5 : x5 = (decM ((encS p).extract 0 k).data.toList).2.1) (h6 : x6 = (decM ((encS p).extract 0 k).data.toList).2.2) (h7 : x7 = (decM (encS p ++ more).data.toList).2.1) (h8 : x8 = (decM (encS p ++ more).data.toList).2.2) :
    (true && x5 != 0 && decide (x6 ≤ i) && beqS more { data := #[] } == (x7 == 0) && (beqS more { data := #[] } || x8 == ((encS p).size : Int))) = true := by
  have ok := (check_ok h).2
  have es := encS_ok h
  have sz : (encS p).size = (encP p).length := by rw [es, strOf_size]
  have ex : ((encS p).extract 0 k).data.toList = (encP p).take k := by rw [extract_list, es, strOf_list]; simp
  have ap : (encS p ++ more).data.toList = encP p ++ more.data.toList := by rw [app_list, es, strOf_list]
  have c1 := dec_cut ok w (k := k) (by omega)
  have c2 := dec_pos ((encP p).take k)
  have c3 := dec_enc ok w more.data.toList
  rw [ex] at h5 h6
  rw [ap, c3] at h7 h8
  rw [List.length_take] at c2
  have e5 : (x5 != 0) = true := by rw [h5]; simpa using c1
  have e6 : decide (x6 ≤ i) = true := decide_eq_true (by omega)
  rw [e5, e6]
  by_cases hm : more.data.toList = []
  · have : more = { data := #[] } := of_list_eq (by rw [hm])
    rw [if_pos hm] at h7 h8
    rw [beqS_iff.2 this, h7]; rfl
  · have : beqS more { data := #[] } = false := by
      cases e : beqS more { data := #[] } with
      | false => rfl
      | true => have := beqS_iff.1 e; rw [this] at hm; exact absurd rfl hm
    rw [if_neg hm] at h7 h8
    rw [this, h7, h8, sz]; simp
theorem t13 {H : Heap} {fA oA : Option Addr} {fn fc on oc : Nat} {p : Prg} (h : HasP H fA fn oA on p) (w : p.Wf) (n : Int) (hn : -9223372036854775808 ≤ n ∧ n ≤ 9223372036854775807) (more : ByteArray) (hm : more.size ≤ 140737488351232) :
    Tr Try.prog 13 #[.agg #[.slice fA fn fc, .slice oA on oc], .int .i64 n, .string more] H (fun v H' => v = .bool true ∧ Sub H H') := by
  have hz := encS_size w
  apply v13; unfold F13
  refine ⟨_, t27 H, _, _, t38 h w, fun e => ?_, fun e => ?_⟩
  · refine ⟨?_, Sub.refl _⟩
    by_cases hc : p.check.1 = 0
    · exfalso
      have h1 : (encS p).size = (encP p).length := by rw [encS_ok hc, strOf_size]
      have h2 : 1 ≤ (encP p).length := by
        unfold encP
        have := putU_pos p.funcs.length
        simp only [List.length_append]; omega
      have z : ((0 : Int) != 0) = false := rfl
      rw [hc, z, Bool.false_or] at e
      have := beq_iff_eq.1 e
      omega
    · have : (p.check.1 != 0) = true := by simpa using hc
      rw [this]; rfl
  · simp only [Bool.or_eq_false_iff, bne_eq_false_iff_eq, beq_eq_false_iff_ne] at e
    obtain ⟨e1, e2⟩ := e
    have sp : 0 < (encS p).size := by omega
    have ap : (encS p ++ more).size ≤ 9223372036854775807 := by
      have : (encS p ++ more).size = (encS p).size + more.size := by rw [size_list, app_list, List.length_append, ← size_list, ← size_list]
      omega
    have r1 : n.tmod ((encS p).size : Int) < ((encS p).size : Int) := Int.tmod_lt_of_pos n (by omega)
    have r2 : -((encS p).size : Int) < n.tmod ((encS p).size : Int) := by
      exact Int.lt_tmod_of_pos n (b := ((encS p).size : Int)) (by omega)
    generalize n.tmod ((encS p).size : Int) = T at r1 r2 ⊢
    have xs : ∀ k, k ≤ (encS p).size → ((encS p).extract 0 k).size ≤ 9223372036854775807 := fun k hk => by
      rw [size_list, extract_list, List.length_take]; omega
    refine ⟨by omega, fun q => ?_, fun q => ?_⟩
    · have q : T < 0 := of_decide_eq_true q
      obtain ⟨k, hk⟩ : ∃ k : Nat, T + ((encS p).size : Int) = k := ⟨(T + ((encS p).size : Int)).toNat, by omega⟩
      have hk2 : k < (encS p).size := by omega
      have wk : IntKind.i64.wrap (T + ((encS p).size : Int)) = k := by rw [wrapi (by omega) (by omega), hk]
      rw [wk, Int.toNat_natCast]
      refine ⟨⟨by omega, by omega⟩, (t40 _ (xs k (by omega)) H).mono ?_⟩
      rintro v H1 ⟨A, n, c, A1, n1, c1, rfl, hP1, s1⟩
      refine ⟨_, _, _, _, _, _, _, _, rfl, by omega, (t40 _ ap H1).mono ?_⟩
      rintro v H2 ⟨B, m, d, B1, m1, d1, rfl, hP2, s2⟩
      exact ⟨_, _, _, _, _, _, _, _, rfl, by rw [cuts_eq w e1 more hk2 rfl rfl rfl rfl rfl], s1.trans s2⟩
    · have q : ¬ T < 0 := of_decide_eq_false q
      obtain ⟨k, hk⟩ : ∃ k : Nat, T = k := ⟨(T).toNat, by omega⟩
      have hk2 : k < (encS p).size := by omega
      rw [hk, Int.toNat_natCast]
      refine ⟨⟨by omega, by omega⟩, (t40 _ (xs k (by omega)) H).mono ?_⟩
      rintro v H1 ⟨A, n, c, A1, n1, c1, rfl, hP1, s1⟩
      refine ⟨_, _, _, _, _, _, _, _, rfl, by omega, (t40 _ ap H1).mono ?_⟩
      rintro v H2 ⟨B, m, d, B1, m1, d1, rfl, hP2, s2⟩
      exact ⟨_, _, _, _, _, _, _, _, rfl, by rw [cuts_eq w e1 more hk2 rfl rfl rfl rfl rfl], s1.trans s2⟩
end Go.Proofs.Ytanahoejlnmfiaa
