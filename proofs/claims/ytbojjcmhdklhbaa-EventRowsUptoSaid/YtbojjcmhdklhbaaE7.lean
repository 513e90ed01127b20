/- Events: the contracts of the laws EventRows and EventBack. Conditions: numbers and lengths in range, the events in memory. -/
import Derived.Test.YtbojjcmhdklhbaaE6
set_option maxRecDepth 100000
namespace Go.Proofs.Ytbojjcmhdklhbaa
open Go.Ax

theorem unpG_ok : ∀ (l : List Ev) (pre : List UInt8) (out : List Ev) (f : Nat), (∀ x ∈ l, validM x = true) → l.length < f → unpG f (pre ++ l.flatMap encM) pre.length out = (out ++ l, 0, 0)
  | [], pre, out, 0, _, hf => absurd hf (by simp)
  | [], pre, out, f + 1, _, _ => by unfold unpG; simp
  | x :: l, pre, out, 0, _, hf => absurd hf (by simp)
  | x :: l, pre, out, f + 1, h, hf => by
    have hp := enc_pos x
    have hd : decM ((pre ++ (x :: l).flatMap encM).drop pre.length) = (x, (encM x).length, 0) := by
      rw [drop_pre _ _ _ rfl, List.flatMap_cons]; exact dec_enc (h x (List.mem_cons_self ..)) _
    unfold unpG
    rw [hd, if_pos (by simp; omega), if_neg (by simp)]
    have ih := unpG_ok l (pre ++ encM x) (out ++ [x]) f (fun y hy => h y (List.mem_cons_of_mem _ hy)) (by simp at hf; omega)
    rw [List.length_append] at ih
    rw [List.flatMap_cons, ← List.append_assoc]
    simpa using ih
theorem flatL_len : ∀ l : List Ev, l.length ≤ (l.flatMap encM).length
  | [] => by simp
  | x :: l => by have := flatL_len l; have := enc_pos x; rw [List.flatMap_cons, List.length_append, List.length_cons]; omega
theorem unp_pack {l : List Ev} (h : l.all validM = true) : unpM (packS l).data.toList = (l, 0, 0) := by
  unfold packS; rw [if_pos h, strOf_list]
  unfold unpM
  have := unpG_ok l [] [] ((l.flatMap encM).length + 1) (fun x hx => List.all_eq_true.1 h x hx) (by have := flatL_len l; omega)
  simpa using this
theorem unpG_bound : ∀ (f : Nat) (s : List UInt8) (p : Nat) (out : List Ev), p ≤ s.length → (unpG f s p out).1.length ≤ out.length + (s.length - p)
  | 0, s, p, out, _ => by simp [unpG]
  | f + 1, s, p, out, h => by
    unfold unpG
    split
    · split
      · simp
      · rename_i hp he
        have he : (decM (s.drop p)).2.2 = 0 := by simpa using he
        have hr := dec_range he
        rw [List.length_drop] at hr
        have := unpG_bound f s (p + (decM (s.drop p)).2.1) (out ++ [(decM (s.drop p)).1]) (by omega)
        simp at this; omega
    · simp
theorem unpM_bound (s : ByteArray) : (unpM s.data.toList).1.length ≤ s.size := by
  have := unpG_bound (s.data.toList.length + 1) s.data.toList 0 [] (by omega)
  rw [size_list]; unfold unpM; simpa using this
theorem UnpV.out {s : List UInt8} {H : Heap} {v : Value} {H' : Heap} {A : Option Addr} {n c : Nat} (h : UnpV s H v H' A n c) : v = .tuple #[.slice A n c, .int .i64 (unpM s).2.1, .int .i64 (unpM s).2.2] ∧ HasEvs H' A n (unpL s) ∧ Sub H H' := ⟨h.val, Own.evs h.own, h.own.sub⟩

/-! ### EventBack -/
theorem back_tail {l : List Ev} (hw : ∀ x ∈ l, x.Wf) (hb : l.length * 72 ≤ 140737488355328) {H H1 : Heap} {A : Option Addr} {n c : Nat} (h : HasEvs H A n l) (hs : Sub H H1) :
    ∃ (s1 : ByteArray), ∃ (x24 : Int), (Tr Try.prog 26 #[.slice A n c] H1 fun v H' => v = .tuple #[.string s1, .int .i64 x24] ∧ Sub H1 H') ∧
      ((x24 == 0) = true → Tr Try.prog 28 #[.string s1] H1 fun v H' => ∃ A' n' c', ∃ (x25 x26 : Int), v = .tuple #[.slice A' n' c', .int .i64 x25, .int .i64 x26] ∧
        ∃ b1, (Tr Try.prog 30 #[.slice A' n' c', .slice A n c] H' fun v H2 => v = .bool b1 ∧ Sub H' H2) ∧
          ((x25 != 0 || !b1) = true → Value.bool false = .bool true ∧ Sub H H') ∧ ((x25 != 0 || !b1) = false → Value.bool true = .bool true ∧ Sub H H')) ∧
      ((x24 == 0) = false → Value.bool true = .bool true ∧ Sub H H1) := by
  have hl : l.length ≤ 100000000000000000 := by omega
  refine ⟨_, _, t26 hw hl (h.sub hs), fun he => ?_, fun _ => ⟨rfl, hs⟩⟩
  have hv : l.all validM = true := by
    unfold packE at he
    split at he
    · assumption
    · cases he
  have hu := unp_pack hv
  have hsz : (packS l).size ≤ 9223372036854775807 := by
    have := flatB_len l (fun x hx => List.all_eq_true.1 hv x hx)
    unfold packS; rw [if_pos hv, strOf_size]; omega
  refine (t28 _ hsz (by rw [hu]; exact hb) H1).mono fun v H' ⟨A', n', c', u⟩ => ?_
  obtain ⟨rfl, hev, hsub⟩ := u.out
  rw [hu]
  have hul : unpL (packS l).data.toList = l := by unfold unpL; rw [hu]; rfl
  rw [hul] at hev
  refine ⟨A', n', c', _, _, rfl, _, t30 (by omega) hev ((h.sub hs).sub hsub), ?_⟩
  rw [sameM_iff.2 rfl]
  exact ⟨fun e => by simp at e, fun _ => ⟨rfl, hs.trans hsub⟩⟩
theorem enc_str {x : Ev} (h : validM x = true) : (encS x).data.toList = encM x := by unfold encS; rw [if_pos h, strOf_list]
theorem t8 (x : Ev) (w : x.Wf) {l : List Ev} (hw : ∀ x ∈ l, x.Wf) (hb : l.length * 72 ≤ 140737488355328) (more : ByteArray) (hm : more.size ≤ 140737488355328) {H : Heap} {A : Option Addr} {n c : Nat} (h : HasEvs H A n l) :
    Tr Try.prog 8 #[x.val, .slice A n c, .string more] H (fun v H' => v = .bool true ∧ Sub H H') := by
  apply v8; unfold F8
  refine ⟨_, t13 H, _, _, t16 x w H, fun he => ?_, fun _ => back_tail hw hb h (Sub.refl _)⟩
  have hv : validM x = true := by
    unfold encE at he
    split at he
    · assumption
    · cases he
  have hlist := enc_str hv
  have hsz : (encS x).size = (encM x).length := by rw [size_list, hlist]
  have h90 := encM_len hv
  have hs2 : ((encS x) ++ more).size ≤ 9223372036854775807 := by rw [size_list, app_list, List.length_append, ← size_list, ← size_list]; omega
  refine ⟨by omega, (t18 _ hs2 H).mono fun v H' hv' => ?_⟩
  obtain ⟨rfl, hsub⟩ := hv'
  have hd : decV (encS x ++ more).data.toList = .tuple #[x.val, .int .i64 (encS x).size, .int .i64 0] := by
    unfold decV; rw [app_list, hlist, dec_enc hv, hsz]; rfl
  rw [hd]
  refine ⟨_, _, _, _, _, _, _, _, _, _, _, rfl, fun e => by simp at e, fun _ => ⟨fun i H1 => Sub H H1 ∧ ∃ k : Nat, i = k ∧ k ≤ (encS x).size, fun i _ => ((encS x).size - i).toNat, ⟨hsub, 0, rfl, by omega⟩, fun i H1 ⟨hs1, k, hk, hkl⟩ => ?_⟩⟩
  subst hk
  refine ⟨fun hlt => ?_, fun _ => back_tail hw hb h hs1⟩
  have hlt := of_decide_eq_true hlt
  have hext : ((encS x).extract 0 ((k : Int).toNat)).data.toList = (encM x).take k := by rw [extract_list, hlist]; simp
  have hes : ((encS x).extract 0 ((k : Int).toNat)).size ≤ 9223372036854775807 := by rw [size_list, hext, List.length_take]; omega
  refine ⟨by omega, (t18 _ hes H1).mono fun v H2 hv2 => ?_⟩
  obtain ⟨rfl, hsub2⟩ := hv2
  have hc := dec_cut hv k (by omega)
  rw [hext]
  refine ⟨_, _, _, _, _, _, _, _, _, _, _, rfl, fun e => ?_, fun _ => ?_⟩
  · rw [hc] at e; cases e
  · rw [wrapi (by omega) (by omega)]
    refine ⟨⟨hs1.trans hsub2, k + 1, by omega, by omega⟩, ?_⟩
    show ((encS x).size - ((k : Int) + 1)).toNat < ((encS x).size - (k : Int)).toNat
    omega

/-! ### EventRows -/
/-- the list of the call's own, whatever was written into it; all else is as it was -/
def RW (H H3 H4 : Heap) (A : Option Addr) (n : Nat) (H1 : Heap) : Prop :=
  (n = 0 ∧ H1 = H4) ∨ ∃ b cur T, A = some ⟨b, 0, none⟩ ∧ H b = none ∧ (∃ o, H3 b = some o) ∧ H1 b = some (.cells cur T (0, 0)) ∧ n * 9 ≤ cur.size ∧ ∀ i, i ≠ b → H1 i = H4 i
theorem RW.zero {H H3 H4 : Heap} {A : Option Addr} {n c : Nat} {cs : List Value} (o : Own H H3 A n c 9 cs) (k : Sub H3 H4) : RW H H3 H4 A n H4 := by
  rcases o.at_ with ⟨h1, h2, h3⟩ | ⟨b, cur, T, h1, h2, h3, h4, h5⟩
  · exact .inl ⟨h2, rfl⟩
  · exact .inr ⟨b, cur, T, h1, h2, ⟨_, h3⟩, k.sub _ _ h3, Nat.le_trans (Nat.mul_le_mul_right 9 o.cap) h4, fun _ _ => rfl⟩
theorem RW.sub {H H3 H4 H1 : Heap} {A : Option Addr} {n : Nat} (r : RW H H3 H4 A n H1) (k : Sub H H4) : Sub H H1 := by
  rcases r with ⟨_, rfl⟩ | ⟨b, cur, T, h1, h2, h2', h3, h4, h5⟩
  · exact k
  · refine ⟨fun i o ho => ?_⟩
    have : i ≠ b := fun e => by subst e; rw [h2] at ho; cases ho
    rw [h5 i this]; exact k.sub i o ho
theorem RW.put {H H3 H4 H1 : Heap} {A : Option Addr} {n : Nat} (r : RW H H3 H4 A n H1) {k : Nat} (hk : k < n) {vs : List Value} (hv : vs.length = 9) {Q : Addr → Array Value → TypeId → Prop}
    (q : ∀ a c T, RW H H3 H4 A n (H1.upd (a.add (k * 9)).block (.cells (splice c (a.add (k * 9)).off vs) T)) → Q a c T) :
    ∃ a, (A = some a ∧ (0 : Int) ≤ (k : Int) ∧ (k : Int) < n) ∧ ∃ c T, H1 (a.add (k * 9)).block = some (.cells c T (0, 0)) ∧ (a.add (k * 9)).spot = none ∧ (a.add (k * 9)).off + vs.length ≤ c.size ∧ Q a c T := by
  rcases r with ⟨h1, _⟩ | ⟨b, cur, T, h1, h2, h2', h3, h4, h5⟩
  · omega
  · have hle : k * 9 + vs.length ≤ cur.size := by rw [hv]; omega
    refine ⟨_, ⟨h1, by omega, by omega⟩, cur, T, by rw [add_block]; exact h3, add_spot _ _, by rw [add_off]; exact hle, q _ _ _ ?_⟩
    rw [add_block, add_off]
    refine .inr ⟨b, _, T, h1, h2, h2', Heap.upd_same, by rw [splice_size hle]; exact h4, fun i hi => ?_⟩
    rw [Heap.upd_other hi]; exact h5 i hi
theorem at_eq {H H' : Heap} {a : Addr} {cs : List Value} (h : At H a cs) (e : H' a.block = H a.block) : At H' a cs := by
  obtain ⟨c, t, fz, h1, h2, h3⟩ := h.out
  exact ⟨⟨c, t, fz, by rw [e]; exact h1, h2, h3⟩⟩
/-- a second list of the call's own, made when the first one was there, is untouched by writes to the first -/
theorem RW.keep {H H3 H4 H1 : Heap} {A B : Option Addr} {n n' c' : Nat} {l : List Ev} (r : RW H H3 H4 A n H1) (o : Own H3 H4 B n' c' 9 (l.flatMap Ev.cells)) : HasEvs H1 B n' l := by
  have hev := Own.evs o
  rcases r with ⟨_, rfl⟩ | ⟨b, cur, T, h1, h2, ⟨o3, ho3⟩, h3, h4, h5⟩
  · exact hev
  · refine ⟨hev.len, fun i x hx => ?_⟩
    obtain ⟨a, ha, hat⟩ := hev.at_ i x hx
    rcases o.at_ with ⟨q1, q2, q3⟩ | ⟨b2, cur2, T2, q1, q2, q3, q4⟩
    · rw [q1] at ha; cases ha
    · rw [q1] at ha; cases ha
      have e : b2 ≠ b := fun e => by subst e; rw [q2] at ho3; cases ho3
      exact ⟨_, q1, at_eq hat (by rw [add_block]; exact h5 _ e)⟩
theorem t6 {l : List Ev} (hw : ∀ x ∈ l, x.Wf) (hb : l.length ≤ 100000000000000000) (s : ByteArray) (hs : s.size ≤ 1048576) {H : Heap} {A : Option Addr} {n c : Nat} (h : HasEvs H A n l) :
    Tr Try.prog 6 #[.slice A n c, .string s] H (fun v H' => v = .bool true ∧ Sub H H') := by
  have hu := unpM_bound s
  have hul : (unpL s.data.toList).length ≤ 1048576 := by unfold unpL; split <;> first | omega | simp
  apply v6; unfold F6
  refine ⟨_, t13 H, _, _, t26 hw hb h, _, _, t27 hb h, (t28 s (by omega) (by omega) H).mono fun v H3 ⟨A1, n1, c1, u1⟩ => ?_⟩
  obtain ⟨rfl, he1, hs1⟩ := u1.out
  refine ⟨A1, n1, c1, _, _, rfl, (t29 s (by omega) (by omega) H3).mono fun v H4 ⟨A2, n2, c2, u2⟩ => ?_⟩
  obtain ⟨rfl, he2, hs2⟩ := u2.out
  refine ⟨A2, n2, c2, _, _, rfl, _, t30 (by omega) (he1.sub hs2) he2, fun i H1 => RW H H3 H4 A1 n1 H1 ∧ ∃ k : Nat, i = k ∧ k ≤ n1, fun i _ => (n1 - i).toNat, ⟨RW.zero u1.own hs2, 0, rfl, by omega⟩, fun i H1 ⟨r, k, hk, hkn⟩ => ?_⟩
  subst hk
  have hn1 := he1.len
  refine ⟨fun hlt => ?_, fun _ => ?_⟩
  · have hlt := of_decide_eq_true hlt
    refine r.put (k := k) (by omega) rfl fun a c T r' => ⟨⟨r', k + 1, by rw [wrapi (by omega) (by omega)]; omega, by omega⟩, ?_⟩
    show (n1 - IntKind.i64.wrap ((k : Int) + 1)).toNat < (n1 - (k : Int)).toNat
    rw [wrapi (by omega) (by omega)]; omega
  · have hk := r.keep u2.own
    refine (t28 s (by omega) (by omega) H1).mono fun v H6 ⟨A3, n3, c3, u3⟩ => ?_
    obtain ⟨rfl, he3, hs3⟩ := u3.out
    refine ⟨A3, n3, c3, _, _, rfl, _, t30 (by omega) he3 (hk.sub hs3), ?_, (r.sub (hs1.trans hs2)).trans hs3⟩
    rw [sameM_iff.2 rfl, beqS_iff.2 rfl]; simp
end Go.Proofs.Ytbojjcmhdklhbaa
