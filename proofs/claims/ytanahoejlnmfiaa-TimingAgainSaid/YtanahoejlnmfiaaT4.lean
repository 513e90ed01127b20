/- Timing: shown, may, and the contracts of the four laws. Conditions: as each says (the integers in range, the slice in memory). -/
import Derived.Test.YtanahoejlnmfiaaT3
set_option maxRecDepth 100000
namespace Go.Proofs.Ytanahoejlnmfiaa
open Go.Ax

theorem ok_b {o : O} (h : okO o = true) : BOk o := by
  simp [okO, smallB] at h
  obtain ⟨⟨⟨⟨⟨⟨⟨a1, a2⟩, b1, b2⟩, c1, c2⟩, d1, d2⟩, e1, e2⟩, f1, f2⟩, g⟩ := h
  constructor
  · constructor <;> omega
  all_goals omega

def oShown : O := ⟨0, 0, 0, 0, 0, 10, 3, 2, 40, 3, 0⟩
theorem oShown_ok : WOk oShown := by constructor <;> decide
theorem ints_new {H : Heap} {b : Nat} {l : List Int} {t : TypeId} (hb : l.length ≤ 9223372036854775807) : Ints (H.upd b (.cells (l.map (Value.int .i64)).toArray t)) (some { block := b, off := 0 }) l.length l :=
  ⟨rfl, fun i x hx => ⟨_, rfl, at_new fun j v hj => by
    cases j with
    | succ j => simp at hj
    | zero => simp at hj; simp [hx, hj]⟩, hb⟩
theorem t14 (H : Heap) : Tr Try.prog 14 #[] H (fun v H' => v = .bool true ∧ Sub H H') := by
  apply v14; unfold F14
  refine ⟨_, t16 (o := oShown) oShown_ok (by decide) H, _, t16 (o := oShown) oShown_ok (by decide) H, _, _, t18 (o := oShown) oShown_ok (by decide) 0 0 100 H, _, _, t18 (o := oShown) oShown_ok (by decide) 0 0 100 H, fun b hb => ?_⟩
  refine ⟨_, t21 (l := [0, 7, 5]) (ints_new (l := [0, 7, 5]) (by decide)), ?_, Sub.upd_new hb⟩
  exact congrArg Value.bool (by decide +kernel)

def Prg.of (o : O) : Prg := ⟨[⟨0, 0, [(17, 0), (36, 0)]⟩], [o]⟩
theorem check_of (o : O) : ((Prg.of o).check.1 == 0) = okO o := by
  have e : scan 1 (Prg.of o).badOpt = if okO o = true then none else some (40, -1, 0) := by
    have r1 : List.range 1 = [0] := rfl
    unfold scan; rw [r1]
    rw [List.findSome?_cons]
    have b0 : (Prg.of o).badOpt 0 = if okO o = true then none else some (40, -1, 0) := rfl
    rw [b0]; cases okO o <;> simp
  unfold Prg.check
  show ((if false = true then ((40 : Int), (-1 : Int), (-1 : Int)) else match scan 1 (Prg.of o).badOpt with | some r => r | none => match scan 1 (Prg.of o).badFn with | some r => r | none => (0, 0, 0)).1 == 0) = okO o
  rw [e]
  cases h : okO o with
  | false => rfl
  | true =>
    have e2 : scan 1 (Prg.of o).badFn = none := by rfl
    rw [e2]; rfl
theorem t15 (o : O) (H : Heap) : Tr Try.prog 15 #[o.val] H (fun v H' => v = .bool (okO o) ∧ Sub H H') := by
  apply v15; unfold F15
  intro b hb b1 hb1 b2 hb2
  have s1 := Sub.upd_new (o := Obj.cells #[Value.int IntKind.i64 (17 : Int), Value.int IntKind.i64 (0 : Int), Value.int IntKind.i64 (36 : Int), Value.int IntKind.i64 (0 : Int)] 67) hb
  have s2 := Sub.upd_new (o := Obj.cells #[Value.int IntKind.i64 (0 : Int), Value.int IntKind.i64 (0 : Int), Value.slice (some { block := b, off := (0 : Nat) }) (2 : Nat) (2 : Nat)] 70) hb1
  have s3 := Sub.upd_new (o := Obj.cells #[Value.int IntKind.i64 o.queue, Value.int IntKind.i64 o.start, Value.int IntKind.i64 o.close, Value.int IntKind.i64 o.total, Value.int IntKind.i64 o.beat, Value.int IntKind.i64 o.first, Value.int IntKind.i64 o.num, Value.int IntKind.i64 o.den, Value.int IntKind.i64 o.most, Value.int IntKind.i64 o.tries, Value.int IntKind.i64 o.never] 23) hb2
  refine ⟨_, _, _, t34 (p := Prg.of o) ?_, ?_, s1.trans (s2.trans s3)⟩
  · refine ⟨⟨rfl, by decide, fun i f hf => ?_⟩, ⟨rfl, by decide, fun i x hx => ?_⟩⟩
    · cases i with
      | succ i => simp [Prg.of] at hf
      | zero =>
        simp [Prg.of] at hf; subst hf
        refine ⟨_, some { block := b, off := 0 }, 2, 2, rfl, (at_new (k := 0) (fun j v hj => ?_)).sub s3, rfl, by decide, fun i c x hx => ?_⟩
        · simpa using hj
        · match i, hx with
          | 0, hx => simp at hx; obtain ⟨rfl, rfl⟩ := hx; exact ⟨_, rfl, ((at_new (k := 0) (fun j v hj => by match j, hj with
              | 0, hj => simpa using hj
              | 1, hj => simpa using hj
              | j + 2, hj => simp at hj)).sub s2).sub s3⟩
          | 1, hx => simp at hx; obtain ⟨rfl, rfl⟩ := hx; exact ⟨_, rfl, ((at_new (k := 2) (fun j v hj => by match j, hj with
              | 0, hj => simpa using hj
              | 1, hj => simpa using hj
              | j + 2, hj => simp at hj)).sub s2).sub s3⟩
          | i + 2, hx => simp at hx
    · cases i with
      | succ i => simp [Prg.of] at hx
      | zero =>
        simp [Prg.of] at hx; subst hx
        exact ⟨_, rfl, at_new (k := 0) (fun j v hj => by simpa [O.cells] using hj)⟩
  · rw [check_of]

theorem t3 (o : O) (attempt : Int) (ha : attempt ≤ 9223372036854775807) (H : Heap) : Tr Try.prog 3 #[o.val, .int .i64 attempt] H (fun v H' => v = .bool true ∧ Sub H H') := by
  apply v3; unfold F3
  refine ⟨_, t14 H, _, t15 o H, fun _ => ⟨rfl, Sub.refl _⟩, fun e => ?_⟩
  have ok := (ok_b (o := o) (by simpa using e)).toWOk
  exact ⟨_, t16 ok ha H, _, t17 ok H, by simp, Sub.refl _⟩
theorem t4 (o : O) (attempt : Int) (ha : attempt ≤ 9223372036854775807) {A : Option Addr} {n c : Nat} {l : List Int} (H : Heap) (h : Ints H A n l) :
    Tr Try.prog 4 #[o.val, .int .i64 attempt, .slice A n c] H (fun v H' => v = .bool true ∧ Sub H H') := by
  have hl := h.len
  apply v4; unfold F4
  refine ⟨_, t14 H, _, t15 o H, fun _ => ⟨rfl, Sub.refl _⟩, fun e => ?_⟩
  simp at e
  have ok := (ok_b (o := o) e.1).toWOk
  have at_ : ∀ i : Nat, i < 3 → ∃ x a, A = some a ∧ At H (a.add i) [.int .i64 x] := fun i hi => by
    obtain ⟨x, hx⟩ : ∃ x, l[i]? = some x := ⟨_, List.getElem?_eq_getElem (by omega)⟩
    obtain ⟨a, ha, hat⟩ := h.at_ i x hx
    exact ⟨x, a, ha, hat⟩
  obtain ⟨x0, a, ha0, at0⟩ := at_ 0 (by omega)
  obtain ⟨x1, a', ha1, at1⟩ := at_ 1 (by omega)
  obtain ⟨x2, a'', ha2, at2⟩ := at_ 2 (by omega)
  have e1 : a' = a := by rw [ha0] at ha1; cases ha1; rfl
  have e2 : a'' = a := by rw [ha0] at ha2; cases ha2; rfl
  subst e1 e2
  refine ⟨a'', ⟨ha0, by omega, by omega⟩, x0, at0, a'', ⟨ha0, by omega, by omega⟩, x1, at1, _, t19 x1 H, a'', ⟨ha0, by omega, by omega⟩, x2, at2, _, t19 x2 H, _, _, t18 ok ha _ _ _ H,
    a'', ⟨ha0, by omega, by omega⟩, x0, at0, a'', ⟨ha0, by omega, by omega⟩, x1, at1, _, t19 x1 H, a'', ⟨ha0, by omega, by omega⟩, x2, at2, _, t19 x2 H, _, _, t20 ok _ _ _ H, by simp, Sub.refl _⟩

theorem again_law (o : O) (n c t : Int) : ((o.again n c t t).2 && ((o.again n c t t).1 != IntKind.i64.wrap (t + o.wait n) || o.total != 0 && decide ((o.again n c t t).1 ≥ IntKind.i64.wrap (t + o.total)) || o.tries != 0 && decide (n ≥ o.tries))) = false := by
  unfold O.again
  split
  · rfl
  · split
    · rfl
    · simp_all
theorem t5 (o : O) (attempt from_ : Int) (H : Heap) : Tr Try.prog 5 #[o.val, .int .i64 attempt, .int .i64 from_] H (fun v H' => v = .bool true ∧ Sub H H') := by
  apply v5; unfold F5
  refine ⟨_, t14 H, _, t15 o H, by decide, fun _ => ⟨rfl, Sub.refl _⟩, fun e => ?_⟩
  have ok := (ok_b (o := o) (by simpa using e)).toWOk
  obtain ⟨n, hn, n1, n2⟩ : ∃ n : Int, IntKind.i64.wrap (1 + IntKind.i64.wrap ((IntKind.u64.wrap attempt).tmod 2000)) = n ∧ 1 ≤ n ∧ n ≤ 2000 := by
    have u : 0 ≤ IntKind.u64.wrap attempt := by
      have : IntKind.u64.wrap attempt = attempt % 18446744073709551616 := by simp [IntKind.wrap, IntKind.bits, IntKind.signed]
      rw [this]; omega
    have m : (IntKind.u64.wrap attempt).tmod 2000 = IntKind.u64.wrap attempt % 2000 := Int.tmod_eq_emod_of_nonneg u
    have m1 : 0 ≤ IntKind.u64.wrap attempt % 2000 := by omega
    have m2 : IntKind.u64.wrap attempt % 2000 < 2000 := by omega
    rw [m]
    refine ⟨_, rfl, ?_⟩
    rw [wrap_id (x := IntKind.u64.wrap attempt % 2000) (by omega) (by omega), wrap_id (by omega) (by omega)]
    omega
  rw [hn]
  have hn1 : IntKind.i64.wrap (n + 1) = n + 1 := wrap_id (by omega) (by omega)
  rw [hn1]
  have w1 := w_range ok (n - 1).toNat
  have w2 := w_range ok ((n - 1).toNat + 1)
  have e1 : o.wait n = o.w (n - 1).toNat := rfl
  have e2 : o.wait (n + 1) = o.w ((n - 1).toNat + 1) := by unfold O.wait; congr 1; omega
  have e3 : o.wait 1 = if o.lim < o.first then o.lim else o.first := rfl
  refine ⟨fun hm => ?_, fun hm => ?_⟩
  · have hl : o.lim = 1048576 := by unfold O.lim; rw [hm]; rfl
    refine ⟨_, t16 ok (by omega) H, _, t16 ok (by omega) H, _, t16 ok (by omega) H, _, t19 from_ H, _, _, t18 ok (by omega) _ _ _ H, fun e5 => ?_, fun _ => ⟨?_, Sub.refl _⟩⟩
    · rw [again_law] at e5; cases e5
    · rw [e1, e2, e3, hl]
      have a1 : decide (o.w (n - 1).toNat ≥ 0) = true := decide_eq_true w1.1
      have a2 : decide (o.w (n - 1).toNat ≤ o.w ((n - 1).toNat + 1)) = true := decide_eq_true w1.2.2
      have a3 : decide (o.w ((n - 1).toNat + 1) ≤ 1048576) = true := decide_eq_true (by omega)
      rw [a1, a2, a3]; simp
  · have hl : o.lim = o.most := by unfold O.lim; rw [hm]; rfl
    refine ⟨_, t16 ok (by omega) H, _, t16 ok (by omega) H, _, t16 ok (by omega) H, _, t19 from_ H, _, _, t18 ok (by omega) _ _ _ H, fun e5 => ?_, fun _ => ⟨?_, Sub.refl _⟩⟩
    · rw [again_law] at e5; cases e5
    · rw [e1, e2, e3, hl]
      have a1 : decide (o.w (n - 1).toNat ≥ 0) = true := decide_eq_true w1.1
      have a2 : decide (o.w (n - 1).toNat ≤ o.w ((n - 1).toNat + 1)) = true := decide_eq_true w1.2.2
      have a3 : decide (o.w ((n - 1).toNat + 1) ≤ o.most) = true := decide_eq_true (by omega)
      rw [a1, a2, a3]; simp
theorem t6 (o : O) (from_ : Int) {A : Option Addr} {n c : Nat} {l : List Int} (H : Heap) (h : Ints H A n l) :
    Tr Try.prog 6 #[o.val, .int .i64 from_, .slice A n c] H (fun v H' => v = .bool true ∧ Sub H H') := by
  have hl := h.len
  apply v6; unfold F6
  refine ⟨_, t14 H, _, t21 h, _, t22 h, fun e => ?_, fun e => ?_⟩
  · have e := of_decide_eq_true e
    obtain ⟨x, hx⟩ : ∃ x, l[0]? = some x := ⟨_, List.getElem?_eq_getElem (by omega)⟩
    obtain ⟨a, ha, hat⟩ := h.at_ 0 x hx
    refine ⟨a, ⟨ha, by omega, by omega⟩, x, hat, by decide, _, t19 from_ H, _, _, t23 .., _, t19 from_ H, _, _, t24 .., _, t15 o H, fun e => ?_, fun _ => ⟨by simp, Sub.refl _⟩⟩
    have ok := ok_b e
    exact ⟨_, _, t25 ok H, _, _, t26 ok H, fun e => absurd e (by simp), fun _ => ⟨by simp, Sub.refl _⟩⟩
  · refine ⟨_, t19 from_ H, _, _, t23 .., _, t19 from_ H, _, _, t24 .., _, t15 o H, fun e => ?_, fun _ => ⟨by simp, Sub.refl _⟩⟩
    have ok := ok_b e
    exact ⟨_, _, t25 ok H, _, _, t26 ok H, fun e => absurd e (by simp), fun _ => ⟨by simp, Sub.refl _⟩⟩
end Go.Proofs.Ytanahoejlnmfiaa
