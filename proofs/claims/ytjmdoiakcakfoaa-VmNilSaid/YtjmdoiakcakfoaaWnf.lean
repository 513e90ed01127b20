/- The statement that provedVmNil proves, and the last lemmas that it needs. Conditions: none but the row's own. -/
import Derived.Test.YtjmdoiakcakfoaaWne
import Derived.Test.YtjmdoiakcakfoaaRows
set_option maxRecDepth 100000
namespace Go.Proofs.Ytjmdoiakcakfoaa
open Go.Ax
theorem evs_one : ∀ l : List Ev, allOne (l.flatMap Ev.cells) = true
  | [] => rfl
  | x :: l => by rw [List.flatMap_cons]; exact evs_one l
theorem taskE_ok {s : VS} {now : Int} (h : s.taskE now = 0) : s.over = false ∧ s.count ≠ 0 ∧ s.count ≤ 254 ∧ 0 ≤ now ∧ now ≤ 1099511627776 := by
  unfold VS.taskE at h
  split at h
  · split at h <;> cases h
  · rename_i h1
    split at h
    · cases h
    · rename_i h2
      split at h
      · cases h
      · rename_i h3
        split at h
        · cases h
        · rename_i h4
          simp at h1 h2 h3 h4
          exact ⟨h2, h3, h4, by omega, by omega⟩
def VS.ready_ (s : VS) (draw : Int) : VS := { s with draws := IntKind.u64.wrap draw, expect := none }
theorem ready_inv {p : Prg} {s : VS} (iv : Inv p s) (draw : Int) : Inv p (s.ready_ draw) :=
  ⟨iv.scp, iv.scn, iv.sc32, iv.t16, fun t ht => (iv.thr t ht).mono (Nat.le_refl _) (Nat.le_refl _), iv.futs, iv.fuel, iv.many, iv.c0, fun l hl => (by cases hl), iv.made, iv.sig, iv.sg8, iv.upd, iv.updI, iv.v16, iv.a4⟩
theorem Task_eq (s : VS) (p : Prg) (now draw : Int) : s.Task p now draw = if s.taskE now ≠ 0 then (([], s.taskE now), s) else ((((s.ready_ draw).task p now).made, 0), (s.ready_ draw).task p now) := rfl
theorem ready_tasks {s : VS} {now : Int} (h : s.taskE now = 0) (draw : Int) : Tasks (s.ready_ draw) := by
  obtain ⟨h1, h2, h3, -⟩ := taskE_ok h
  exact ⟨h1, by show s.count ≤ 255; omega, fun _ => h3, fun l hl => by cases hl⟩
theorem Task_inv {p : Prg} (ok : Okp p) {s : VS} (iv : Inv p s) (now draw : Int) : Inv p (s.Task p now draw).2 := by
  rw [Task_eq]
  split
  · exact iv
  · rename_i h
    have tk := ready_tasks (Decidable.not_not.1 h) draw
    have h0 := begin_inv (ready_inv iv draw) tk now
    exact ((task_steps ok (ready_inv iv draw) tk now).inv h0.1 h0.2).1
section
variable {p : Prg} {G H : Heap} {m : Nat} {pf po : SlH} {sl : Nat → SlH} {F : Heap} {ex : Value} {st : List SlH} {s : VS}
structure TaskR (p : Prg) (G : Heap) (m : Nat) (pf po : SlH) (ex : Value) (s : VS) (now draw : Int) (v : Value) (H' : Heap) : Prop where
  out : ∃ A n c G', v = .tuple #[.slice A n c, .int .i64 (s.Task p now draw).1.2] ∧ Sub G G' ∧ n = (s.Task p now draw).1.1.length ∧ Src G' A ((s.Task p now draw).1.1.flatMap Ev.cells) ∧ VMP p G' H' m pf po ex (s.Task p now draw).2
theorem VMX.exNil (h : VMX G H m pf po sl F ex st s) (hx : s.expect = none) : ex = .nilFunc := h.exp.none_ hx
theorem n13 (now draw : Int) (H : Heap) : Tr Try.prog 13 #[.pointer none, .int .i64 now, .int .i64 draw] H fun v H' => v = .tuple #[.slice none 0 0, .int .i64 42] ∧ Sub H H' := by
  apply v13; unfold F13
  exact ⟨fun _ => ⟨⟨0, 0, none⟩, fun e => absurd e (by simp), false, fun e => absurd e (by simp), fun e => absurd e (by simp), fun _ => ⟨rfl, Sub.refl _⟩⟩, fun e => absurd e (by simp)⟩
theorem t13 (okp : Okp p) (h : VMX G H m pf po sl F ex st s) (pr : HasP (dif F G) pf.A pf.n po.A po.n p) (iv : Inv p s) (hx : s.expect = none) (now draw : Int) :
    Tr Try.prog 13 #[.pointer (some ⟨m, 0, none⟩), .int .i64 now, .int .i64 draw] H fun v H' => TaskR p G m pf po ex s now draw v H' := by
  have hc := iv.c0
  have bad : ∀ (k : Int), s.taskE now = k → k ≠ 0 → TaskR p G m pf po ex s now draw (.tuple #[.slice none 0 0, .int .i64 k]) H := fun k hk h0 => by
    have e : s.Task p now draw = (([], k), s) := by rw [Task_eq, hk, if_pos h0]
    refine ⟨none, 0, 0, G, ?_, Sub.refl _, ?_, ?_, ?_⟩
    · rw [e]
    · rw [e]; rfl
    · rw [e]; exact .inl rfl
    · rw [e]; exact ⟨sl, F, st, h, pr⟩
  apply v13; unfold F13
  refine ⟨fun e => ⟨_, fun _ => rfl, s.over, fun _ => h.c27, fun eo => ?_, fun eo => ?_⟩, fun e => ⟨_, rfl, s.over, h.c27, fun eo => ?_, fun eo => ⟨_, rfl, s.count, h.c30, fun e0 => ?_, fun e0 => ⟨_, rfl, s.count, h.c30, fun e4 => ?_, fun e4 => ⟨_, rfl, ?_⟩⟩⟩⟩⟩
  · have e : (decide (now < 0) || decide (now > 1099511627776)) = true := by simpa using e
    have eo : s.over = true := by simpa using eo
    exact bad 46 (by unfold VS.taskE; rw [if_pos e, if_pos eo]) (by decide)
  · have e : (decide (now < 0) || decide (now > 1099511627776)) = true := by simpa using e
    have eo : s.over = false := by simpa using eo
    exact bad 42 (by unfold VS.taskE; rw [if_pos e, if_neg (by rw [eo]; simp)]) (by decide)
  all_goals have e : (decide (now < 0) || decide (now > 1099511627776)) = false := by simpa using e
  · exact bad 46 (by unfold VS.taskE; rw [if_neg (by rw [e]; simp), if_pos eo]) (by decide)
  · exact bad 54 (by unfold VS.taskE; rw [if_neg (by rw [e]; simp), if_neg (by rw [eo]; simp), if_pos e0]) (by decide)
  · exact bad 49 (by unfold VS.taskE; rw [if_neg (by rw [e]; simp), if_neg (by rw [eo]; simp), if_neg (by rw [e0]; simp), if_pos e4]) (by decide)
  · have ht : s.taskE now = 0 := by unfold VS.taskE; rw [if_neg (by rw [e]; simp), if_neg (by rw [eo]; simp), if_neg (by rw [e0]; simp), if_neg (by rw [e4]; simp)]
    have eT : s.Task p now draw = ((((s.ready_ draw).task p now).made, 0), (s.ready_ draw).task p now) := by rw [Task_eq, if_neg (by rw [ht]; simp)]
    have hex := h.exNil hx
    subst hex
    refine h.wr (k := 33) (by decide) { s with draws := IntKind.u64.wrap draw } rfl rfl rfl rfl rfl rfl rfl rfl h.vars h.attrs fun H1 v1 => ⟨_, rfl, ?_⟩
    refine v1.wr (k := 34) (by decide) (s.ready_ draw) rfl rfl rfl rfl rfl rfl rfl hx.symm h.vars h.attrs fun H2 v2 => ?_
    have tk := ready_tasks ht draw
    have iv2 := ready_inv iv draw
    have h0 := begin_inv iv2 tk now
    have iv3 := ((task_steps okp iv2 tk now).inv h0.1 h0.2).1
    have hmd := iv3.made
    have hc3 := iv3.c0
    refine (t31 okp v2 pr iv2 tk now).mono fun v H3 ⟨hv, w⟩ => ?_
    obtain ⟨sl3, F3, st3, v3, pr3⟩ := w.out
    have hml := v3.madeLen
    have hmc : contC sl3 st3 ((s.ready_ draw).task p now) 5 = ((s.ready_ draw).task p now).made.flatMap Ev.cells := rfl
    have ok5 := v3.ok 5 (by decide)
    rw [hmc] at ok5
    have hsz : (((s.ready_ draw).task p now).made.flatMap Ev.cells).length = (sl3 5).n * 9 := ok5.len
    refine ⟨hv, _, rfl, _, _, _, v3.c32, ⟨⟨_, ok5.src, hsz, ?_⟩⟩⟩
    refine v3.side (q := ⟨none, 0, 0⟩) (Side.nil v3.gf 9) (k := (sl3 5).n) hsz (evs_one _) (by show (0 + (sl3 5).n) * 72 ≤ _; omega) (by show 0 + (sl3 5).n ≤ _; omega) fun A' c' G4 F4 H4 v4 sd => ?_
    refine ⟨A', 0 + (sl3 5).n, c', G4, ?_, sd.g, ?_, ?_, ?_⟩
    · rw [eT]
    · rw [eT]; show 0 + (sl3 5).n = ((s.ready_ draw).task p now).made.length; omega
    · rw [eT]; exact sd.sl.src
    · rw [eT]; exact ⟨sl3, F4, st3, v4, pr3.sub sd.d⟩
end
def smallQ : Prg := ⟨[⟨0, 0, [(0, 3), (21, 0), (23, 0), (1, 0), (36, 0)]⟩], []⟩
theorem t26 (H : Heap) : Tr Try.prog 26 #[] H (fun v H' => ∃ A n c A1 n1 c1, v = .agg #[.slice A n c, .slice A1 n1 c1] ∧ HasP H' A n A1 n1 smallQ ∧ Sub H H') := by
  apply v26; unfold F26
  intro b hb H1 e1 b1 hb1 H2 e2
  subst e1 e2
  refine ⟨_, _, _, _, _, _, rfl, ⟨?_, ⟨rfl, by decide, fun i o h => by simp [smallQ] at h⟩⟩, (Sub.upd_new hb).trans (Sub.upd_new hb1)⟩
  refine hasFns_of (l := [(⟨0, 0, [(0, 3), (21, 0), (23, 0), (1, 0), (36, 0)]⟩, some ⟨b, 0, none⟩, 5, 5)]) (.inr ⟨_, rfl, (at_new (k := 0) fun j v hv => ?_)⟩) rfl (by decide) fun z hz => ?_
  · simpa [fnC] using hv
  · simp at hz; subst hz
    have : HasOps (H.upd b (.cells #[.int .i64 0, .int .i64 3, .int .i64 21, .int .i64 0, .int .i64 23, .int .i64 0, .int .i64 1, .int .i64 0, .int .i64 36, .int .i64 0] 120)) (some ⟨b, 0, none⟩) 5 [(0, 3), (21, 0), (23, 0), (1, 0), (36, 0)] :=
      hasOps_of (.inr ⟨_, rfl, (at_new (k := 0) fun j v hv => by simpa [opC] using hv)⟩) rfl (by decide)
    exact this.sub (Sub.upd_new hb1)
def sh1 : VS := (VS.init.apply ⟨1, 0, 1, 0, 0, 0, 0, 0, 0⟩).2
def sh2 : VS := (sh1.Task smallQ 5 0).2
def sh3 : VS := (sh2.apply ⟨4, 8, 25, 3, 0, 0, 0, 0, 0⟩).2
def sh4 : VS := (sh3.Task smallQ 9 0).2
theorem sh1_ok : (VS.init.apply ⟨1, 0, 1, 0, 0, 0, 0, 0, 0⟩).1 = 0 := by kernel_rfl
theorem sh2_ok : (sh1.Task smallQ 5 0).1 = ([⟨2, 5, 2, 1, 0, 0, 0, 0, 0⟩, ⟨3, 5, 4, 8, 0, 0, 0, 0, 0⟩], 0) := by kernel_rfl
theorem sh3_ok : (sh2.apply ⟨4, 8, 25, 3, 0, 0, 0, 0, 0⟩).1 = 0 := by kernel_rfl
theorem sh4_ok : (sh3.Task smallQ 9 0).1 = ([⟨5, 9, 2, 4, 0, 0, 0, 0, 0⟩, ⟨6, 9, 15, 0, 0, 0, 0, 0, 0⟩], 0) := by kernel_rfl
theorem sh4_end : sh4.count = 6 ∧ sh4.over = true := ⟨by kernel_rfl, by kernel_rfl⟩
theorem task_expect {p : Prg} {b : Bool} {s s' : VS} (q : FSteps p b s s') (hx : s.expect = none) : s'.expect = none := by
  have k0 : ∀ (s : VS) (e : Ev), s.expect = none → (s.emit0 e).2.expect = none := fun s e h => by
    unfold VS.emit0; rw [h]; exact h
  have kF : ∀ (s : VS) (c : Int), s.expect = none → (s.fails c).expect = none := fun s c h => k0 s _ h
  induction q with
  | refl => exact hx
  | tail _ k ih =>
    cases k with
    | emit e ho hc =>
      unfold VS.emit; split
      · exact kF _ _ ih
      · exact k0 _ _ ih
    | fails c ho => exact kF _ _ ih
    | done i v k => rcases setDone_cases _ i v k with e | ⟨f, _, _, _, e⟩ <;> rw [e] <;> exact ih
    | mark i => rcases mark_cases _ i with e | ⟨c, hc, e⟩ <;> rw [e] <;> exact ih
    | _ => exact ih
theorem Task_expect {p : Prg} (ok : Okp p) {s : VS} (iv : Inv p s) (hx : s.expect = none) (now draw : Int) : (s.Task p now draw).2.expect = none := by
  rw [Task_eq]
  split
  · exact hx
  · rename_i h
    exact task_expect (task_steps ok (ready_inv iv draw) (ready_tasks (Decidable.not_not.1 h) draw) now) rfl
theorem sh_expect : sh1.expect = none ∧ sh3.expect = none := ⟨by kernel_rfl, by kernel_rfl⟩
theorem small_ok : Okp smallQ := (check_ok (p := smallQ) (by kernel_rfl)).2
theorem wf_small {e : Ev} (h : -1000 ≤ e.id ∧ e.id ≤ 1000 ∧ -1000 ≤ e.time ∧ e.time ≤ 1000 ∧ -1000 ≤ e.kind ∧ e.kind ≤ 1000) (hn : ∀ v ∈ e.nums, -1000 ≤ v ∧ v ≤ 1000) : e.Wf :=
  ⟨by omega, by omega, by omega, fun v hv => by have := hn v hv; omega⟩
theorem t11 (H : Heap) : Tr Try.prog 11 #[] H (fun v H' => v = .bool true ∧ Sub H H') := by
  apply v11; unfold F11
  refine (t26 H).mono fun v H1 ⟨A, n, c, A1, n1, c1, hv, hp, s1⟩ => ⟨A, n, c, A1, n1, c1, hv, ?_⟩
  refine (t25 hp).mono fun v H2 hr => ?_
  rcases hr with ⟨hn, -⟩ | ⟨-, m, pf, po, hv2, s2, w⟩
  · exact absurd (ok_check small_ok) (fun e => hn (by rw [e]))
  refine ⟨some ⟨m, 0, none⟩, 0, hv2, fun e => absurd e (by simp), fun _ => ?_⟩
  obtain ⟨sl0, F0, st0, v0, p0⟩ := w.out
  have i1 : Inv smallQ sh1 := apply_inv small_ok (init_inv smallQ) rfl (e := ⟨1, 0, 1, 0, 0, 0, 0, 0, 0⟩)
  have i2 : Inv smallQ sh2 := Task_inv small_ok i1 5 0
  have x2 : sh2.expect = none := Task_expect small_ok i1 sh_expect.1 5 0
  have i3 : Inv smallQ sh3 := apply_inv small_ok i2 x2 (e := ⟨4, 8, 25, 3, 0, 0, 0, 0, 0⟩)
  refine (t12 small_ok v0 p0 (init_inv smallQ) ⟨1, 0, 1, 0, 0, 0, 0, 0, 0⟩ (wf_small (by decide) (by decide))).mono fun v H3 ⟨hv3, w1⟩ => ⟨0, by rw [hv3]; exact congrArg (Value.int .i64) sh1_ok, ?_⟩
  have w1 : VMP smallQ H1 H3 m pf po .nilFunc sh1 := w1
  obtain ⟨sl1, F1, st1, v1, p1⟩ := w1.out
  refine (t13 small_ok v1 p1 i1 sh_expect.1 5 0).mono fun v H4 r4 => ?_
  obtain ⟨A2, n2, c2, G2, hv4, s4, hn4, src4, w2⟩ := r4.out
  rw [sh2_ok] at hv4 hn4 src4
  simp only at hv4 hn4 src4
  refine ⟨A2, n2, c2, 0, hv4, ?_⟩
  have w2 : VMP smallQ G2 H4 m pf po .nilFunc sh2 := w2
  obtain ⟨sl2, F2, st2, v2, p2⟩ := w2.out
  refine (t12 small_ok v2 p2 i2 ⟨4, 8, 25, 3, 0, 0, 0, 0, 0⟩ (wf_small (by decide) (by decide))).mono fun v H5 ⟨hv5, w3⟩ => ⟨0, by rw [hv5]; exact congrArg (Value.int .i64) sh3_ok, ?_⟩
  have w3 : VMP smallQ G2 H5 m pf po .nilFunc sh3 := w3
  obtain ⟨sl3, F3, st3, v3, p3⟩ := w3.out
  refine (t13 small_ok v3 p3 i3 sh_expect.2 9 0).mono fun v H6 r6 => ?_
  obtain ⟨A3, n3, c3, G3, hv6, s6, hn6, src6, w4⟩ := r6.out
  rw [sh4_ok] at hv6 hn6 src6
  simp only at hv6 hn6 src6
  have w4 : VMP smallQ G3 H6 m pf po .nilFunc sh4 := w4
  obtain ⟨sl4, F4, st4, v4, p4⟩ := w4.out
  have g3 : Sub G3 H6 := v4.gf.trans v4.fh
  have hsub : Sub H H6 := (s1.trans (s4.trans (s6.trans g3)))
  have cn := t15 v4
  rw [sh4_end.1, sh4_end.2] at cn
  have hn4 : n2 = 2 := hn4
  have hn6 : n3 = 2 := hn6
  subst hn4 hn6
  obtain ⟨a2, ha2, at2⟩ := src_elem (cells := Ev.cells) (sz := 9) (fun _ => rfl) (by decide) (src_sub src4 (s6.trans g3)) 1 _ rfl
  obtain ⟨a3, ha3, at3⟩ := src_elem (cells := Ev.cells) (sz := 9) (fun _ => rfl) (by decide) (src_sub src6 g3) 1 _ rfl
  refine ⟨A3, 2, c3, 0, hv6, 6, true, cn, fun e => absurd e (by decide), fun _ => ⟨a2, fun _ => ⟨ha2, by decide, by decide⟩, 4, fun _ => at_one 2 at2 rfl, a2, fun _ => ⟨ha2, by decide, by decide⟩, 8, fun _ => at_one 3 at2 rfl, a3, fun _ => ⟨ha3, by decide, by decide⟩, 15, fun _ => at_one 2 at3 rfl, ?_, hsub⟩⟩
  rfl
end Go.Proofs.Ytjmdoiakcakfoaa
set_option maxRecDepth 100000
set_option linter.unusedVariables false
namespace Go.Proofs.Ytjmdoiakcakfoaa
open Go.Ax
noncomputable def c3 : Cx := { P := Try.prog, res := [], pub := [], loops := [], quiet := [11, 14, 15], asm := true }
def F3 (eId : Int) (eTime : Int) (eKind : Int) (eA : Int) (eB : Int) (eC : Int) (eD : Int) (eE : Int) (eF : Int) (now : Int) (name : Int) (H : Heap) (K : Value → Heap → Prop) : Prop :=
 ∃ (b : Bool),
 (Tr Try.prog (11 : Nat) #[] H fun (v : Value) (H' : Heap) => v = Value.bool b ∧ Ax.Sub H H') ∧
 Tr Try.prog (12 : Nat) #[Value.pointer none, Value.agg #[Value.int IntKind.i64 eId, Value.int IntKind.i64 eTime, Value.int IntKind.i64 eKind, Value.int IntKind.i64 eA, Value.int IntKind.i64 eB, Value.int IntKind.i64 eC, Value.int IntKind.i64 eD, Value.int IntKind.i64 eE, Value.int IntKind.i64 eF]] H fun (v1 : Value) (H'1 : Heap) =>
 ∃ (x : Int),
 v1 = Value.int IntKind.i64 x ∧
 Tr Try.prog (13 : Nat) #[Value.pointer none, Value.int IntKind.i64 now, Value.int IntKind.i64 (0 : Int)] H'1 fun (v2 : Value) (H'2 : Heap) =>
 ∃ (A : Option Addr),
 ∃ (n : Nat),
 ∃ (c : Nat),
 ∃ (x1 : Int),
 v2 = Value.tuple #[Value.slice A n c, Value.int IntKind.i64 x1] ∧
 ∃ (x2 : Int),
 ∃ (x3 : Int),
 (Tr Try.prog (14 : Nat) #[Value.pointer none, Value.int IntKind.i64 name, Value.int IntKind.i64 (1 : Int)] H'2 fun (v3 : Value) (H'3 : Heap) => v3 = Value.tuple #[Value.int IntKind.i64 x2, Value.int IntKind.i64 x3] ∧ Ax.Sub H'2 H'3) ∧
 ∃ (x4 : Int),
 ∃ (b1 : Bool),
 (Tr Try.prog (15 : Nat) #[Value.pointer none] H'2 fun (v4 : Value) (H'4 : Heap) => v4 = Value.tuple #[Value.int IntKind.i64 x4, Value.bool b1] ∧ Ax.Sub H'2 H'4) ∧
 Tr Try.prog (16 : Nat) #[Value.pointer none] H'2 fun (v5 : Value) (H'5 : Heap) =>
 ∃ (x5 : Int),
 ∃ (x6 : Int),
 ∃ (x7 : Int),
 ∃ (x8 : Int),
 ∃ (x9 : Int),
 ∃ (x10 : Int),
 ∃ (x11 : Int),
 ∃ (x12 : Int),
 ∃ (x13 : Int),
 ∃ (x14 : Int),
 ∃ (x15 : Int),
 ∃ (x16 : Int),
 ∃ (x17 : Int),
 ∃ (x18 : Int),
 ∃ (x19 : Int),
 ∃ (x20 : Int),
 ∃ (x21 : Int),
 ∃ (x22 : Int),
 ∃ (x23 : Int),
 ∃ (x24 : Int),
 ∃ (x25 : Int),
 ∃ (A1 : Option Addr),
 ∃ (n1 : Nat),
 ∃ (c1 : Nat),
 ∃ (A2 : Option Addr),
 ∃ (n2 : Nat),
 ∃ (c2 : Nat),
 ∃ (A3 : Option Addr),
 ∃ (n3 : Nat),
 ∃ (c3 : Nat),
 ∃ (A4 : Option Addr),
 ∃ (n4 : Nat),
 ∃ (c4 : Nat),
 ∃ (b2 : Bool),
 v5 =
 Value.agg
 #[Value.int IntKind.i64 x5, Value.int IntKind.i64 x6, Value.int IntKind.i64 x7, Value.int IntKind.i64 x8, Value.int IntKind.i64 x9, Value.int IntKind.i64 x10, Value.int IntKind.i64 x11, Value.int IntKind.i64 x12, Value.int IntKind.i64 x13, Value.int IntKind.i64 x14, Value.int IntKind.i64 x15, Value.int IntKind.i64 x16, Value.int IntKind.i64 x17, Value.int IntKind.i64 x18, Value.int IntKind.i64 x19, Value.int IntKind.i64 x20, Value.int IntKind.i64 x21, Value.int IntKind.i64 x22,
 Value.int IntKind.i64 x23, Value.int IntKind.i64 x24, Value.int IntKind.i64 x25, Value.slice A1 n1 c1, Value.slice A2 n2 c2, Value.slice A3 n3 c3, Value.slice A4 n4 c4, Value.bool b2] ∧
 K (Value.bool (b && x == (42 : Int) && (↑n : Int) == (0 : Int) && x1 == (42 : Int) && x2 == (0 : Int) && x3 == (50 : Int) && x4 == (0 : Int) && !b1 && (↑n1 : Int) == (0 : Int) && (↑n3 : Int) == (0 : Int))) H'5
theorem v3 {eId : Int} {eTime : Int} {eKind : Int} {eA : Int} {eB : Int} {eC : Int} {eD : Int} {eE : Int} {eF : Int} {now : Int} {name : Int} {H : Heap} {K : Value → Heap → Prop} (h : F3 eId eTime eKind eA eB eC eD eE eF now name H K) : Tr Try.prog 3 #[.agg #[.int .i64 eId, .int .i64 eTime, .int .i64 eKind, .int .i64 eA, .int .i64 eB, .int .i64 eC, .int .i64 eD, .int .i64 eE, .int .i64 eF], .int .i64 now, .int .i64 name] H K :=
  tr_of_eq (C := c3) Try.func3 (show vcFn c3 Try.f3 [.agg #[.int .i64 eId, .int .i64 eTime, .int .i64 eKind, .int .i64 eA, .int .i64 eB, .int .i64 eC, .int .i64 eD, .int .i64 eE, .int .i64 eF], .int .i64 now, .int .i64 name] H K = F3 eId eTime eKind eA eB eC eD eE eF now name H K by kernel_rfl) h
end Go.Proofs.Ytjmdoiakcakfoaa
set_option maxRecDepth 100000
namespace Go.Proofs.Ytjmdoiakcakfoaa
open Go.Ax
theorem n16 (H : Heap) : Tr Try.prog 16 #[.pointer none] H fun v H' => v = .agg ⟨List.replicate 21 (.int .i64 0) ++ [.slice none 0 0, .slice none 0 0, .slice none 0 0, .slice none 0 0, .bool false]⟩ ∧ Sub H H' := by
  apply v16; unfold F16
  exact ⟨fun _ => ⟨rfl, Sub.refl _⟩, fun e => absurd e (by simp)⟩
theorem t3 (e : Ev) (now name : Int) (H : Heap) : Tr Try.prog 3 #[e.val, .int .i64 now, .int .i64 name] H fun v H' => v = .bool true ∧ Sub H H' := by
  apply v3; unfold F3
  refine ⟨true, t11 H, (n12 e H).mono fun v1 H1 ⟨h1, s1⟩ => ⟨42, h1, (n13 now 0 H1).mono fun v2 H2 ⟨h2, s2⟩ => ⟨none, 0, 0, 42, h2, 0, 50, n14 name 1 H2, 0, false, n15 H2, ?_⟩⟩⟩
  refine (n16 H2).mono fun v3 H3 ⟨h3, s3⟩ => ⟨_, _, _, _, _, _, _, _, _, _, _, _, _, _, _, _, _, _, _, _, _, _, _, _, _, _, _, _, _, _, _, _, _, _, h3, ?_, s1.trans (s2.trans s3)⟩
  rfl
end Go.Proofs.Ytjmdoiakcakfoaa
set_option maxRecDepth 100000
namespace Go.Proofs.Ytjmdoiakcakfoaa
open Go.Ax Go.RowKit Go.ChangeShapes Go.WideShapes Go.ChangeAt
def IntAt (l : List Value) (k : Nat) : Prop := ∃ x, (l.drop k).take 1 = [.int .i64 x] ∧ (Lit.int .i64 x).wf = true
theorem fitEv (H : Heap) (l : List Value) (n : Nat) (h : Fit Try.prog H (n + 2) 23 l) :
    l.length = 9 ∧ IntAt l 0 ∧ IntAt l 1 ∧ IntAt l 2 ∧ IntAt l 3 ∧ IntAt l 4 ∧ IntAt l 5 ∧ IntAt l 6 ∧ IntAt l 7 ∧ IntAt l 8 ∧ True :=
  Eq.mp (show Fit Try.prog H (n + 2) 23 l = (l.length = 9 ∧ IntAt l 0 ∧ IntAt l 1 ∧ IntAt l 2 ∧ IntAt l 3 ∧ IntAt l 4 ∧ IntAt l 5 ∧ IntAt l 6 ∧ IntAt l 7 ∧ IntAt l 8 ∧ True) by kernel_rfl) h
theorem ofEv {l : List Value} (h : l.length = 9 ∧ IntAt l 0 ∧ IntAt l 1 ∧ IntAt l 2 ∧ IntAt l 3 ∧ IntAt l 4 ∧ IntAt l 5 ∧ IntAt l 6 ∧ IntAt l 7 ∧ IntAt l 8 ∧ True) : ∃ x : Ev, x.Wf ∧ l = x.cells := by
  obtain ⟨hl, ⟨x0, e0, w0⟩, ⟨x1, e1, w1⟩, ⟨x2, e2, w2⟩, ⟨x3, e3, w3⟩, ⟨x4, e4, w4⟩, ⟨x5, e5, w5⟩, ⟨x6, e6, w6⟩, ⟨x7, e7, w7⟩, ⟨x8, e8, w8⟩, -⟩ := h
  match l, hl with
  | [c0, c1, c2, c3, c4, c5, c6, c7, c8], _ =>
    simp at e0 e1 e2 e3 e4 e5 e6 e7 e8
    subst e0 e1 e2 e3 e4 e5 e6 e7 e8
    refine ⟨⟨x0, x1, x2, x3, x4, x5, x6, x7, x8⟩, ⟨wf_i64 w0, wf_i64 w1, wf_i64 w2, fun v hv => ?_⟩, rfl⟩
    simp [Ev.nums] at hv
    rcases hv with rfl | rfl | rfl | rfl | rfl | rfl
    · exact wf_i64 w3
    · exact wf_i64 w4
    · exact wf_i64 w5
    · exact wf_i64 w6
    · exact wf_i64 w7
    · exact wf_i64 w8
theorem openEv {P : Program} {W : World} {base : Nat} {r : Reach} {v : Value} {fs : Array Field} (hs : P.underlying 23 = some (.struct fs)) (hv : Value.okWide P W r base 23 v) (hP : P = Try.prog)
    {H : Type} {enc : TypeId × Value → H} {b0 : Nat} {spare : Nat → Bool} {held : Bool} {d : DataW H} {p : List MemPlace} (h : DataW.Trod enc P W b0 spare held 23 v d p) : ∃ x : Ev, x.Wf ∧ v = x.val := by
  obtain ⟨cs, rfl, hsz⟩ := okWide_struct hs hv
  subst hP
  obtain ⟨x, w, ho⟩ := ofEv (fitEv _ _ 0 (fit_of_Trod 2 h))
  refine ⟨x, w, ?_⟩
  have : cs.toList = x.cells := ho
  show Value.agg cs = Value.agg _
  congr 1
  exact Array.toList_inj.mp this
end Go.Proofs.Ytjmdoiakcakfoaa
namespace Go.Proofs.Ytjmdoiakcakfoaa
open Go.ChangeShapes Go.WideShapes Go.ChangeAt Go.RowKit Go.Ax
open Go.ChangeMaps (open_string shut_string)
set_option linter.unusedVariables false
theorem own3 : ownKnob Try.prog.godebug = none := by kernel_rfl
theorem laidOut3 : laidOutB Try.prog = true := by kernel_rfl
set_option maxRecDepth 100000 in
theorem lifted3 (os : Os) (started : os.Started) (H : Type) (enc : TypeId × Value → H) :
    ReturnsInHanded {} Try.checked os 3 .any (Rows.vmNilSpec.pre6 enc Try.prog Try.f3 Rows.vmNilRow.domain false) (Rows.vmNilSpec.post enc Try.prog Try.f3 false true false false) := by
  refine returnsInHanded_of_change (C := Try.checked) own3 started (by kernel_rfl) Try.func3
    (ChangeSpec.witness6 (enc := enc) (C := Try.checked) false ⟨#[], #[.agg #[.int .i64 0, .int .i64 0, .int .i64 0, .int .i64 0, .int .i64 0, .int .i64 0, .int .i64 0, .int .i64 0, .int .i64 0], .int .i64 0, .int .i64 0], []⟩ 8 (by kernel_rfl) (by kernel_rfl) (by kernel_rfl) (by kernel_rfl)) ?_
  intro W base args ds gs before hval0 hW hcnd _
  have hval : ∀ (j : Nat) t v, Try.f3.params[j]? = some t → args[j]? = some v → Value.okWide Try.prog W .any base t v := hval0
  have hW' := hW
  obtain ⟨p, q, hA0, hV, rfl, hfz, hnd⟩ := hW
  have hA : DataW.TrodAll enc Try.prog W 0 (fun _ => true) true Try.f3.params.toList args.toList ds p := hA0
  rw [Try.params3] at hA hval
  obtain ⟨v0, vs0, d0, ds0, p0, q0, hargs, rfl, rfl, h0, s0⟩ := trodAll_cons hA
  obtain ⟨v1, vs1, d1, ds1, p1, q1, rfl, rfl, rfl, h1, s1⟩ := trodAll_cons s0
  obtain ⟨v2, vs2, d2, ds2, p2, q2, rfl, rfl, rfl, h2, s2⟩ := trodAll_cons s1
  obtain ⟨rfl, rfl, rfl⟩ := trodAll_nil s2
  obtain rfl : args = #[v0, v1, v2] := by cases args; simp_all
  obtain ⟨rfl, rfl⟩ := trodVars_none hV
  have k0 := h0
  have lt0 : ∀ x ∈ p0, x.block < W.heap.size := by obtain ⟨m, hm⟩ := k0; exact DataW.trod_lt m _ _ _ hm
  have k1 := h1
  have lt1 : ∀ x ∈ p1, x.block < W.heap.size := by obtain ⟨m, hm⟩ := k1; exact DataW.trod_lt m _ _ _ hm
  have k2 := h2
  have lt2 : ∀ x ∈ p2, x.block < W.heap.size := by obtain ⟨m, hm⟩ := k2; exact DataW.trod_lt m _ _ _ hm
  obtain ⟨a0, w0, rfl⟩ := openEv Try.underlying23 (hval 0 23 v0 rfl rfl) rfl h0
  obtain ⟨a1, rfl, -, -, r1⟩ := open_int Try.underlying2 (hval 1 2 v1 rfl rfl) h1
  obtain ⟨a2, rfl, -, -, r2⟩ := open_int Try.underlying3 (hval 2 3 v2 rfl rfl) h2
  clear hA0 hval0
  refine (below_of_tr (f := 3) (t3 a0 a1 a2 _)).mono fun e W' ⟨he, bel⟩ => ?_
  subst he
  exact ⟨_, rfl, _, _, _, [], _, [], hW', trodAll_mk1 (shut_bool Try.underlying4 _), (trodAll_cons_mk (Below.trod laidOut3 (by kernel_rfl) (of_decide_eq_true (by kernel_rfl)) k0 bel lt0) (trodAll_cons_mk (Below.trod laidOut3 (by kernel_rfl) (of_decide_eq_true (by kernel_rfl)) k1 bel lt1) (trodAll_cons_mk (Below.trod laidOut3 (by kernel_rfl) (of_decide_eq_true (by kernel_rfl)) k2 bel lt2) trodAll_mk0))), rfl, bel.frame _, fun h => by cases h⟩
theorem over3 : Rows.vmNilRow.holds Try.pinned (OpenSpec.ofChange Rows.vmNilSpec) :=
  OpenClaim.holds_of_wide 3 Try.f3 rfl rfl rfl rfl rfl rfl rfl ⟨rfl, rfl, rfl, rfl, rfl⟩ rfl rfl rfl rfl rfl (by kernel_rfl) Try.func3 (by kernel_rfl)
    (of_decide_eq_true (by kernel_rfl)) (by unfold Func.isWrapper; first | (rw [if_pos (by decide +kernel)]; kernel_rfl) | (rw [if_neg (by decide +kernel)]; exact ⟨rfl, rfl⟩))
    (fun os started H enc _ => lifted3 os started H enc)
theorem provedVmNil : Rows.VmNilSaid := over3
end Go.Proofs.Ytjmdoiakcakfoaa
