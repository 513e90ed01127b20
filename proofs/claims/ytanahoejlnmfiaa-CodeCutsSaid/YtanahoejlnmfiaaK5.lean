/- Code: the program's own rules are the document's: contracts of Operand, Pure, within, operand, ends, options, Find, named, instruction, Check. Conditions: the program lies in memory as 'HasP' says. -/
import Derived.Test.YtanahoejlnmfiaaK4
import Derived.Test.YtanahoejlnmfiaaV3
set_option maxRecDepth 100000
namespace Go.Ax

def Prg.operand (p : Prg) (n : Nat) (c a : Int) : Bool :=
  !(!opd c && a != 0 || opd c && decide (mostB p.funcs.length p.opts.length n c ≥ 0) && (decide (a < 0) || decide (a ≥ mostB p.funcs.length p.opts.length n c))) && !(c == 27 && p.kindAt a != 1)
def withinB (a n : Int) : Bool := decide (a ≥ 0) && decide (a < n)
theorem within_eq {a n : Int} : (decide (a < 0) || decide (a ≥ n)) = !withinB a n := by
  unfold withinB
  rw [Bool.eq_iff_iff]; simp <;> omega
theorem operand_none (p : Prg) (n : Nat) {c : Int} (a : Int) (h : opd c = false) : p.operand n c a = (a == 0) := by
  have h27 : (c == 27) = false := by
    cases e : (c == 27) with
    | false => rfl
    | true => have : c = 27 := by simpa using e
              subst this; cases h
  unfold Prg.operand; rw [h, h27]; simp; rfl
theorem operand_any (p : Prg) (n : Nat) (a : Int) : p.operand n 0 a = true := by
  unfold Prg.operand
  have : mostB p.funcs.length p.opts.length n 0 = -1 := rfl
  rw [this]; rfl
theorem operand_most (p : Prg) (n : Nat) {c : Int} (a : Int) (h : opd c = true) (m : Nat) (hm : mostB p.funcs.length p.opts.length n c = m) : p.operand n c a = (withinB a m && !(c == 27 && p.kindAt a != 1)) := by
  unfold Prg.operand; rw [h, hm, within_eq]
  have : decide ((m : Int) ≥ 0) = true := by simp
  rw [this]; simp
theorem right_eq (p : Prg) (i : Nat) (f : Fnc) (k : Nat) (c a : Int) : p.right i f k c a =
    if (decide (c < 0) || decide (c > 37) || !p.operand f.ops.length c a) = true then false else
    if ((f.kind == 2 || f.kind == 4) && !pureB c) = true then false else
    if (c == 35 && (i : Int) != 0) = true then false else
    (decide ((k : Int) < (f.ops.length : Int) - 1) || (c == 13 || c == 35 || c == 36 || c == 37)) := by
  unfold Prg.right Prg.operand
  generalize (decide (c < 0) || decide (c > 37)) = A
  generalize (!opd c && a != 0 || opd c && decide (mostB p.funcs.length p.opts.length f.ops.length c ≥ 0) && (decide (a < 0) || decide (a ≥ mostB p.funcs.length p.opts.length f.ops.length c))) = B
  generalize (c == 27 && p.kindAt a != 1) = C
  generalize ((f.kind == 2 || f.kind == 4) && !pureB c) = D
  generalize (c == 35 && (i : Int) != 0) = E
  cases A <;> cases B <;> cases C <;> cases D <;> cases E <;> simp
theorem scan_first {α : Type} (g : Nat → Option α) : ∀ n, (∀ k, k < n → g k = none) ∨ ∃ j r, j < n ∧ (∀ k, k < j → g k = none) ∧ g j = some r
  | 0 => .inl fun k hk => absurd hk (by omega)
  | n + 1 => by
    rcases scan_first g n with h | ⟨j, r, h1, h2, h3⟩
    · cases e : g n with
      | none =>
        refine .inl fun k hk => ?_
        by_cases hkn : k = n
        · subst hkn; exact e
        · exact h k (by omega)
      | some r => exact .inr ⟨n, r, by omega, h, e⟩
    · exact .inr ⟨j, r, by omega, h2, h3⟩
def Prg.namedP (p : Prg) (i : Nat) (f : Fnc) : Bool :=
  if (decide (f.kind < 0) || decide (f.kind > 4) || !(f.kind == 0) == ((i : Int) == 0)) = true then false else
  if decide (f.kind ≤ 1) = true then f.name == 0 else
  if (decide (f.name < 0) || decide (f.name ≥ 8) || p.find f.kind f.name != i) = true then false else
  (f.kind != 4 || decide (p.find 3 f.name ≥ 0))
theorem find_self {p : Prg} {i : Nat} {f : Fnc} (hf : p.funcs[i]? = some f) : (p.find f.kind f.name = i) ↔ scan i (p.hit f.kind f.name) = none := by
  have hi := get_lt hf
  have at_i : p.hit f.kind f.name i = some (i : Int) := by unfold Prg.hit; rw [hf]; simp
  rcases scan_first (p.hit f.kind f.name) i with h | ⟨j, r, h1, h2, h3⟩
  · rw [scan_none h, find_eq, scan_hit hi h at_i]; simp
  · have e := scan_hit (n := i) h1 h2 h3
    have e2 := scan_hit (n := p.funcs.length) (by omega) h2 h3
    rw [e, find_eq, e2]
    have : r = (j : Int) := by
      unfold Prg.hit at h3
      split at h3
      · split at h3
        · cases h3; rfl
        · cases h3
      · cases h3
    subst this
    simp; omega
theorem clash_hit (p : Prg) (f : Fnc) (h : 2 ≤ f.kind) (j : Nat) : p.clash f j = none ↔ p.hit f.kind f.name j = none := by
  unfold Prg.clash Prg.hit
  have : decide (f.kind ≥ 2) = true := decide_eq_true h
  rw [this]
  cases p.funcs[j]? with
  | none => simp
  | some g => simp only [Bool.true_and]; split <;> simp
theorem named_eq {p : Prg} {i : Nat} {f : Fnc} (hf : p.funcs[i]? = some f) : p.named i f = (p.namedP i f && decide ((f.ops.length : Int) ≥ 1) && decide ((f.ops.length : Int) ≤ 128)) := by
  unfold Prg.named Prg.namedP
  have e0 : (decide (f.kind < 0) || decide (f.kind > 4) || f.kind == 0 && (i : Int) != 0 || f.kind != 0 && (i : Int) == 0) = (decide (f.kind < 0) || decide (f.kind > 4) || !(f.kind == 0) == ((i : Int) == 0)) := by
    have e1 : (f.kind != 0) = !(f.kind == 0) := rfl
    have e2 : ((i : Int) != 0) = !((i : Int) == 0) := rfl
    rw [e1, e2]
    generalize decide (f.kind < 0) = a; generalize decide (f.kind > 4) = b; generalize (f.kind == 0) = c; generalize ((i : Int) == 0) = d
    cases a <;> cases b <;> cases c <;> cases d <;> rfl
  rw [e0]
  split
  · rfl
  · by_cases hk : f.kind ≤ 1
    · rw [if_pos (decide_eq_true hk)]
      have hs : scan i (p.clash f) = none := scan_none fun j _ => by
        unfold Prg.clash
        have : decide (f.kind ≥ 2) = false := decide_eq_false (by omega)
        rw [this]; cases p.funcs[j]? <;> simp
      rw [hs]
      have h4 : (f.kind == 4) = false := by simp; omega
      have h2 : decide (f.kind < 2) = true := decide_eq_true (by omega)
      rw [h4, h2]
      by_cases hn : f.name = 0
      · rw [hn]; simp
      · have : (f.name == 0) = false := by simpa using hn
        simp [this, hn]
    · rw [if_neg (show ¬ decide (f.kind ≤ 1) = true by simpa using hk)]
      have h2 : decide (f.kind < 2) = false := decide_eq_false (by omega)
      rw [h2]
      have e8 : (decide (f.name < 0) || decide (f.name > 7)) = (decide (f.name < 0) || decide (f.name ≥ 8)) := by rw [Bool.eq_iff_iff]; simp <;> omega
      simp only [Bool.false_and, Bool.false_or]
      rw [e8]
      by_cases hn : (decide (f.name < 0) || decide (f.name ≥ 8)) = true
      · rw [if_pos hn, hn]; simp
      · have hn' : (decide (f.name < 0) || decide (f.name ≥ 8)) = false := by simpa using hn
        rw [if_neg hn, hn', Bool.false_or]
        have fs := find_self hf
        have cs : scan i (p.clash f) = none ↔ scan i (p.hit f.kind f.name) = none := by
          constructor
          · intro h; exact scan_none fun j hj => (clash_hit p f (by omega) j).1 (scan_all h j hj)
          · intro h; exact scan_none fun j hj => (clash_hit p f (by omega) j).2 (scan_all h j hj)
        cases hs : scan i (p.clash f) with
        | some u =>
          have : p.find f.kind f.name ≠ i := fun e => by rw [cs.2 (fs.1 e)] at hs; cases hs
          have : (p.find f.kind f.name != i) = true := by simpa using this
          rw [if_pos this]; rfl
        | none =>
          have : (p.find f.kind f.name != i) = false := by simpa using fs.2 (cs.1 hs)
          rw [this]
          simp only [Bool.false_eq_true, if_false]
          have h4 : (f.kind != 4) = !(f.kind == 4) := rfl
          have hd : decide (p.find 3 f.name ≥ 0) = !decide (p.find 3 f.name < 0) := by rw [Bool.eq_iff_iff]; simp
          rw [h4, hd]
          cases (f.kind == 4) <;> cases decide (p.find 3 f.name < 0) <;> simp
end Go.Ax
namespace Go.Proofs.Ytanahoejlnmfiaa
open Go.Ax

theorem t28 (op : Int) (H : Heap) : Tr Try.prog 28 #[.int .i64 op] H (fun v H' => v = .bool (opd op) ∧ Sub H H') := by
  apply v28; unfold F28
  have k : ∀ b, b = opd op → (Value.bool b = .bool (opd op) ∧ Sub H H) := fun b hb => ⟨by rw [hb], Sub.refl _⟩
  have z : ∀ n : Int, opd n = true → (op == n) = true → true = opd op := fun n h e => by have : op = n := by simpa using e
                                                                                         rw [this, h]
  refine ⟨fun e => k _ (z _ rfl e), fun e0 => ⟨fun e => k _ (z _ rfl e), fun e1 => ⟨fun e => k _ (z _ rfl e), fun e2 => ⟨fun e => k _ (z _ rfl e), fun e3 => ⟨fun e => k _ (z _ rfl e), fun e4 => ⟨fun e => k _ (z _ rfl e), fun e5 => ⟨fun e => k _ (z _ rfl e), fun e6 => ⟨fun e => k _ (z _ rfl e), fun e7 => ⟨fun e => k _ (z _ rfl e), fun e8 => ⟨fun e => k _ (z _ rfl e), fun e9 => ⟨fun e => k _ (z _ rfl e), fun e10 => ⟨fun e => k _ (z _ rfl e), fun e11 => k _ ?_⟩⟩⟩⟩⟩⟩⟩⟩⟩⟩⟩⟩
  unfold opd; rw [e0, e1, e2, e3, e4, e5, e6, e7, e8, e9, e10, e11]; rfl
theorem t30 (op : Int) (H : Heap) : Tr Try.prog 30 #[.int .i64 op] H (fun v H' => v = .bool (pureB op) ∧ Sub H H') := by
  apply v30; unfold F30
  have k : ∀ b, b = pureB op → (Value.bool b = .bool (pureB op) ∧ Sub H H) := fun b hb => ⟨by rw [hb], Sub.refl _⟩
  have z : ∀ n : Int, pureB n = true → (op == n) = true → true = pureB op := fun n h e => by have : op = n := by simpa using e
                                                                                             rw [this, h]
  refine ⟨fun e => k _ (z _ rfl e), fun e0 => ⟨fun e => k _ (z _ rfl e), fun e1 => ⟨fun e => k _ (z _ rfl e), fun e2 => ⟨fun e => k _ (z _ rfl e), fun e3 => ⟨fun e => k _ (z _ rfl e), fun e4 => k _ ?_⟩⟩⟩⟩⟩
  unfold pureB; rw [e0, e1, e2, e3, e4]; simp
theorem t65 (op : Int) (H : Heap) : Tr Try.prog 65 #[.int .i64 op] H (fun v H' => v = .bool (op == 13 || op == 35 || op == 36 || op == 37) ∧ Sub H H') := by
  apply v65; unfold F65; exact ⟨rfl, Sub.refl _⟩
theorem t72 (a n : Int) (H : Heap) : Tr Try.prog 72 #[.int .i64 a, .int .i64 n] H (fun v H' => v = .bool (withinB a n) ∧ Sub H H') := by
  apply v72; unfold F72; exact ⟨rfl, Sub.refl _⟩
theorem kind_at {H : Heap} {fA oA : Option Addr} {fn on : Nat} {p : Prg} (h : HasP H fA fn oA on p) (x : Int) : ∃ (a : Addr) (y : Int), (withinB x fn = true → fA = some a ∧ 0 ≤ x ∧ x < fn) ∧ (withinB x fn = true → At H ((a.add (x.toNat * 3)).add 0) [.int .i64 y]) ∧ (withinB x fn && y == 1) = (withinB x fn && !(p.kindAt x != 1)) := by
  by_cases hw : withinB x fn = true
  · have hl := h.fns.len
    have hx : 0 ≤ x ∧ x < fn := by unfold withinB at hw; simpa using hw
    obtain ⟨g, hg⟩ := get_some (l := p.funcs) (i := x.toNat) (by omega)
    obtain ⟨a, B, m, c, ha, hat, -⟩ := h.fns.at_ _ g hg
    refine ⟨a, g.kind, fun _ => ⟨ha, hx⟩, fun _ => at_head hat, ?_⟩
    have : p.kindAt x = g.kind := by unfold Prg.kindAt; rw [hg]
    rw [this]; simp [bne]
  · have hw : withinB x fn = false := by simpa using hw
    refine ⟨⟨0, 0, none⟩, 0, fun e => ?_, fun e => ?_, ?_⟩
    · rw [hw] at e; cases e
    · rw [hw] at e; cases e
    · rw [hw]; rfl
theorem t64 {H : Heap} {fA oA : Option Addr} {fn fc on oc : Nat} {p : Prg} (h : HasP H fA fn oA on p) (k n : Int) (A : Option Addr) (m c : Nat) (op x : Int) :
    Tr Try.prog 64 #[.agg #[.slice fA fn fc, .slice oA on oc], .agg #[.int .i64 k, .int .i64 n, .slice A m c], .agg #[.int .i64 op, .int .i64 x]] H (fun v H' => v = .bool (p.operand m op x) ∧ Sub H H') := by
  apply v64; unfold F64
  have hl := h.fns.len; have hol := h.opts.len
  have w : ∀ (c m' : Nat), op = c → c ≠ 27 → opd op = true → mostB p.funcs.length p.opts.length m op = m' → Value.bool (withinB x m') = .bool (p.operand m op x) := fun c m' hc h27 ho hm => by
    rw [operand_most p m x ho m' hm]
    have : (op == 27) = false := by simp; omega
    rw [this]; simp
  refine ⟨fun e => ?_, fun e0 => ⟨fun e => ?_, fun e1 => ⟨fun e => ?_, fun e2 => ⟨fun e => ?_, fun e3 => ⟨fun e => ?_, fun e4 => ⟨fun e => ?_, fun e5 => ⟨fun e => ?_, fun e6 => ⟨fun e => ?_, fun e7 => ⟨fun e => ?_, fun e8 => ⟨fun e => ?_, fun e9 => ⟨fun e => ?_, fun e10 => ⟨fun e => ?_, fun e11 => ?_⟩⟩⟩⟩⟩⟩⟩⟩⟩⟩⟩⟩
  · have : op = 0 := by simpa using e
    subst this; exact ⟨by rw [operand_any], Sub.refl _⟩
  · have : op = 13 := by simpa using e
    subst this; exact ⟨_, t72 .., w 13 m rfl (by decide) rfl rfl, Sub.refl _⟩
  · have : op = 14 := by simpa using e
    subst this; exact ⟨_, t72 .., w 14 m rfl (by decide) rfl rfl, Sub.refl _⟩
  · have : op = 15 := by simpa using e
    subst this; exact ⟨_, t72 .., w 15 16 rfl (by decide) rfl rfl, Sub.refl _⟩
  · have : op = 16 := by simpa using e
    subst this; exact ⟨_, t72 .., w 16 16 rfl (by decide) rfl rfl, Sub.refl _⟩
  · have : op = 20 := by simpa using e
    subst this; exact ⟨_, t72 .., w 20 on rfl (by decide) rfl (by rw [hol]; rfl), Sub.refl _⟩
  · have : op = 22 := by simpa using e
    subst this; exact ⟨_, t72 .., w 22 8 rfl (by decide) rfl rfl, Sub.refl _⟩
  · have : op = 25 := by simpa using e
    subst this; exact ⟨_, t72 .., w 25 8 rfl (by decide) rfl rfl, Sub.refl _⟩
  · have : op = 26 := by simpa using e
    subst this; exact ⟨_, t72 .., w 26 8 rfl (by decide) rfl rfl, Sub.refl _⟩
  · have : op = 34 := by simpa using e
    subst this; exact ⟨_, t72 .., w 34 8 rfl (by decide) rfl rfl, Sub.refl _⟩
  · have : op = 27 := by simpa using e
    subst this
    obtain ⟨a, y, h1, h2, h3⟩ := kind_at h x
    refine ⟨_, t72 .., a, h1, y, h2, ?_, Sub.refl _⟩
    rw [operand_most p m x rfl fn (by rw [hl]; rfl)]
    show Value.bool (withinB x fn && y == 1) = _
    rw [h3]; rfl
  · have : op = 33 := by simpa using e
    subst this; exact ⟨_, t72 .., w 33 4 rfl (by decide) rfl rfl, Sub.refl _⟩
  · refine ⟨?_, Sub.refl _⟩
    rw [operand_none p m x (by unfold opd; rw [e0, e1, e2, e3, e4, e5, e6, e7, e8, e9, e10, e11]; rfl)]
theorem t36 {H : Heap} {fA oA : Option Addr} {fn fc on oc : Nat} {p : Prg} (h : HasP H fA fn oA on p) (kind name : Int) :
    Tr Try.prog 36 #[.agg #[.slice fA fn fc, .slice oA on oc], .int .i64 kind, .int .i64 name] H (fun v H' => v = .int .i64 (p.find kind name) ∧ Sub H H') := by
  have hl := h.fns.len; have hb := h.fns.big
  apply v36; unfold F36
  refine ⟨RSc H p.funcs.length (p.hit kind name), fun i _ => ((p.funcs.length : Int) - i).toNat, RSc.zero, fun i H1 r => ?_⟩
  obtain ⟨k, rfl, hk, hs⟩ := r.k
  have hH := r.heap; subst hH
  refine ⟨fun hlt => ?_, fun hge => ?_⟩
  · have hlt : (k : Int) < fn := of_decide_eq_true hlt
    obtain ⟨g, hg⟩ := get_some (l := p.funcs) (i := k) (by omega)
    obtain ⟨a, B, m, c, ha, hat, -⟩ := h.fns.at_ k g hg
    refine ⟨a, ⟨ha, by omega, hlt⟩, _, _, _, _, _, hat, fun e => ⟨?_, Sub.refl _⟩, fun e => ?_⟩
    · rw [find_eq, scan_hit (k := k) (r := (k : Int)) (by omega) hs (by unfold Prg.hit; rw [hg]; simp only; rw [if_pos e])]
    · exact RSc.next r rfl (by omega) (by omega) (by unfold Prg.hit; rw [hg]; simp only; rw [if_neg (by rw [e]; simp)])
  · have hge : ¬ (k : Int) < fn := of_decide_eq_false hge
    refine ⟨?_, Sub.refl _⟩
    rw [find_eq, scan_none (fun j hj => hs j (by omega))]
theorem t44 (o : O) (H : Heap) : Tr Try.prog 44 #[o.val] H (fun v H' => v = .bool (okO o) ∧ Sub H H') := by
  apply v44; unfold F44
  intro b hb Hn hHn
  subst hHn
  refine ⟨R47 o _, fun i _ => (6 - i).toNat, ⟨rfl, 0, rfl, by omega, fun j x hj => absurd hj (by omega)⟩, fun i H1 r => ?_⟩
  obtain ⟨k, rfl, hk, hs⟩ := r.k
  have hsub : Sub H H1 := by rw [r.heap]; exact Sub.upd_new hb
  refine ⟨fun hlt => ?_, fun hge => ⟨?_, hsub⟩⟩
  · have hlt : (k : Int) < 6 := of_decide_eq_true hlt
    obtain ⟨y, hx⟩ := get_some (l := o.six) (i := k) (show k < 6 by omega)
    have hat : At H1 (({ block := b, off := 0 } : Addr).add ((k : Int).toNat * 1)) [.int .i64 y] := by
      rw [r.heap]
      apply at_new
      intro j v hj
      have : k = 0 ∨ k = 1 ∨ k = 2 ∨ k = 3 ∨ k = 4 ∨ k = 5 := by omega
      cases j with
      | succ j => simp at hj
      | zero => rcases this with rfl | rfl | rfl | rfl | rfl | rfl <;> (simp [O.six] at hx; subst hx; simpa using hj)
    refine ⟨_, ⟨rfl, by omega, hlt⟩, _, hat, fun e => ⟨?_, hsub⟩, fun e => ?_⟩
    · rw [not_smallB] at e
      have : okO o = false := by
        have e : smallB y = false := by simpa using e
        have : k = 0 ∨ k = 1 ∨ k = 2 ∨ k = 3 ∨ k = 4 ∨ k = 5 := by omega
        unfold okO
        rcases this with rfl | rfl | rfl | rfl | rfl | rfl <;> (simp [O.six] at hx; subst hx; simp [e])
      rw [this]
    · rw [not_smallB] at e
      have e : smallB y = true := by simpa using e
      rw [wrapi (x := (k : Int) + 1) (by omega) (by omega)]
      refine ⟨⟨r.heap, k + 1, by omega, by omega, fun j x hj hx' => ?_⟩, show (6 - ((k : Int) + 1)).toNat < (6 - (k : Int)).toNat by omega⟩
      by_cases hjk : j = k
      · subst hjk; rw [hx] at hx'; cases hx'; exact e
      · exact hs j x (by omega) hx'
  · have hge : ¬ (k : Int) < 6 := of_decide_eq_false hge
    have : k = 6 := by omega
    subst this
    have a0 := hs 0 _ (by omega) rfl; have a1 := hs 1 _ (by omega) rfl; have a2 := hs 2 _ (by omega) rfl
    have a3 := hs 3 _ (by omega) rfl; have a4 := hs 4 _ (by omega) rfl; have a5 := hs 5 _ (by omega) rfl
    unfold okO; rw [a0, a1, a2, a3, a4, a5]; simp
theorem t45 {H : Heap} {fA oA : Option Addr} {fn fc on oc : Nat} {p : Prg} (h : HasP H fA fn oA on p) (i : Nat) (f : Fnc) (hf : p.funcs[i]? = some f) :
    Tr Try.prog 45 #[.agg #[.slice fA fn fc, .slice oA on oc], .int .i64 i] H (fun v H' => v = .bool (p.namedP i f) ∧ Sub H H') := by
  have hl := h.fns.len; have hi := get_lt hf
  apply v45; unfold F45
  obtain ⟨a, B, m, c, ha, hat, ho⟩ := h.fns.at_ i f hf
  unfold Prg.namedP
  refine ⟨a, ⟨ha, by omega, by omega⟩, _, _, _, _, _, by simpa using hat, fun e => ⟨by rw [if_pos e], Sub.refl _⟩, fun e => ⟨fun e2 => ⟨by rw [if_neg (by rw [e]; simp), if_pos e2], Sub.refl _⟩, fun e2 => ?_⟩⟩
  rw [if_neg (by rw [e]; simp), if_neg (by rw [e2]; simp)]
  refine ⟨_, fun _ => t36 h _ _, fun e3 => ⟨by rw [if_pos e3], Sub.refl _⟩, fun e3 => ?_⟩
  rw [if_neg (by rw [e3]; simp)]
  exact ⟨_, fun _ => t36 h _ _, rfl, Sub.refl _⟩
theorem t46 {H : Heap} {fA oA : Option Addr} {fn fc on oc : Nat} {p : Prg} (h : HasP H fA fn oA on p) (i : Nat) (f : Fnc) (hf : p.funcs[i]? = some f) (k : Nat) (op x : Int) (hk : f.ops[k]? = some (op, x)) :
    Tr Try.prog 46 #[.agg #[.slice fA fn fc, .slice oA on oc], .int .i64 i, .int .i64 k] H (fun v H' => v = .bool (p.right i f k op x) ∧ Sub H H') := by
  have hl := h.fns.len; have hi := get_lt hf
  apply v46; unfold F46
  obtain ⟨a, B, m, c, ha, hat, ho⟩ := h.fns.at_ i f hf
  have hm := ho.len; have hmb := ho.big; have hk' := get_lt hk
  obtain ⟨a', ha', hat'⟩ := ho.at_ k _ _ hk
  refine ⟨a, ⟨ha, by omega, by omega⟩, _, _, _, _, _, by simpa using hat, a', ⟨ha', by omega, by omega⟩, _, _, by simpa using hat', ?_⟩
  rw [right_eq, ← hm]
  refine ⟨_, fun _ => t64 h .., fun e => ⟨by rw [if_pos e], Sub.refl _⟩, fun e => ?_⟩
  rw [if_neg (by rw [e]; simp)]
  refine ⟨_, fun _ => t30 .., fun e2 => ⟨by rw [if_pos e2], Sub.refl _⟩, fun e2 => ?_⟩
  rw [if_neg (by rw [e2]; simp)]
  refine ⟨fun e3 => ⟨by rw [if_pos e3], Sub.refl _⟩, fun e3 => ⟨_, fun _ => t65 .., ?_, Sub.refl _⟩⟩
  rw [if_neg (by rw [e3]; simp), wrapi (x := (m : Int) - 1) (by omega) (by omega)]
theorem t33 {H : Heap} {fA oA : Option Addr} {fn fc on oc : Nat} {p : Prg} (h : HasP H fA fn oA on p) :
    Tr Try.prog 33 #[.agg #[.slice fA fn fc, .slice oA on oc]] H (fun v H' => v = .tuple #[.int .i64 p.check.1, .int .i64 p.check.2.1, .int .i64 p.check.2.2] ∧ Sub H H') := by
  have hl := h.fns.len; have hb := h.fns.big; have hol := h.opts.len; have hob := h.opts.big
  apply v33; unfold F33 Prg.check
  rw [← hl, ← hol]
  have e0 : (decide ((fn : Int) < 1) || decide ((fn : Int) > 16) || decide ((on : Int) > 8)) = ((fn : Int) == 0 || decide ((fn : Int) > 16) || decide ((on : Int) > 8)) := by
    have : decide ((fn : Int) < 1) = ((fn : Int) == 0) := by rw [Bool.eq_iff_iff]; simp <;> omega
    rw [this]
  rw [e0]
  refine ⟨fun e => ⟨by rw [if_pos e], Sub.refl _⟩, fun e => ?_⟩
  rw [if_neg (by rw [e]; simp)]
  refine ⟨RSc H on p.badOpt, fun i _ => ((on : Int) - i).toNat, RSc.zero, fun x H1 r => ?_⟩
  obtain ⟨k, rfl, hk, hs⟩ := r.k
  have hH := r.heap; subst hH
  refine ⟨fun hlt => ?_, fun hge => ?_⟩
  · have hlt : (k : Int) < on := of_decide_eq_true hlt
    obtain ⟨o, ho⟩ := get_some (l := p.opts) (i := k) (by omega)
    obtain ⟨a, ha, hat⟩ := h.opts.at_ k o ho
    refine ⟨a, ⟨ha, by omega, hlt⟩, _, _, _, _, _, _, _, _, _, _, _, hat, _, t44 o H1, fun e2 => ⟨?_, Sub.refl _⟩, fun e2 => ?_⟩
    · have e2 : okO o = false := by simpa using e2
      rw [scan_hit (k := k) (by omega) hs (by unfold Prg.badOpt; rw [ho]; simp only; rw [if_neg (by rw [e2]; simp)])]
    · have e2 : okO o = true := by simpa using e2
      exact RSc.next r rfl (by omega) (by omega) (by unfold Prg.badOpt; rw [ho]; simp only; rw [if_pos e2])
  · have hge : ¬ (k : Int) < on := of_decide_eq_false hge
    rw [scan_none (n := on) (fun j hj => hs j (by omega))]
    clear r hs
    refine ⟨fun x y i H2 => (x = -1 ∧ y = -1) ∧ RSc H1 fn p.badFn i H2, fun _ _ i _ => ((fn : Int) - i).toNat, ⟨⟨rfl, rfl⟩, RSc.zero⟩, fun x y z H2 ⟨⟨hx, hy⟩, r⟩ => ?_⟩
    subst hx hy
    obtain ⟨i, rfl, hi, hs⟩ := r.k
    have hH := r.heap; subst hH
    refine ⟨fun hlt => ?_, fun hge => ?_⟩
    · have hlt : (i : Int) < fn := of_decide_eq_true hlt
      obtain ⟨f, hf⟩ := get_some (l := p.funcs) (i := i) (by omega)
      obtain ⟨a, B, m, c, ha, hat, ho⟩ := h.fns.at_ i f hf
      have hm := ho.len; have hmb := ho.big
      have en : (!p.namedP i f || decide ((m : Int) < 1) || decide ((m : Int) > 128)) = !p.named i f := by
        rw [named_eq hf, ← hm]
        have d1 : decide ((m : Int) < 1) = !decide ((m : Int) ≥ 1) := by rw [Bool.eq_iff_iff]; simp <;> omega
        have d2 : decide ((m : Int) > 128) = !decide ((m : Int) ≤ 128) := by rw [Bool.eq_iff_iff]; simp
        rw [d1, d2]; simp
      refine ⟨a, ⟨ha, by omega, hlt⟩, _, _, _, _, _, by simpa using hat, _, t45 h i f hf, ?_⟩
      rw [en]
      refine ⟨fun e2 => ct (by simp) ⟨?_, Sub.refl _⟩, fun e2 => ?_⟩
      · have e2 : p.named i f = false := by simpa using e2
        rw [scan_hit (k := i) (by omega) hs (by unfold Prg.badFn; rw [hf]; simp only; rw [if_neg (by rw [e2]; simp)])]
      · have e2 : p.named i f = true := by simpa using e2
        have bad : p.badFn i = scan f.ops.length (p.badOp i f) := by unfold Prg.badFn; rw [hf]; simp only; rw [if_pos e2]
        refine ⟨fun x y k H3 => (x = -1 ∧ y = -1) ∧ RSc H2 m (p.badOp i f) k H3, fun _ _ k _ => ((m : Int) - k).toNat, ⟨⟨rfl, rfl⟩, RSc.zero⟩, fun x y z H3 ⟨⟨hx, hy⟩, r3⟩ => ?_⟩
        subst hx hy
        obtain ⟨k3, rfl, hk3, hs3⟩ := r3.k
        have hH := r3.heap; subst hH
        refine ⟨fun hlt3 => ?_, fun hge3 => ?_⟩
        · have hlt3 : (k3 : Int) < m := of_decide_eq_true hlt3
          obtain ⟨⟨op, x⟩, hop⟩ := get_some (l := f.ops) (i := k3) (by omega)
          refine ⟨_, t46 h i f hf k3 op x hop, fun e3 => ct (by simp) ⟨?_, Sub.refl _⟩, fun e3 => ?_⟩
          · have e3 : p.right i f k3 op x = false := by simpa using e3
            have hb : p.badFn i = some (40, (i : Int), (k3 : Int)) := by
              rw [bad]
              exact scan_hit (k := k3) (by omega) hs3 (by unfold Prg.badOp; rw [hop]; simp only; rw [if_neg (by rw [e3]; simp)])
            rw [scan_hit (k := i) (by omega) hs hb]
          · have e3 : p.right i f k3 op x = true := by simpa using e3
            obtain ⟨n1, n2⟩ := RSc.next r3 rfl (by omega) (by omega) (by unfold Prg.badOp; rw [hop]; simp only; rw [if_pos e3])
            exact ⟨⟨⟨rfl, rfl⟩, n1⟩, n2⟩
        · have hge3 : ¬ (k3 : Int) < m := of_decide_eq_false hge3
          obtain ⟨n1, n2⟩ := RSc.next r rfl (by omega) (by omega) (by rw [bad]; exact scan_none fun j hj => hs3 j (by omega))
          exact ⟨⟨⟨rfl, rfl⟩, n1⟩, n2⟩
    · have hge : ¬ (i : Int) < fn := of_decide_eq_false hge
      rw [scan_none (n := fn) (fun j hj => hs j (by omega))]
      exact cf (by decide) ⟨rfl, Sub.refl _⟩
end Go.Proofs.Ytanahoejlnmfiaa
