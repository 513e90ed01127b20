/- Code: the contracts of the document's Operand, Pure, most, right, options, Find, named, Check. Conditions: the program lies in memory as 'HasP' says. -/
import Derived.Test.YtanahoejlnmfiaaK3
import Derived.Test.YtanahoejlnmfiaaV2
set_option maxRecDepth 100000
namespace Go.Proofs.Ytanahoejlnmfiaa
open Go.Ax

theorem t29 (op : Int) (H : Heap) : Tr Try.prog 29 #[.int .i64 op] H (fun v H' => v = .bool (opd op) ∧ Sub H H') := by
  apply v29; unfold F29; exact ⟨rfl, Sub.refl _⟩
theorem t31 (op : Int) (H : Heap) : Tr Try.prog 31 #[.int .i64 op] H (fun v H' => v = .bool (pureB op) ∧ Sub H H') := by
  apply v31; unfold F31; exact ⟨rfl, Sub.refl _⟩
theorem f66 (fA : Option Addr) (fn fc : Nat) (oA : Option Addr) (on oc : Nat) (k n : Int) (A : Option Addr) (m c : Nat) (op : Int) (H : Heap) (K : Value → Heap → Prop) (h : K (.int .i64 (mostB fn on m op)) H) :
    F66 fA fn fc oA on oc k n A m c op H K := by
  unfold mostB at h
  have cs : op = 0 ∨ op = 13 ∨ op = 14 ∨ op = 15 ∨ op = 16 ∨ op = 20 ∨ op = 22 ∨ op = 25 ∨ op = 26 ∨ op = 34 ∨ op = 27 ∨ op = 33 ∨
      (op ≠ 0 ∧ op ≠ 13 ∧ op ≠ 14 ∧ op ≠ 15 ∧ op ≠ 16 ∧ op ≠ 20 ∧ op ≠ 22 ∧ op ≠ 25 ∧ op ≠ 26 ∧ op ≠ 34 ∧ op ≠ 27 ∧ op ≠ 33) := by omega
  unfold F66
  rcases cs with rfl | rfl | rfl | rfl | rfl | rfl | rfl | rfl | rfl | rfl | rfl | rfl | ⟨g0, g1, g2, g3, g4, g5, g6, g7, g8, g9, g10, g11⟩
  · simpa using h
  · simpa using h
  · simpa using h
  · simpa using h
  · simpa using h
  · simpa using h
  · simpa using h
  · simpa using h
  · simpa using h
  · simpa using h
  · simpa using h
  · simpa using h
  · have h' : K (.int .i64 0) H := by simpa [g0, g1, g2, g3, g4, g5, g6, g7, g8, g9, g10, g11] using h
    simp [g0, g1, g2, g3, g4, g5, g6, g7, g8, g9, g10, g11, h']
theorem t66 (fA : Option Addr) (fn fc : Nat) (oA : Option Addr) (on oc : Nat) (k n : Int) (A : Option Addr) (m c : Nat) (op : Int) (H : Heap) :
    Tr Try.prog 66 #[.agg #[.slice fA fn fc, .slice oA on oc], .agg #[.int .i64 k, .int .i64 n, .slice A m c], .int .i64 op] H (fun v H' => v = .int .i64 (mostB fn on m op) ∧ Sub H H') :=
  v66 (f66 _ _ _ _ _ _ _ _ _ _ _ _ _ _ ⟨rfl, Sub.refl _⟩)

structure R47 (o : O) (Hb : Heap) (i : Int) (H1 : Heap) : Prop where
  heap : H1 = Hb
  k : ∃ k : Nat, i = k ∧ k ≤ 6 ∧ ∀ j x, j < k → o.six[j]? = some x → smallB x = true
theorem t47 (o : O) (H : Heap) : Tr Try.prog 47 #[o.val] H (fun v H' => v = .bool (okO o) ∧ Sub H H') := by
  apply v47; unfold F47
  intro b hb
  refine ⟨R47 o _, fun i _ => (6 - i).toNat, ⟨rfl, 0, rfl, by omega, fun j x hj => absurd hj (by omega)⟩, fun i H1 r => ?_⟩
  obtain ⟨k, rfl, hk, hs⟩ := r.k
  have hsub : Sub H H1 := by rw [r.heap]; exact Sub.upd_new hb
  refine ⟨fun hlt => ?_, fun hge => ⟨?_, hsub⟩⟩
  · have hlt : (k : Int) < 6 := of_decide_eq_true hlt
    obtain ⟨y, hx⟩ : ∃ y, o.six[k]? = some y := ⟨_, List.getElem?_eq_getElem (show k < o.six.length from (by show k < 6; omega))⟩
    have hat : At H1 (({ block := b, off := 0 } : Addr).add ((k : Int).toNat * 1)) [.int .i64 y] := by
      rw [r.heap]
      apply at_new
      intro j v hj
      have : k = 0 ∨ k = 1 ∨ k = 2 ∨ k = 3 ∨ k = 4 ∨ k = 5 := by omega
      cases j with
      | succ j => simp at hj
      | zero => rcases this with rfl | rfl | rfl | rfl | rfl | rfl <;> (simp [O.six] at hx; subst hx; simpa using hj)
    refine ⟨_, ⟨rfl, by omega, hlt⟩, _, hat, _, fun _ => ⟨rfl, by omega, hlt⟩, _, fun _ => hat, fun e => ⟨?_, hsub⟩, fun e => ?_⟩
    · rw [not_smallB] at e
      have : okO o = false := by
        have e : smallB y = false := by simpa using e
        have : k = 0 ∨ k = 1 ∨ k = 2 ∨ k = 3 ∨ k = 4 ∨ k = 5 := by omega
        unfold okO
        rcases this with rfl | rfl | rfl | rfl | rfl | rfl <;> (simp [O.six] at hx; subst hx; simp [e])
      rw [this]
    · rw [not_smallB] at e
      have e : smallB y = true := by simpa using e
      rw [wrapi (x := (k : Int) + 1) (by omega) (by omega)]
      refine ⟨⟨r.heap, k + 1, by omega, by omega, fun j x hj hx' => ?_⟩, show (6 - ((k : Int) + 1)).toNat < (6 - (k : Int)).toNat by omega⟩
      by_cases hjk : j = k
      · subst hjk; rw [hx] at hx'; cases hx'; exact e
      · exact hs j x (by omega) hx'
  · have hge : ¬ (k : Int) < 6 := of_decide_eq_false hge
    have : k = 6 := by omega
    subst this
    have a0 := hs 0 _ (by omega) rfl; have a1 := hs 1 _ (by omega) rfl; have a2 := hs 2 _ (by omega) rfl
    have a3 := hs 3 _ (by omega) rfl; have a4 := hs 4 _ (by omega) rfl; have a5 := hs 5 _ (by omega) rfl
    unfold okO; rw [a0, a1, a2, a3, a4, a5]; simp

theorem t37 {H : Heap} {fA oA : Option Addr} {fn fc on oc : Nat} {p : Prg} (h : HasP H fA fn oA on p) (kind name : Int) :
    Tr Try.prog 37 #[.agg #[.slice fA fn fc, .slice oA on oc], .int .i64 kind, .int .i64 name] H (fun v H' => v = .int .i64 (p.find kind name) ∧ Sub H H') := by
  have hl := h.fns.len; have hb := h.fns.big
  apply v37; unfold F37
  refine ⟨RSc H p.funcs.length (p.hit kind name), fun i _ => ((p.funcs.length : Int) - i).toNat, RSc.zero, fun i H1 r => ?_⟩
  obtain ⟨k, rfl, hk, hs⟩ := r.k
  have hH := r.heap; subst hH
  refine ⟨fun hlt => ?_, fun hge => ?_⟩
  · have hlt : (k : Int) < fn := of_decide_eq_true hlt
    obtain ⟨g, hg⟩ : ∃ g, p.funcs[k]? = some g := ⟨_, List.getElem?_eq_getElem (by omega)⟩
    obtain ⟨a, B, m, c, ha, hat, -⟩ := h.fns.at_ k g hg
    have at0 : At H1 ((a.add ((k : Int).toNat * 3)).add 0) [.int .i64 g.kind] := at_head hat
    have at1 : At H1 ((a.add ((k : Int).toNat * 3)).add 1) [.int .i64 g.name] := at_head (at_drop 1 hat)
    refine ⟨a, ⟨ha, by omega, hlt⟩, _, at0, a, fun _ => ⟨ha, by omega, hlt⟩, _, fun _ => at1, fun e => ⟨?_, Sub.refl _⟩, fun e => ?_⟩
    · rw [find_eq, scan_hit (k := k) (r := (k : Int)) (by omega) hs (by unfold Prg.hit; rw [hg]; simp only; rw [if_pos e])]
    · exact RSc.next r rfl (by omega) (by omega) (by unfold Prg.hit; rw [hg]; simp only; rw [if_neg (by rw [e]; simp)])
  · have hge : ¬ (k : Int) < fn := of_decide_eq_false hge
    refine ⟨?_, Sub.refl _⟩
    rw [find_eq, scan_none (fun j hj => hs j (by omega))]

theorem t48 {H : Heap} {fA oA : Option Addr} {fn fc on oc : Nat} {p : Prg} (h : HasP H fA fn oA on p) (i : Nat) (f : Fnc) (hf : p.funcs[i]? = some f) :
    Tr Try.prog 48 #[.agg #[.slice fA fn fc, .slice oA on oc], .int .i64 i] H (fun v H' => v = .bool (p.named i f) ∧ Sub H H') := by
  have hl := h.fns.len; have hb := h.fns.big; have hi := get_lt hf
  apply v48; unfold F48
  obtain ⟨a, B, m, c, ha, hat, ho⟩ := h.fns.at_ i f hf
  have hm := ho.len
  unfold Prg.named
  refine ⟨a, ⟨ha, by omega, by omega⟩, _, _, _, _, _, by simpa using hat, fun e => ⟨by rw [if_pos e], Sub.refl _⟩, fun e => ⟨fun e2 => ⟨by rw [if_neg (by rw [e]; simp), if_pos e2], Sub.refl _⟩, fun e2 => ?_⟩⟩
  rw [if_neg (by rw [e]; simp), if_neg (by rw [e2]; simp)]
  refine ⟨RSc H i (p.clash f), fun j _ => ((i : Int) - j).toNat, RSc.zero, fun x H1 r => ?_⟩
  obtain ⟨k, rfl, hk, hs⟩ := r.k
  have hH := r.heap; subst hH
  refine ⟨fun hlt => ?_, fun hge => ?_⟩
  · have hlt : (k : Int) < i := of_decide_eq_true hlt
    obtain ⟨g, hg⟩ : ∃ g, p.funcs[k]? = some g := ⟨_, List.getElem?_eq_getElem (by omega)⟩
    obtain ⟨a', B', m', c', ha', hat', -⟩ := h.fns.at_ k g hg
    have at0 : At H1 ((a'.add ((k : Int).toNat * 3)).add 0) [.int .i64 g.kind] := at_head hat'
    have at1 : At H1 ((a'.add ((k : Int).toNat * 3)).add 1) [.int .i64 g.name] := at_head (at_drop 1 hat')
    refine ⟨a', fun _ => ⟨ha', by omega, by omega⟩, _, fun _ => at0, a', fun _ => ⟨ha', by omega, by omega⟩, _, fun _ => at1, fun e3 => ⟨?_, Sub.refl _⟩, fun e3 => ?_⟩
    · rw [scan_hit (k := k) (r := ()) (by omega) hs (by unfold Prg.clash; rw [hg]; simp only; rw [if_pos e3])]
    · exact RSc.next r rfl (by omega) (by omega) (by unfold Prg.clash; rw [hg]; simp only; rw [if_neg (by rw [e3]; simp)])
  · have hge : ¬ (k : Int) < i := of_decide_eq_false hge
    rw [scan_none (n := i) (fun j hj => hs j (by omega))]
    refine ⟨_, t37 h 3 f.name, fun e3 => ⟨by simp only; rw [if_pos e3], Sub.refl _⟩, fun e3 => ⟨by simp only; rw [if_neg (by rw [e3]; simp), hm], Sub.refl _⟩⟩

theorem t49 {H : Heap} {fA oA : Option Addr} {fn fc on oc : Nat} {p : Prg} (h : HasP H fA fn oA on p) (i : Nat) (f : Fnc) (hf : p.funcs[i]? = some f) (k : Nat) (op x : Int) (hk : f.ops[k]? = some (op, x)) :
    Tr Try.prog 49 #[.agg #[.slice fA fn fc, .slice oA on oc], .int .i64 i, .int .i64 k] H (fun v H' => v = .bool (p.right i f k op x) ∧ Sub H H') := by
  have hl := h.fns.len; have hb := h.fns.big; have hi := get_lt hf; have hol := h.opts.len
  apply v49; unfold F49
  obtain ⟨a, B, m, c, ha, hat, ho⟩ := h.fns.at_ i f hf
  have hm := ho.len; have hmb := ho.big; have hk' := get_lt hk
  obtain ⟨a', ha', hat'⟩ := ho.at_ k _ _ hk
  refine ⟨a, ⟨ha, by omega, by omega⟩, _, _, _, _, _, by simpa using hat, a', ⟨ha', by omega, by omega⟩, _, _, by simpa using hat', ?_⟩
  unfold Prg.right
  rw [← hl, ← hol, ← hm]
  refine ⟨fun e => ⟨by rw [if_pos e], Sub.refl _⟩, fun e => ⟨_, t66 .., _, t29 .., fun e2 => ⟨by rw [if_neg (by rw [e]; simp), if_pos e2], Sub.refl _⟩, fun e2 => ?_⟩⟩
  rw [if_neg (by rw [e]; simp), if_neg (by rw [e2]; simp)]
  have key : (op == 27) = true → 0 ≤ x ∧ x < fn := by
    intro h27
    have h27 : op = 27 := by simpa using h27
    subst h27
    have hmost : mostB fn on m 27 = fn := rfl
    have hopd : opd 27 = true := rfl
    rw [hmost, hopd] at e2
    simp at e2; omega
  obtain ⟨a2, y, h1, h2⟩ : ∃ (a2 : Addr) (y : Int), ((op == 27) = true → fA = some a2 ∧ At H ((a2.add (x.toNat * 3)).add 0) [.int .i64 y]) ∧ ((op == 27) = true → y = p.kindAt x) := by
    by_cases h27 : (op == 27) = true
    · have kx := key h27
      obtain ⟨g, hg⟩ : ∃ g, p.funcs[x.toNat]? = some g := ⟨_, List.getElem?_eq_getElem (by omega)⟩
      obtain ⟨a2, B2, m2, c2, ha2, hat2, -⟩ := h.fns.at_ x.toNat g hg
      exact ⟨a2, g.kind, fun _ => ⟨ha2, at_head hat2⟩, fun _ => by unfold Prg.kindAt; rw [hg]⟩
    · exact ⟨a, 0, fun h => absurd h h27, fun h => absurd h h27⟩
  have e5 : (op == 27 && y != 1) = (op == 27 && p.kindAt x != 1) := by
    cases h27 : (op == 27) with
    | false => rfl
    | true => rw [h2 h27]
  refine ⟨a2, fun h => ⟨(h1 h).1, key h⟩, y, fun h => (h1 h).2, ?_⟩
  rw [e5]
  refine ⟨fun e3 => ⟨by rw [if_pos e3], Sub.refl _⟩, fun e3 => ⟨_, t31 .., ?_⟩⟩
  rw [if_neg (by rw [e3]; simp)]
  refine ⟨fun e4 => ⟨by rw [if_pos e4], Sub.refl _⟩, fun e4 => ⟨?_, Sub.refl _⟩⟩
  rw [if_neg (by rw [e4]; simp), wrapi (x := (m : Int) - 1) (by omega) (by omega)]

theorem t34 {H : Heap} {fA oA : Option Addr} {fn fc on oc : Nat} {p : Prg} (h : HasP H fA fn oA on p) :
    Tr Try.prog 34 #[.agg #[.slice fA fn fc, .slice oA on oc]] H (fun v H' => v = .tuple #[.int .i64 p.check.1, .int .i64 p.check.2.1, .int .i64 p.check.2.2] ∧ Sub H H') := by
  have hl := h.fns.len; have hb := h.fns.big; have hol := h.opts.len; have hob := h.opts.big
  apply v34; unfold F34 Prg.check
  rw [← hl, ← hol]
  refine ⟨fun e => ⟨by rw [if_pos e], Sub.refl _⟩, fun e => ?_⟩
  rw [if_neg (by rw [e]; simp)]
  refine ⟨RSc H on p.badOpt, fun i _ => ((on : Int) - i).toNat, RSc.zero, fun x H1 r => ?_⟩
  obtain ⟨k, rfl, hk, hs⟩ := r.k
  have hH := r.heap; subst hH
  refine ⟨fun hlt => ?_, fun hge => ?_⟩
  · have hlt : (k : Int) < on := of_decide_eq_true hlt
    obtain ⟨o, ho⟩ : ∃ o, p.opts[k]? = some o := ⟨_, List.getElem?_eq_getElem (by omega)⟩
    obtain ⟨a, ha, hat⟩ := h.opts.at_ k o ho
    refine ⟨a, ⟨ha, by omega, hlt⟩, _, _, _, _, _, _, _, _, _, _, _, hat, _, t47 o H1, fun e2 => ⟨?_, Sub.refl _⟩, fun e2 => ?_⟩
    · have e2 : okO o = false := by simpa using e2
      rw [scan_hit (k := k) (by omega) hs (by unfold Prg.badOpt; rw [ho]; simp only; rw [if_neg (by rw [e2]; simp)])]
    · have e2 : okO o = true := by simpa using e2
      exact RSc.next r rfl (by omega) (by omega) (by unfold Prg.badOpt; rw [ho]; simp only; rw [if_pos e2])
  · have hge : ¬ (k : Int) < on := of_decide_eq_false hge
    rw [scan_none (n := on) (fun j hj => hs j (by omega))]
    clear r hs
    refine ⟨RSc H1 fn p.badFn, fun i _ => ((fn : Int) - i).toNat, RSc.zero, fun x H2 r => ?_⟩
    obtain ⟨i, rfl, hi, hs⟩ := r.k
    have hH := r.heap; subst hH
    refine ⟨fun hlt => ?_, fun hge => ?_⟩
    · have hlt : (i : Int) < fn := of_decide_eq_true hlt
      obtain ⟨f, hf⟩ : ∃ f, p.funcs[i]? = some f := ⟨_, List.getElem?_eq_getElem (by omega)⟩
      obtain ⟨a, B, m, c, ha, hat, ho⟩ := h.fns.at_ i f hf
      have hm := ho.len; have hmb := ho.big
      refine ⟨_, t48 h i f hf, fun e2 => ⟨?_, Sub.refl _⟩, fun e2 => ?_⟩
      · have e2 : p.named i f = false := by simpa using e2
        rw [scan_hit (k := i) (by omega) hs (by unfold Prg.badFn; rw [hf]; simp only; rw [if_neg (by rw [e2]; simp)])]
      · have e2 : p.named i f = true := by simpa using e2
        have bad : p.badFn i = scan f.ops.length (p.badOp i f) := by unfold Prg.badFn; rw [hf]; simp only; rw [if_pos e2]
        have sl : At H2 ((a.add ((i : Int).toNat * 3)).add 2) [.slice B m c] := at_drop 2 hat
        refine ⟨RSc H2 m (p.badOp i f), fun k _ => ((m : Int) - k).toNat, RSc.zero, fun x H3 r3 => ?_⟩
        obtain ⟨k3, rfl, hk3, hs3⟩ := r3.k
        have hH := r3.heap; subst hH
        refine ⟨a, ⟨ha, by omega, hlt⟩, _, _, _, sl, fun hlt3 => ?_, fun hge3 => ?_⟩
        · have hlt3 : (k3 : Int) < m := of_decide_eq_true hlt3
          obtain ⟨⟨op, x⟩, hop⟩ : ∃ o, f.ops[k3]? = some o := ⟨_, List.getElem?_eq_getElem (by omega)⟩
          refine ⟨_, t49 h i f hf k3 op x hop, fun e3 => ⟨?_, Sub.refl _⟩, fun e3 => ?_⟩
          · have e3 : p.right i f k3 op x = false := by simpa using e3
            have hb : p.badFn i = some (40, (i : Int), (k3 : Int)) := by
              rw [bad]
              exact scan_hit (k := k3) (by omega) hs3 (by unfold Prg.badOp; rw [hop]; simp only; rw [if_neg (by rw [e3]; simp)])
            rw [scan_hit (k := i) (by omega) hs hb]
          · have e3 : p.right i f k3 op x = true := by simpa using e3
            exact RSc.next r3 rfl (by omega) (by omega) (by unfold Prg.badOp; rw [hop]; simp only; rw [if_pos e3])
        · have hge3 : ¬ (k3 : Int) < m := of_decide_eq_false hge3
          exact RSc.next r rfl (by omega) (by omega) (by rw [bad]; exact scan_none fun j hj => hs3 j (by omega))
    · have hge : ¬ (i : Int) < fn := of_decide_eq_false hge
      rw [scan_none (n := fn) (fun j hj => hs j (by omega))]
      exact ⟨rfl, Sub.refl _⟩
end Go.Proofs.Ytanahoejlnmfiaa
