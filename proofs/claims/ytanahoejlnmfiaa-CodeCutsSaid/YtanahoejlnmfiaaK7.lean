/- Code: Encode, the program's and the document's. Conditions: the program lies in memory as 'HasP' says, its numbers are the machine's. -/
import Derived.Test.YtanahoejlnmfiaaK6
set_option maxRecDepth 100000
namespace Go.Ax

/-- A builder whose bytes, with 'rest' behind them, are 'E'. -/
structure Wr (G H1 : Heap) (b : Nat) (rest E : List UInt8) : Prop where
  out : ∃ l, Bld G H1 b l ∧ l ++ rest = E
theorem Wr.sub {G H1 : Heap} {b : Nat} {rest E : List UInt8} (h : Wr G H1 b rest E) : Sub G H1 := by obtain ⟨l, hB, _⟩ := h.out; exact hB.sub
theorem Wr.cast {G H1 : Heap} {b : Nat} {rest rest' E : List UInt8} (h : Wr G H1 b rest E) (e : rest = rest') : Wr G H1 b rest' E := e ▸ h
theorem Bld.ext {G H1 : Heap} {b b2 : Nat} {l : List UInt8} {o : Obj} (h : Bld G H1 b l) (hn : H1 b2 = none) : Bld (G.upd b2 o) (H1.upd b2 o) b l := by
  obtain ⟨p, A, n, c, h1, h2, h3, h4, h5⟩ := h.out
  have hb : b ≠ b2 := fun e => by subst e; rw [h2] at hn; cases hn
  refine ⟨⟨fun i x hx => ?_⟩, by rw [Heap.upd_other hb]; exact h.new, p, A, n, c, h1, by rw [Heap.upd_other hb]; exact h2, h3, h4, ?_⟩
  · by_cases e : i = b2
    · subst e; rw [Heap.upd_same] at hx ⊢; exact hx
    · rw [Heap.upd_other e] at hx ⊢; exact h.sub.sub i x hx
  · rcases h5 with h5 | ⟨g, cur, a1, a2, a3, a4, a5, a6⟩
    · exact .inl h5
    · have hg : g ≠ b2 := fun e => by subst e; rw [a4] at hn; cases hn
      exact .inr ⟨g, cur, a1, a2, by rw [Heap.upd_other hg]; exact a3, by rw [Heap.upd_other hg]; exact a4, a5, a6⟩
theorem Bld.below {G G2 H1 : Heap} {b : Nat} {l : List UInt8} (h : Bld G2 H1 b l) (k : Sub G G2) : Bld G H1 b l := by
  obtain ⟨p, A, n, c, h1, h2, h3, h4, h5⟩ := h.out
  refine ⟨k.trans h.sub, none_below k h.new, p, A, n, c, h1, h2, h3, h4, ?_⟩
  rcases h5 with h5 | ⟨g, cur, a1, a2, a3, a4, a5, a6⟩
  · exact .inl h5
  · exact .inr ⟨g, cur, a1, a2, none_below k a3, a4, a5, a6⟩
theorem Wr.ext {G H1 : Heap} {b b2 : Nat} {rest E : List UInt8} {o : Obj} (h : Wr G H1 b rest E) (hn : H1 b2 = none) : Wr (G.upd b2 o) (H1.upd b2 o) b rest E := by
  obtain ⟨l, hB, e⟩ := h.out; exact ⟨l, hB.ext hn, e⟩
theorem Wr.below {G G2 H1 : Heap} {b : Nat} {rest E : List UInt8} (h : Wr G2 H1 b rest E) (k : Sub G G2) : Wr G H1 b rest E := by
  obtain ⟨l, hB, e⟩ := h.out; exact ⟨l, hB.below k, e⟩
def encS (p : Prg) : ByteArray := if p.check.1 = 0 then strOf (encP p) else ⟨#[]⟩
theorem drop_cons {α : Type} {l : List α} {k : Nat} {x : α} (h : l[k]? = some x) : l.drop k = x :: l.drop (k + 1) := by
  have hk := get_lt h
  rw [List.drop_eq_getElem_cons hk]
  rw [List.getElem?_eq_getElem hk] at h
  congr 1; exact Option.some.inj h
theorem flat_drop {α : Type} {l : List α} {k : Nat} {x : α} (h : l[k]? = some x) (f : α → List UInt8) : (l.drop k).flatMap f = f x ++ (l.drop (k + 1)).flatMap f := by
  rw [drop_cons h, List.flatMap_cons]
theorem flat_end {α : Type} {l : List α} {k : Nat} (h : l.length ≤ k) (f : α → List UInt8) : (l.drop k).flatMap f = [] := by
  rw [List.drop_eq_nil_of_le h]; rfl
/-- a string whose bytes, with 'rest' behind them, are 'E' -/
structure Ws (s : ByteArray) (rest E : List UInt8) : Prop where
  eq : s.data.toList ++ rest = E
theorem Ws.size {s : ByteArray} {rest E : List UInt8} (h : Ws s rest E) : s.size ≤ E.length := by
  rw [← h.eq, List.length_append, ← size_list]; omega
theorem Ws.app {s : ByteArray} {m rest E : List UInt8} (h : Ws s (m ++ rest) E) : Ws (s ++ strOf m) rest E := ⟨by rw [app_list, strOf_list, List.append_assoc]; exact h.eq⟩
theorem Ws.cast {s : ByteArray} {rest rest' E : List UInt8} (h : Ws s rest E) (e : rest = rest') : Ws s rest' E := e ▸ h
end Go.Ax
namespace Go.Proofs.Ytanahoejlnmfiaa
open Go.Ax

theorem wr50 {G H1 : Heap} {b : Nat} {rest E : List UInt8} {x : Int} (h : Wr G H1 b (putU x.toNat ++ rest) E) (hx : numOk x) (hE : E.length ≤ 50000) :
    Tr Try.prog 50 #[.int .i64 x, .pointer (some ⟨b, 0, none⟩)] H1 (fun v H' => v = .tuple #[] ∧ Wr G H' b rest E) := by
  obtain ⟨l, hB, e⟩ := h.out
  have hl : l.length ≤ E.length := by rw [← e, List.length_append]; omega
  have hx2 := hx.2; unfold mostR at hx2
  refine (t50 hB x ⟨hx.1, by omega⟩ (by omega)).mono ?_
  rintro v H' ⟨rfl, hB'⟩
  exact ⟨rfl, _, hB', by rw [List.append_assoc]; exact e⟩
theorem wr51 {G H1 : Heap} {b : Nat} {rest E m : List UInt8} (h : Wr G H1 b (m ++ rest) E) (hE : E.length ≤ 50000) :
    Tr Try.prog 51 #[.pointer (some ⟨b, 0, none⟩), .string (strOf m)] H1 (fun v H' => v = .tuple #[.int .i64 (strOf m).size, .nilIface] ∧ Wr G H' b rest E) := by
  obtain ⟨l, hB, e⟩ := h.out
  have hl : l.length + m.length ≤ E.length := by rw [← e, List.length_append, List.length_append]; omega
  refine (t51 hB (strOf m) (by rw [strOf_size]; omega)).mono ?_
  rintro v H' ⟨rfl, hB'⟩
  exact ⟨rfl, _, hB', by rw [strOf_list, List.append_assoc]; exact e⟩
theorem wr54 (o : O) (H : Heap) : Tr Try.prog 54 #[o.val] H (fun v H' => ∃ b2, H b2 = none ∧ v = .slice (some ⟨b2, 0, none⟩) 10 10 ∧ H' = H.upd b2 (.cells (o.nums.map (Value.int .i64)).toArray 2)) := by
  apply v54; unfold F54
  intro b hb H1 hH1
  exact ⟨b, hb, rfl, hH1⟩
theorem wr_next {k n : Nat} (hk : k < n) (hb : n ≤ 9223372036854775807) : IntKind.i64.wrap ((k : Int) + 1) = ((k + 1 : Nat) : Int) ∧ ((n : Int) - ((k + 1 : Nat) : Int)).toNat < ((n : Int) - (k : Int)).toNat := by
  rw [wrapi (by omega) (by omega)]; omega
theorem t38 {H : Heap} {fA oA : Option Addr} {fn fc on oc : Nat} {p : Prg} (h : HasP H fA fn oA on p) (w : p.Wf) :
    Tr Try.prog 38 #[.agg #[.slice fA fn fc, .slice oA on oc]] H (fun v H' => v = .tuple #[.string (encS p), .int .i64 p.check.1] ∧ Sub H H') := by
  have hl := h.fns.len; have hb := h.fns.big; have hol := h.opts.len; have hob := h.opts.big
  apply v38; unfold F38
  refine ⟨_, _, _, t33 h, fun e => ?_, fun e => ?_⟩
  · have e : p.check.1 ≠ 0 := by simpa using e
    refine ⟨?_, Sub.refl _⟩
    unfold encS; rw [if_neg e]
  have e : p.check.1 = 0 := by simpa using e
  have ok := (check_ok e).2
  have gd := good_of ok w
  have hE := encP_le gd
  have hS : encS p = strOf (encP p) := by unfold encS; rw [if_pos e]
  intro b hbn H1 hH1
  subst hH1
  have W0 : Wr H (H.upd b (.cells #[.pointer none, .slice none 0 0] 77)) b (encP p) (encP p) := ⟨[], Bld.fresh hbn, rfl⟩
  have num : ∀ n : Nat, n ≤ 1000000 → numOk (n : Int) := fun n hn => by unfold numOk mostR; omega
  refine (wr50 (x := fn) (rest := p.funcs.flatMap encFn ++ (putU p.opts.length ++ p.opts.flatMap encO)) (W0.cast ?_) (num fn (by have := ok.n2; omega)) hE).mono ?_
  · unfold encP; rw [Int.toNat_natCast, hl, List.append_assoc]
  rintro v H2 ⟨rfl, W1⟩
  refine ⟨rfl, fun x H3 => ∃ k : Nat, x = k ∧ k ≤ fn ∧ Wr H H3 b ((p.funcs.drop k).flatMap encFn ++ (putU p.opts.length ++ p.opts.flatMap encO)) (encP p), fun x _ => ((fn : Int) - x).toNat, ⟨0, rfl, by omega, W1⟩, ?_⟩
  rintro x H3 ⟨k, rfl, hk, W2⟩
  refine ⟨fun hlt => ?_, fun hge => ?_⟩
  · have hlt := of_decide_eq_true hlt
    obtain ⟨f, hf⟩ := get_some (l := p.funcs) (i := k) (by omega)
    obtain ⟨a, B, m, c, ha, hat, ho⟩ := h.fns.at_ k f hf
    have hm := ho.len; have hmb := ho.big
    have gf := gd.1.2 f (List.mem_of_getElem? hf)
    have m128 := gf.2.2.1
    refine ⟨a, ⟨ha, by omega, hlt⟩, _, _, _, _, _, by simpa using hat.sub W2.sub, ?_⟩
    rw [flat_drop hf] at W2
    refine (wr50 (rest := putU f.name.toNat ++ (putU f.ops.length ++ f.ops.flatMap encOp) ++ ((p.funcs.drop (k + 1)).flatMap encFn ++ (putU p.opts.length ++ p.opts.flatMap encO))) (W2.cast ?_) gf.1 hE).mono ?_
    · unfold encFn; simp only [List.append_assoc]
    rintro v H4 ⟨rfl, W3⟩
    refine ⟨rfl, (wr50 (rest := (putU f.ops.length ++ f.ops.flatMap encOp) ++ ((p.funcs.drop (k + 1)).flatMap encFn ++ (putU p.opts.length ++ p.opts.flatMap encO))) (W3.cast ?_) gf.2.1 hE).mono ?_⟩
    · simp only [List.append_assoc]
    rintro v H5 ⟨rfl, W4⟩
    refine ⟨rfl, (wr50 (x := m) (rest := f.ops.flatMap encOp ++ ((p.funcs.drop (k + 1)).flatMap encFn ++ (putU p.opts.length ++ p.opts.flatMap encO))) (W4.cast ?_) (num m (by omega)) hE).mono ?_⟩
    · rw [Int.toNat_natCast, hm]; simp only [List.append_assoc]
    rintro v H6 ⟨rfl, W5⟩
    refine ⟨rfl, fun x H7 => ∃ j : Nat, x = j ∧ j ≤ m ∧ Wr H H7 b ((f.ops.drop j).flatMap encOp ++ ((p.funcs.drop (k + 1)).flatMap encFn ++ (putU p.opts.length ++ p.opts.flatMap encO))) (encP p), fun x _ => ((m : Int) - x).toNat, ⟨0, rfl, by omega, W5⟩, ?_⟩
    rintro x H7 ⟨j, rfl, hj, W6⟩
    refine ⟨fun hlt2 => ?_, fun hge2 => ?_⟩
    · have hlt2 := of_decide_eq_true hlt2
      obtain ⟨⟨op, y⟩, hop⟩ := get_some (l := f.ops) (i := j) (by omega)
      obtain ⟨a', ha', hat'⟩ := ho.at_ j _ _ hop
      have go := gf.2.2.2 _ (List.mem_of_getElem? hop)
      have nx := wr_next (k := j) (n := m) (by omega) hmb
      refine ⟨a', ⟨ha', by omega, hlt2⟩, _, _, by simpa using hat'.sub W6.sub, ?_⟩
      rw [flat_drop hop] at W6
      refine (wr50 (rest := (if opd op = true then putI y else []) ++ ((f.ops.drop (j + 1)).flatMap encOp ++ ((p.funcs.drop (k + 1)).flatMap encFn ++ (putU p.opts.length ++ p.opts.flatMap encO)))) (W6.cast ?_) go.1 hE).mono ?_
      · unfold encOp; simp only [List.append_assoc]
      rintro v H8 ⟨rfl, W7⟩
      refine ⟨rfl, _, t28 op H8, fun ho => ?_, fun ho => ?_⟩
      · have gy := go.2
        rw [if_pos ho] at gy
        rw [if_pos ho] at W7
        refine ⟨_, t53 gy.1 gy.2 H8, (wr51 W7 hE).mono ?_⟩
        rintro v H9 ⟨rfl, W8⟩
        exact ⟨_, _, rfl, ⟨j + 1, nx.1, by omega, W8⟩, by rw [nx.1]; exact nx.2⟩
      · rw [if_neg (by rw [ho]; simp), List.nil_append] at W7
        exact ⟨⟨j + 1, nx.1, by omega, W7⟩, by rw [nx.1]; exact nx.2⟩
    · have hge2 := of_decide_eq_false hge2
      have nx := wr_next (k := k) (n := fn) (by omega) hb
      rw [flat_end (by omega), List.nil_append] at W6
      exact ⟨⟨k + 1, nx.1, by omega, W6⟩, by rw [nx.1]; exact nx.2⟩
  · have hge := of_decide_eq_false hge
    rw [flat_end (by omega), List.nil_append] at W2
    refine (wr50 (x := on) (rest := p.opts.flatMap encO) (W2.cast (by rw [Int.toNat_natCast, hol])) (num on (by have := ok.n3; omega)) hE).mono ?_
    rintro v H4 ⟨rfl, W3⟩
    refine ⟨rfl, fun x H5 => ∃ k : Nat, x = k ∧ k ≤ on ∧ Wr H H5 b ((p.opts.drop k).flatMap encO) (encP p), fun x _ => ((on : Int) - x).toNat, ⟨0, rfl, by omega, W3⟩, ?_⟩
    rintro x H5 ⟨i, rfl, hi, W4⟩
    refine ⟨fun hlt => ?_, fun hge => ?_⟩
    · have hlt := of_decide_eq_true hlt
      obtain ⟨o, hop⟩ := get_some (l := p.opts) (i := i) (by omega)
      obtain ⟨a', ha', hat'⟩ := h.opts.at_ i o hop
      have go := gd.2.2 _ (List.mem_of_getElem? hop)
      have nx := wr_next (k := i) (n := on) (by omega) hob
      refine ⟨a', ⟨ha', by omega, hlt⟩, _, _, _, _, _, _, _, _, _, _, _, hat'.sub W4.sub, (wr54 o H5).mono ?_⟩
      rintro v H6 ⟨b2, hb2, rfl, rfl⟩
      rw [flat_drop hop] at W4
      have W5 := W4.ext (o := .cells (o.nums.map (Value.int .i64)).toArray 2) hb2
      have sb : Sub H (H.upd b2 (.cells (o.nums.map (Value.int .i64)).toArray 2)) := Sub.upd_new (none_below W4.sub hb2)
      refine ⟨_, _, _, rfl, fun x H7 => ∃ j : Nat, x = j ∧ j ≤ 10 ∧ Wr (H.upd b2 (.cells (o.nums.map (Value.int .i64)).toArray 2)) H7 b ((o.nums.drop j).flatMap (fun x => putU x.toNat) ++ (putI o.never ++ (p.opts.drop (i + 1)).flatMap encO)) (encP p), fun x _ => ((10 : Int) - x).toNat,
        ⟨0, rfl, by omega, W5.cast (by unfold encO; rw [List.append_assoc]; rfl)⟩, ?_⟩
      rintro x H7 ⟨j, rfl, hj, W6⟩
      refine ⟨fun hlt2 => ?_, fun hge2 => ?_⟩
      · have hlt2 : (j : Int) < 10 := of_decide_eq_true hlt2
        obtain ⟨y, hy⟩ := get_some (l := o.nums) (i := j) (show j < 10 by omega)
        have ny := wr_next (k := j) (n := 10) (by omega) (by decide)
        refine ⟨_, ⟨rfl, by omega, hlt2⟩, y, (at_new1 (by simp [hy])).sub W6.sub, ?_⟩
        rw [flat_drop hy, List.append_assoc] at W6
        refine (wr50 W6 (go.1.2 y (List.mem_of_getElem? hy)) hE).mono ?_
        rintro v H8 ⟨rfl, W7⟩
        exact ⟨rfl, ⟨j + 1, ny.1, by omega, W7⟩, by rw [ny.1]; exact ny.2⟩
      · have hge2 : ¬ (j : Int) < 10 := of_decide_eq_false hge2
        rw [flat_end (show o.nums.length ≤ j by have : o.nums.length = 10 := rfl
                                                omega), List.nil_append] at W6
        refine ⟨_, t53 go.2.1 go.2.2 H7, (wr51 W6 hE).mono ?_⟩
        rintro v H8 ⟨rfl, W7⟩
        exact ⟨_, _, rfl, ⟨i + 1, nx.1, by omega, W7.below sb⟩, by rw [nx.1]; exact nx.2⟩
    · have hge := of_decide_eq_false hge
      rw [flat_end (by omega)] at W4
      obtain ⟨l, hB, el⟩ := W4.out
      rw [List.append_nil] at el
      subst el
      refine (t55 hB ?_ (by omega)).mono ?_
      · intro h0
        have : (encP p).length = 0 := by rw [h0]; rfl
        unfold encP at this
        simp only [List.length_append] at this
        have := putU_pos p.funcs.length
        omega
      rintro v H6 ⟨rfl, hs⟩
      exact ⟨_, rfl, by rw [hS, e], hs⟩
end Go.Proofs.Ytanahoejlnmfiaa
