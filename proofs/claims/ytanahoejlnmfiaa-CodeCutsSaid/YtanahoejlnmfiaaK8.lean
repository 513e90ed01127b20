/- Code: the document's Encode. Conditions: the program lies in memory as 'HasP' says, its numbers are the machine's. -/
import Derived.Test.YtanahoejlnmfiaaK7
set_option maxRecDepth 100000
namespace Go.Proofs.Ytanahoejlnmfiaa
open Go.Ax

theorem put56 {x : Int} (hx : numOk x) (H : Heap) : Tr Try.prog 56 #[.int .u64 (IntKind.u64.wrap x)] H (fun v H' => v = .string (strOf (putU x.toNat)) ∧ Sub H H') := by
  have h2 := hx.2; unfold mostR at h2
  obtain ⟨N, rfl⟩ : ∃ N : Nat, x = N := ⟨x.toNat, by have := hx.1; omega⟩
  rw [wrapu hx.1 (by omega), Int.toNat_natCast]
  exact t56 (by omega) H
theorem sz {s : ByteArray} {m rest E : List UInt8} (h : Ws s (m ++ rest) E) (hE : E.length ≤ 50000) : s.size + (strOf m).size ≤ 9223372036854775807 := by
  have := h.app.size
  have e : (s ++ strOf m).size = s.size + (strOf m).size := by
    rw [size_list, app_list, List.length_append, ← size_list, ← size_list]
  omega
theorem t39 {H : Heap} {fA oA : Option Addr} {fn fc on oc : Nat} {p : Prg} (h : HasP H fA fn oA on p) (w : p.Wf) :
    Tr Try.prog 39 #[.agg #[.slice fA fn fc, .slice oA on oc]] H (fun v H' => v = .tuple #[.string (encS p), .int .i64 p.check.1] ∧ Sub H H') := by
  have hl := h.fns.len; have hb := h.fns.big; have hol := h.opts.len; have hob := h.opts.big
  apply v39; unfold F39
  refine ⟨_, _, _, t34 h, fun e => ?_, fun e => ?_⟩
  · have e : p.check.1 ≠ 0 := by simpa using e
    refine ⟨?_, Sub.refl _⟩
    unfold encS; rw [if_neg e]
  have e : p.check.1 = 0 := by simpa using e
  have ok := (check_ok e).2
  have gd := good_of ok w
  have hE := encP_le gd
  have hS : encS p = strOf (encP p) := by unfold encS; rw [if_pos e]
  have num : ∀ n : Nat, n ≤ 1000000 → numOk (n : Int) := fun n hn => by unfold numOk mostR; omega
  have W1 : Ws (strOf (putU fn)) (p.funcs.flatMap encFn ++ (putU p.opts.length ++ p.opts.flatMap encO)) (encP p) := ⟨by rw [strOf_list, hl]; unfold encP; rw [List.append_assoc]⟩
  refine ⟨_, put56 (num fn (by have := ok.n2; omega)) H, fun s x H3 => ∃ k : Nat, x = k ∧ k ≤ fn ∧ Sub H H3 ∧ Ws s ((p.funcs.drop k).flatMap encFn ++ (putU p.opts.length ++ p.opts.flatMap encO)) (encP p), fun _ x _ => ((fn : Int) - x).toNat,
    ⟨0, rfl, by omega, Sub.refl _, W1⟩, ?_⟩
  rintro s x H3 ⟨k, rfl, hk, hs3, W2⟩
  refine ⟨fun hlt => ?_, fun hge => ?_⟩
  · have hlt := of_decide_eq_true hlt
    obtain ⟨f, hf⟩ := get_some (l := p.funcs) (i := k) (by omega)
    obtain ⟨a, B, m, c, ha, hat, ho⟩ := h.fns.at_ k f hf
    have hm := ho.len; have hmb := ho.big
    have gf := gd.1.2 f (List.mem_of_getElem? hf)
    have m128 := gf.2.2.1
    rw [flat_drop hf] at W2
    have W3 : Ws s (putU f.kind.toNat ++ (putU f.name.toNat ++ (putU ((m : Int).toNat) ++ (f.ops.flatMap encOp ++ ((p.funcs.drop (k + 1)).flatMap encFn ++ (putU p.opts.length ++ p.opts.flatMap encO)))))) (encP p) := W2.cast (by unfold encFn; rw [Int.toNat_natCast, hm]; simp only [List.append_assoc])
    refine ⟨a, ⟨ha, by omega, hlt⟩, _, _, _, _, _, by simpa using hat.sub hs3, _, put56 gf.1 H3, sz W3 hE, _, put56 gf.2.1 H3, sz W3.app hE, _, put56 (num m (by omega)) H3, sz W3.app.app hE,
      fun s x H7 => ∃ j : Nat, x = j ∧ j ≤ m ∧ Sub H H7 ∧ Ws s ((f.ops.drop j).flatMap encOp ++ ((p.funcs.drop (k + 1)).flatMap encFn ++ (putU p.opts.length ++ p.opts.flatMap encO))) (encP p), fun _ x _ => ((m : Int) - x).toNat,
      ⟨0, rfl, by omega, hs3, W3.app.app.app⟩, ?_⟩
    rintro s x H7 ⟨j, rfl, hj, hs7, W6⟩
    refine ⟨fun hlt2 => ?_, fun hge2 => ?_⟩
    · have hlt2 := of_decide_eq_true hlt2
      obtain ⟨⟨op, y⟩, hop⟩ := get_some (l := f.ops) (i := j) (by omega)
      obtain ⟨a', ha', hat'⟩ := ho.at_ j _ _ hop
      have go := gf.2.2.2 _ (List.mem_of_getElem? hop)
      have nx := wr_next (k := j) (n := m) (by omega) hmb
      have at0 : At H7 ((a'.add ((j : Int).toNat * 2)).add 0) [.int .i64 op] := at_head (hat'.sub hs7)
      have at1 : At H7 ((a'.add ((j : Int).toNat * 2)).add 1) [.int .i64 y] := at_drop 1 (hat'.sub hs7)
      rw [flat_drop hop] at W6
      have W7 : Ws s (putU op.toNat ++ ((if opd op = true then putI y else []) ++ ((f.ops.drop (j + 1)).flatMap encOp ++ ((p.funcs.drop (k + 1)).flatMap encFn ++ (putU p.opts.length ++ p.opts.flatMap encO))))) (encP p) := W6.cast (by unfold encOp; simp only [List.append_assoc])
      refine ⟨a', ⟨ha', by omega, hlt2⟩, _, at0, _, put56 go.1 H7, sz W7 hE, a', ⟨ha', by omega, hlt2⟩, _, at0, _, t29 op H7, fun ho => ?_, fun ho => ?_⟩
      · have gy := go.2
        rw [if_pos ho] at gy
        rw [if_pos ho] at W7
        exact ⟨a', ⟨ha', by omega, hlt2⟩, _, at1, _, t57 gy.1 gy.2 H7, sz W7.app hE, ⟨j + 1, nx.1, by omega, hs7, W7.app.app⟩, by rw [nx.1]; exact nx.2⟩
      · rw [if_neg (by rw [ho]; simp), List.nil_append] at W7
        exact ⟨⟨j + 1, nx.1, by omega, hs7, W7.app⟩, by rw [nx.1]; exact nx.2⟩
    · have hge2 := of_decide_eq_false hge2
      have nx := wr_next (k := k) (n := fn) (by omega) hb
      rw [flat_end (by omega), List.nil_append] at W6
      exact ⟨⟨k + 1, nx.1, by omega, hs7, W6⟩, by rw [nx.1]; exact nx.2⟩
  · have hge := of_decide_eq_false hge
    rw [flat_end (by omega), List.nil_append] at W2
    have W3 : Ws s (putU ((on : Int).toNat) ++ p.opts.flatMap encO) (encP p) := W2.cast (by rw [Int.toNat_natCast, hol])
    refine ⟨_, put56 (num on (by have := ok.n3; omega)) H3, sz W3 hE, fun s x H5 => ∃ k : Nat, x = k ∧ k ≤ on ∧ Sub H H5 ∧ Ws s ((p.opts.drop k).flatMap encO) (encP p), fun _ x _ => ((on : Int) - x).toNat, ⟨0, rfl, by omega, hs3, W3.app⟩, ?_⟩
    rintro s x H5 ⟨i, rfl, hi, hs5, W4⟩
    refine ⟨fun hlt => ?_, fun hge => ?_⟩
    · have hlt := of_decide_eq_true hlt
      obtain ⟨o, hop⟩ := get_some (l := p.opts) (i := i) (by omega)
      obtain ⟨a', ha', hat'⟩ := h.opts.at_ i o hop
      have go := gd.2.2 _ (List.mem_of_getElem? hop)
      have nx := wr_next (k := i) (n := on) (by omega) hob
      refine ⟨a', ⟨ha', by omega, hlt⟩, _, _, _, _, _, _, _, _, _, _, _, hat'.sub hs5, fun b2 hb2 H6 hH6 => ?_⟩
      rw [flat_drop hop] at W4
      have s6 : Sub H H6 := by rw [hH6]; exact hs5.trans (Sub.upd_new hb2)
      have e6 : H6 = H5.upd b2 (.cells (o.nums.map (Value.int .i64)).toArray 2) := hH6
      refine ⟨fun s x H7 => ∃ j : Nat, x = j ∧ j ≤ 10 ∧ Sub H6 H7 ∧ Ws s ((o.nums.drop j).flatMap (fun x => putU x.toNat) ++ (putI o.never ++ (p.opts.drop (i + 1)).flatMap encO)) (encP p), fun _ x _ => ((10 : Int) - x).toNat,
        ⟨0, rfl, by omega, Sub.refl _, W4.cast (by unfold encO; rw [List.append_assoc]; rfl)⟩, ?_⟩
      rintro s x H7 ⟨j, rfl, hj, hs7, W6⟩
      refine ⟨fun hlt2 => ?_, fun hge2 => ?_⟩
      · have hlt2 : (j : Int) < 10 := of_decide_eq_true hlt2
        obtain ⟨y, hy⟩ := get_some (l := o.nums) (i := j) (show j < 10 by omega)
        have ny := wr_next (k := j) (n := 10) (by omega) (by decide)
        have aty : At H7 (({ block := b2, off := 0 } : Addr).add ((j : Int).toNat * 1)) [.int .i64 y] := by
          have : At H6 (({ block := b2, off := 0 } : Addr).add ((j : Int).toNat * 1)) [.int .i64 y] := by rw [e6]; exact at_new1 (by simp [hy])
          exact this.sub hs7
        rw [flat_drop hy, List.append_assoc] at W6
        exact ⟨_, ⟨rfl, by omega, hlt2⟩, y, aty, _, put56 (go.1.2 y (List.mem_of_getElem? hy)) H7, sz W6 hE, ⟨j + 1, ny.1, by omega, hs7, W6.app⟩, by rw [ny.1]; exact ny.2⟩
      · have hge2 : ¬ (j : Int) < 10 := of_decide_eq_false hge2
        rw [flat_end (show o.nums.length ≤ j by have : o.nums.length = 10 := rfl
                                                omega), List.nil_append] at W6
        exact ⟨_, t57 go.2.1 go.2.2 H7, sz W6 hE, ⟨i + 1, nx.1, by omega, s6.trans hs7, W6.app⟩, by rw [nx.1]; exact nx.2⟩
    · have hge := of_decide_eq_false hge
      rw [flat_end (by omega)] at W4
      have el := W4.eq
      rw [List.append_nil] at el
      refine ⟨?_, hs5⟩
      rw [hS, e, ← el, strOf_of]
end Go.Proofs.Ytanahoejlnmfiaa
