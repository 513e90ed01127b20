/- strings.Builder, as the program's Encode uses it: contracts of copyCheck, WriteString, String. Conditions: the builder lies in memory as 'Bld' says; what is written is within the machine's limit; String is called of a builder that holds something. -/
import Derived.Test.YtanahoejlnmfiaaK5
import Derived.Test.YtanahoejlnmfiaaV4
import Derived.Test.YtanahoejlnmfiaaCd
import Derived.Lib.Strings
import Derived.Lib.Builder
import Derived.Lib.UnsafeStr
import Derived.Laws.Externs
import Derived.RegionTactic
set_option maxRecDepth 100000
namespace Go.Ax
open Go.RowKit

theorem keeps_mod {H : Heap} {w : World} {b : Nat} {o o' : Obj} {f : Obj → Obj} (h : Holds H w) (hb : H b = some o) (hf : f o = o') (n : Nat) : Keeps H w (H.upd b o') { w with heap := w.heap.modify b f, drawn := n } := by
  have hw := h _ _ hb
  have other : ∀ i, i ≠ b → (w.heap.modify b f)[i]? = w.heap[i]? := fun i hi => by
    rw [Array.getElem?_modify, if_neg (fun e => hi e.symm)]
  refine ⟨fun i o1 e => ?_, fun i hi e => ?_, by simp, rfl, rfl, rfl⟩
  · show (w.heap.modify b f)[i]? = some o1
    by_cases hib : i = b
    · subst hib
      rw [Heap.upd_same] at e; injection e with e; subst e
      rw [Array.getElem?_modify, if_pos rfl, hw, ← hf]; rfl
    · rw [Heap.upd_other hib] at e
      rw [other i hib]; exact h i o1 e
  · have hib : i ≠ b := fun q => by subst q; rw [hb] at e; cases e
    exact ⟨other i hib, by rw [Heap.upd_other hib]; exact e⟩
def byteL (l : List UInt8) : List Value := l.map fun b => Value.int .u8 b.toNat
/-- A builder in block 'b', over the known memory 'G': it holds the bytes 'l'. -/
structure Bld (G H1 : Heap) (b : Nat) (l : List UInt8) : Prop where
  sub : Sub G H1
  new : G b = none
  out : ∃ (p : Option Addr) (A : Option Addr) (n c : Nat), (p = none ∨ p = some ⟨b, 0, none⟩) ∧ H1 b = some (.cells #[.pointer p, .slice A n c] 77 (0, 0)) ∧ n = l.length ∧ n ≤ c ∧
    ((A = none ∧ n = 0 ∧ c = 0) ∨ ∃ g cur, A = some ⟨g, 0, none⟩ ∧ g ≠ b ∧ G g = none ∧ H1 g = some (.cells cur 5 (0, 0)) ∧ c ≤ cur.size ∧ ∀ (j : Nat) (v : Value), (byteL l)[j]? = some v → cur[j]? = some v)
theorem Bld.fresh {G : Heap} {b : Nat} (h : G b = none) : Bld G (G.upd b (.cells #[.pointer none, .slice none 0 0] 77)) b [] :=
  ⟨Sub.upd_new h, h, none, none, 0, 0, .inl rfl, Heap.upd_same, rfl, Nat.le_refl _, .inl ⟨rfl, rfl, rfl⟩⟩
theorem Bld.grow {G H1 H2 : Heap} {b : Nat} {l : List UInt8} (h : Bld G H1 b l) (k : Sub H1 H2) : Bld G H2 b l := by
  obtain ⟨p, A, n, c, h1, h2, h3, h4, h5⟩ := h.out
  refine ⟨h.sub.trans k, h.new, p, A, n, c, h1, k.sub _ _ h2, h3, h4, ?_⟩
  rcases h5 with h5 | ⟨g, cur, a1, a2, a3, a4, a5, a6⟩
  · exact .inl h5
  · exact .inr ⟨g, cur, a1, a2, a3, k.sub _ _ a4, a5, a6⟩
theorem byteL_len (l : List UInt8) : (byteL l).length = l.length := by simp [byteL]
theorem byteL_app (l m : List UInt8) : byteL (l ++ m) = byteL l ++ byteL m := by simp [byteL]
/-- WriteString, behind copyCheck: what 'append' makes of the buffer, and the store of the slice. -/
theorem Bld.write {G H1 : Heap} {b : Nat} {l : List UInt8} {A : Option Addr} {n c : Nat} (s : ByteArray) (hs : Sub G H1) (hn : G b = none) (hb : H1 b = some (.cells #[.pointer (some ⟨b, 0, none⟩), .slice A n c] 77 (0, 0))) (hl : n = l.length)
    (hbuf : (A = none ∧ n = 0 ∧ c = 0) ∨ ∃ g cur, A = some ⟨g, 0, none⟩ ∧ g ≠ b ∧ G g = none ∧ H1 g = some (.cells cur 5 (0, 0)) ∧ c ≤ cur.size ∧ ∀ (j : Nat) (v : Value), (byteL l)[j]? = some v → cur[j]? = some v)
    (hm : n + s.size ≤ 140737488355328) {K : Option Addr → Nat → Nat → Heap → Prop}
    (k : ∀ A' c' H', H' b = some (.cells #[.pointer (some ⟨b, 0, none⟩), .slice A n c] 77 (0, 0)) → Bld G (H'.upd b (.cells #[.pointer (some ⟨b, 0, none⟩), .slice A' (n + s.size) c'] 77)) b (l ++ s.data.toList) → K A' (n + s.size) c' H') :
    appC 5 1 1 H1 A n c (byteVals s) s.size K := by
  have hbl : (byteVals s).length = s.size := by unfold byteVals; simp
  have hbv : byteVals s = byteL s.data.toList := rfl
  have hold : ∃ old, Src H1 A old ∧ old = byteL l := by
    refine ⟨_, ?_, rfl⟩
    rcases hbuf with ⟨a1, a2, a3⟩ | ⟨g, cur, a1, a2, a3, a4, a5, a6⟩
    · left
      have : l.length = 0 := by omega
      rw [List.length_eq_zero_iff.1 this]; rfl
    · exact .inr ⟨_, a1, ⟨⟨cur, 5, (0, 0), a4, rfl, fun j v hv => by simpa using a6 j v hv⟩⟩⟩
  obtain ⟨old, ho, rfl⟩ := hold
  refine ⟨⟨byteL l, ho, by rw [byteL_len]; omega, by omega, one_bytes _, by omega, by omega, fun hcap => ?_, fun hcap g cap rest hg hle hr => ?_⟩⟩
  · rcases hbuf with ⟨a1, a2, a3⟩ | ⟨g, cur, a1, a2, a3, a4, a5, a6⟩
    · left
      have h0 : s.size = 0 := by omega
      have hnil : byteVals s = [] := List.length_eq_zero_iff.1 (by omega)
      have hsn : s.data.toList = [] := by
        have : s.data.toList.length = 0 := by rw [← size_list]; exact h0
        exact List.length_eq_zero_iff.1 this
      refine ⟨hnil, k _ _ _ hb ⟨?_, hn, some ⟨b, 0, none⟩, A, n + s.size, c, .inr rfl, Heap.upd_same, by rw [List.length_append, ← size_list, hl], hcap, .inl ⟨a1, by omega, a3⟩⟩⟩
      refine ⟨fun i o ho => ?_⟩
      rw [Heap.upd_other (fun e => by subst e; rw [hn] at ho; cases ho)]
      exact hs.sub i o ho
    · right
      have hsp : ((⟨g, 0, none⟩ : Addr)).off + n * 1 + (byteVals s).length ≤ cur.size := by show 0 + n * 1 + _ ≤ _; omega
      refine ⟨⟨g, 0, none⟩, cur, 5, a1, rfl, a4, hsp, k _ _ _ (by rw [Heap.upd_other (fun e => a2 e.symm)]; exact hb) ⟨?_, hn, some ⟨b, 0, none⟩, A, n + s.size, c, .inr rfl, Heap.upd_same, by rw [List.length_append, ← size_list, hl], hcap, .inr ⟨g, _, a1, a2, a3, by rw [Heap.upd_other a2]; exact Heap.upd_same, ?_, fun j v hv => ?_⟩⟩⟩
      · refine ⟨fun i o ho => ?_⟩
        rw [Heap.upd_other (fun e => by subst e; rw [hn] at ho; cases ho), Heap.upd_other (fun e => by subst e; rw [a3] at ho; cases ho)]
        exact hs.sub i o ho
      · rw [splice_size hsp]; exact a5
      · rw [splice_get hsp]
        rw [byteL_app] at hv
        have e0 : ((⟨g, 0, none⟩ : Addr)).off + n * 1 = n := by show 0 + n * 1 = n; omega
        rw [e0]
        by_cases hj : j < n
        · rw [if_pos hj]
          rw [List.getElem?_append_left (by rw [byteL_len]; omega)] at hv
          exact a6 j v hv
        · have hlt := get_lt hv
          rw [List.length_append, byteL_len, byteL_len, ← size_list] at hlt
          rw [if_neg hj, if_pos (by omega)]
          rw [List.getElem?_append_right (by rw [byteL_len]; omega), byteL_len, ← hl] at hv
          exact hv
  · have hgb : g ≠ b := fun e => by subst e; rw [hb] at hg; cases hg
    have hgn : G g = none := none_below hs hg
    refine k _ _ _ (by rw [Heap.upd_other (fun e => hgb e.symm)]; exact hb) ⟨?_, hn, some ⟨b, 0, none⟩, some ⟨g, 0, none⟩, n + s.size, cap, .inr rfl, Heap.upd_same, by rw [List.length_append, ← size_list, hl], hle, .inr ⟨g, _, rfl, hgb, hgn, by rw [Heap.upd_other hgb]; exact Heap.upd_same, ?_, fun j v hv => ?_⟩⟩
    · refine ⟨fun i o ho => ?_⟩
      rw [Heap.upd_other (fun e => by subst e; rw [hn] at ho; cases ho), Heap.upd_other (fun e => by subst e; rw [hgn] at ho; cases ho)]
      exact hs.sub i o ho
    · simp only [List.size_toArray, List.length_append, byteL_len, hbl, hr]; omega
    · rw [byteL_app] at hv
      simp only [List.getElem?_toArray]
      rw [List.getElem?_append_left (by rw [List.length_append, byteL_len, hbl]; have := get_lt hv; rw [List.length_append, byteL_len, byteL_len, ← size_list] at this; exact this)]
      exact hv
end Go.Ax
namespace Go.Proofs.Ytanahoejlnmfiaa
open Go.Ax Go.RowKit

theorem info77 : ∃ j, Try.prog.info? 77 = some j ∧ j.size = 2 := by
  have h : (Try.prog.info? 77).map (·.size) = some 2 := by kernel_rfl
  obtain ⟨j, hj, hs⟩ := Option.map_eq_some_iff.1 h
  exact ⟨j, hj, hs⟩
set_option maxHeartbeats 1000000 in
theorem check_used (b : Nat) (w : World) (h0 : w.cell? ⟨b, 0, none⟩ = some (.pointer (some ⟨b, 0, none⟩))) :
    Calls Try.prog 67 #[.pointer (some ⟨b, 0, none⟩)] w fun e w' => e = .returned (.tuple #[]) ∧ w' = w := by
  obtain ⟨j, hj, hjs⟩ := info77
  go_enter Try.func67, Try.ntmps67
  go_wp2
  rw [Lib.run_neq_ptr_same w _ Try.underlying74 hj]
  go_wp2
  go_end0
  exact ⟨rfl, rfl⟩
set_option maxHeartbeats 1000000 in
theorem check_fresh (b : Nat) (w : World) (h0 : w.cell? ⟨b, 0, none⟩ = some (.pointer none)) (hsh : w.shape? b = some (77, 2)) (hfz : w.frozen? ⟨b, 0, none⟩ = false) :
    Calls Try.prog 67 #[.pointer (some ⟨b, 0, none⟩)] w fun e w' => e = .returned (.tuple #[]) ∧ w' = w.setCell ⟨b, 0, none⟩ (.pointer (some ⟨b, 0, none⟩)) := by
  obtain ⟨j, hj, hjs⟩ := info77
  go_enter Try.func67, Try.ntmps67
  go_wp2
  rw [Lib.run_to_unsafe w ⟨b, 0, none⟩ Try.underlying74 Try.underlying105 hj (by rw [hjs]; decide) hsh (Nat.zero_lt_succ 1)]
  simp only [Result.andThen]
  rw [Oper.upon_value]
  go_wp2
  rw [run_callFunc_extern Try.func73 (by kernel_rfl) (by kernel_rfl) (by kernel_rfl) (e := Extern.AbiNoEscape.same) (by kernel_rfl)]
  rw [Lib.run_noEscape]
  simp only [Result.andThen]
  rw [Oper.upon_value]
  go_wp2
  rw [Lib.run_from_unsafe w ⟨b, 0, none⟩ Try.underlying105 Try.underlying74 hj hsh (by kernel_rfl)]
  simp only [Result.andThen]
  rw [Oper.upon_value]
  go_wp2
  go_end0
  exact ⟨rfl, rfl⟩
theorem t67 {H : Heap} {b : Nat} {p : Option Addr} {v : Value} (hb : H b = some (.cells #[.pointer p, v] 77 (0, 0))) (hp : p = none ∨ p = some ⟨b, 0, none⟩) :
    Tr Try.prog 67 #[.pointer (some ⟨b, 0, none⟩)] H (fun r H' => r = .tuple #[] ∧ H' = H.upd b (.cells #[.pointer (some ⟨b, 0, none⟩), v] 77 (0, 0))) := by
  refine ⟨fun w hw => ?_⟩
  have hb' := hw _ _ hb
  rcases hp with rfl | rfl
  · refine (check_fresh b w (by simp [World.cell?, hb']) (by simp [World.shape?, hb']) (by simp [World.frozen?, hb'])).mono ?_
    rintro e w' ⟨rfl, rfl⟩
    exact ⟨_, _, rfl, keeps_mod (w := w) hw hb (by simp) w.drawn, rfl, rfl⟩
  · refine (check_used b w (by simp [World.cell?, hb'])).mono ?_
    rintro e w' ⟨rfl, rfl⟩
    exact ⟨_, _, rfl, Keeps.refl hw, rfl, (Heap.upd_eq hb).symm⟩
theorem t51 {G H1 : Heap} {b : Nat} {l : List UInt8} (h : Bld G H1 b l) (s : ByteArray) (hs : l.length + s.size ≤ 140737488355328) :
    Tr Try.prog 51 #[.pointer (some ⟨b, 0, none⟩), .string s] H1 (fun v H' => v = .tuple #[.int .i64 s.size, .nilIface] ∧ Bld G H' b (l ++ s.data.toList)) := by
  obtain ⟨p, A, n, c, h1, h2, h3, h4, h5⟩ := h.out
  apply v51; unfold F51
  refine (t67 h2 h1).mono ?_
  rintro v H' ⟨rfl, rfl⟩
  have hb : (H1.upd b (.cells #[.pointer (some ⟨b, 0, none⟩), .slice A n c] 77 (0, 0))) b = some (.cells #[.pointer (some ⟨b, 0, none⟩), .slice A n c] 77 (0, 0)) := Heap.upd_same
  refine ⟨rfl, _, rfl, A, n, c, at_new1 rfl, Bld.write (G := G) (l := l) s ?_ h.new hb h3 ?_ (by omega) fun A' c' H' hb' hB => ?_⟩
  · refine ⟨fun i o ho => ?_⟩
    rw [Heap.upd_other (fun e => by subst e; rw [h.new] at ho; cases ho)]
    exact h.sub.sub i o ho
  · rcases h5 with h5 | ⟨g, cur, a1, a2, a3, a4, a5, a6⟩
    · exact .inl h5
    · exact .inr ⟨g, cur, a1, a2, a3, by rw [Heap.upd_other a2]; exact a4, a5, a6⟩
  · refine ⟨_, rfl, _, _, hb', rfl, Nat.le_refl 2, fun H2 hH2 => ⟨rfl, ?_⟩⟩
    subst hH2; exact hB
set_option maxHeartbeats 2000000 in
/-- String, of a builder that holds something: its bytes; the buffer's bytes are frozen. -/
theorem str_some (b g c : Nat) (q : Value) (cur : Array Value) (l : List UInt8) (w : World) (hb : w.heap[b]? = some (.cells #[q, .slice (some ⟨g, 0, none⟩) l.length c] 77 (0, 0))) (hg : w.heap[g]? = some (.cells cur 5 (0, 0))) (h0 : l ≠ []) (hl : l.length ≤ c)
    (hc : c ≤ cur.size) (h63 : l.length ≤ 9223372036854775807) (hcell : ∀ (j : Nat) (v : Value), (byteL l)[j]? = some v → cur[j]? = some v) :
    Calls Try.prog 55 #[.pointer (some ⟨b, 0, none⟩)] w fun e w' => e = .returned (.string ⟨l.toArray⟩) ∧ w' = w.drew.freeze ⟨g, 0, none⟩ l.length := by
  have hl0 : l.length ≠ 0 := by simpa using h0
  have c1 : w.drew.cell? ⟨b, 1, none⟩ = some (.slice (some ⟨g, 0, none⟩) l.length c) := by
    have : w.drew.heap[b]? = some (.cells #[q, .slice (some ⟨g, 0, none⟩) l.length c] 77 (0, 0)) := hb
    simp [World.cell?, this]
  have hSD : (Builtin.unsafeSliceData_ #[75] 99 #[.slice (some ⟨g, 0, none⟩) l.length c]).run Try.prog w.drew = .ok (.pointer (some ⟨g, 0, none⟩)) w.drew :=
    Lib.run_unsafeSliceData_row _ _ _ _ _ _ (by omega)
  have hUS : (Builtin.unsafeString_ #[99, 3] 9 #[.pointer (some ⟨g, 0, none⟩), .int .i64 l.length]).run Try.prog w.drew = .ok (.string ⟨l.toArray⟩) (w.drew.freeze ⟨g, 0, none⟩ l.length) := by
    refine Lib.run_unsafeString_row w.drew 99 3 9 5 Try.underlying99 (by kernel_rfl) g cur.size (by have hg' : w.drew.heap[g]? = some (.cells cur 5 (0, 0)) := hg; simp [World.shape?, hg']) l h0 (by omega) h63 ?_
    intro j x hx
    have h1 := hcell j (.int .u8 x.toNat) (by simp [byteL, hx])
    have hg' : w.drew.heap[g]? = some (.cells cur 5 (0, 0)) := hg
    have e : (⟨g, 0, none⟩ : Addr).add j = ⟨g, j, none⟩ := by unfold Addr.add; split <;> simp_all
    rw [e]; simp [World.cell?, hg', h1]
  have mixed : Try.prog.follows .mixedOrders = true := by kernel_rfl
  go_enter Try.func55, Try.ntmps55
  go_wp2
  go_region
  all_goals (go_wp2; go_ret; exact ⟨rfl, rfl⟩)
theorem t55 {G H1 : Heap} {b : Nat} {l : List UInt8} (h : Bld G H1 b l) (h0 : l ≠ []) (hl : l.length ≤ 140737488355328) :
    Tr Try.prog 55 #[.pointer (some ⟨b, 0, none⟩)] H1 (fun v H' => v = .string (strOf l) ∧ Sub G H') := by
  obtain ⟨p, A, n, c, h1, h2, rfl, h4, h5⟩ := h.out
  have hl0 : l.length ≠ 0 := by simpa using h0
  rcases h5 with ⟨_, h6, _⟩ | ⟨g, cur, rfl, a2, a3, a4, a5, a6⟩
  · exact absurd h6 hl0
  · refine ⟨fun w hw => ?_⟩
    refine (str_some b g c _ cur l w (hw _ _ h2) (hw _ _ a4) h0 h4 a5 (by omega) a6).mono ?_
    rintro e w' ⟨rfl, rfl⟩
    refine ⟨_, H1.upd g (.cells cur 5 (0, 0 + l.length)), rfl, ?_, rfl, ⟨fun i o ho => ?_⟩⟩
    · have := keeps_mod (w := w) (f := fun o => match o with
        | .cells c elem (lo, hi) => .cells c elem (if lo == hi then (0, 0 + l.length) else (min lo 0, max hi (0 + l.length)))
        | o => o) (o' := .cells cur 5 (0, 0 + l.length)) hw a4 (by simp) (w.drawn + 1)
      unfold World.freeze
      rw [if_neg hl0]; exact this
    · rw [Heap.upd_other (fun e => by subst e; rw [a3] at ho; cases ho)]
      exact h.sub.sub i o ho
/-- the closure 'u' of Encode -/
theorem t50 {G H1 : Heap} {b : Nat} {l : List UInt8} (h : Bld G H1 b l) (x : Int) (hx : 0 ≤ x ∧ x < 18446744073709551616) (hs : l.length + 10 ≤ 140737488355328) :
    Tr Try.prog 50 #[.int .i64 x, .pointer (some ⟨b, 0, none⟩)] H1 (fun v H' => v = .tuple #[] ∧ Bld G H' b (l ++ putU x.toNat)) := by
  obtain ⟨N, rfl⟩ : ∃ N : Nat, x = N := ⟨x.toNat, by omega⟩
  have hN : N < 18446744073709551616 := by omega
  apply v50; unfold F50
  rw [wrapu hx.1 hx.2]
  refine ⟨_, t52 hN H1, (t51 h _ (by have := putU_le hN; rw [strOf_size]; omega)).mono ?_⟩
  rintro v H' ⟨rfl, hB⟩
  refine ⟨_, _, rfl, rfl, ?_⟩
  rw [strOf_list] at hB
  rw [Int.toNat_natCast]; exact hB
end Go.Proofs.Ytanahoejlnmfiaa
