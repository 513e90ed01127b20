/- Grammar: make and copy of a list; the law GrammarChecks. Conditions: the list in memory, each event well formed. -/
import Derived.Test.YtbojjcmhdklhbaaG8
import Derived.Laws.MakeOwn
import Derived.Laws.CopyRow
set_option maxRecDepth 100000
namespace Go.Proofs.Ytbojjcmhdklhbaa
open Go.Ax Go.RowKit

theorem keeps_new {H : Heap} {w : World} (h : Holds H w) (o : Obj) : Keeps H w (H.upd w.heap.size o) (w.alloc o) := by
  refine ⟨fun b o' e => ?_, fun b hb e => ?_, by simp, rfl, rfl, rfl⟩
  · by_cases hb : b = w.heap.size
    · subst hb; rw [Heap.upd_same] at e; injection e with e; subst e; exact heap_alloc_new w _
    · rw [Heap.upd_other hb] at e
      exact (Below.heap_alloc w _ b (heap_lt (h b o' e))).trans (h b o' e)
  · exact ⟨Below.heap_alloc w _ b hb, by rw [Heap.upd_other (by omega)]; exact e⟩
theorem keeps_row {H : Heap} {w : World} (h : Holds H w) {b : Nat} {c : Array Value} {T : TypeId} (hb : H b = some (.cells c T (0, 0))) (c' : Array Value) : Keeps H w (H.upd b (.cells c' T (0, 0))) (w.setRow b c') := by
  have hw := h _ _ hb
  refine ⟨fun b' o e => ?_, fun b' hb' e => ?_, by simp, rfl, rfl, rfl⟩
  · by_cases hbb : b' = b
    · subst hbb; rw [Heap.upd_same] at e; injection e with e; subst e; exact setRow_heap w b' c c' T _ hw
    · rw [Heap.upd_other hbb] at e
      exact (setRow_other w b b' c' hbb).trans (h b' o e)
  · have hne : b' ≠ b := fun q => by subst q; rw [hb] at e; cases e
    exact ⟨setRow_other w b b' c' hne, by rw [Heap.upd_other hne]; exact e⟩
theorem none_size {H : Heap} {w : World} (h : Holds H w) : H w.heap.size = none := by
  cases hh : H w.heap.size with
  | none => rfl
  | some o' => have := heap_lt (h _ _ hh); omega
theorem sm_make {T e : TypeId} {sz by_ : Nat} (hu : Try.prog.underlying T = some (.slice e)) (hi : ((Try.prog.info? e).map fun i => (i.size, i.bytes, i.zero.isSome)) = some (sz, by_, true)) (n : Nat) (hn : by_ * n ≤ 281474976710656) (hn2 : n ≤ 9223372036854775807) (H : Heap) :
    Sm Try.prog (Instr.makeSlice T (.int .i64 n) (.int .i64 n)) H (fun v H' => ∃ b z, (Try.prog.info? e).bind (·.zero) = some z ∧ v = .slice (some ⟨b, 0, none⟩) n n ∧ H b = none ∧ H' = H.upd b (.cells (madeCells z.cells (n * sz)) e (0, 0))) := by
  refine ⟨fun w hw => ?_⟩
  cases hq : Try.prog.info? e with
  | none => rw [hq] at hi; cases hi
  | some i =>
    rw [hq] at hi
    simp only [Option.map_some, Option.some.injEq, Prod.mk.injEq] at hi
    obtain ⟨h1, h2, h3⟩ := hi
    obtain ⟨z, hz⟩ := Option.isSome_iff_exists.1 h3
    have hb : (i.bytes : Int) * (n : Int) ≤ 281474976710656 := by
      have : ((i.bytes * n : Nat) : Int) ≤ 281474976710656 := by rw [h2]; omega
      rwa [Int.natCast_mul] at this
    have hr := run_make (P := Try.prog) w T e i z hu hq hz .i64 .i64 n n (by omega) (Int.le_refl _) hb (by omega)
    simp only [Int.toNat_natCast] at hr
    rw [h1] at hr
    exact ⟨_, _, _, hr, keeps_new hw _, w.heap.size, z, by simp [hz], rfl, none_size hw, rfl⟩
theorem cells_one (l : List Ev) : ∀ v ∈ l.flatMap Ev.cells, v.oneCell' = true := by
  intro v hv
  obtain ⟨x, _, hx⟩ := List.mem_flatMap.1 hv
  simp only [Ev.cells, List.mem_cons, List.not_mem_nil, or_false] at hx
  rcases hx with h | h | h | h | h | h | h | h | h <;> subst h <;> rfl
theorem evs_at {H : Heap} {a : Addr} {n : Nat} {l : List Ev} (h : HasEvs H (some a) n l) {w : World} (hw : Holds H w) : ∀ j v, (l.flatMap Ev.cells)[j]? = some v → w.cell? (a.add j) = some v := by
  intro j v hv
  have hj := get_lt hv
  rw [flat_len] at hj
  obtain ⟨x, hx⟩ := get_some (l := l) (i := j / 9) (by omega)
  obtain ⟨a', ha, hat⟩ := h.at_ _ x hx
  cases ha
  have hm : j / 9 * 9 + j % 9 = j := by omega
  obtain ⟨u, hu⟩ := get_some (l := x.cells) (i := j % 9) (by have : x.cells.length = 9 := rfl; omega)
  have h1 := flat_get l (j / 9) x (j % 9) u hx hu
  rw [hm, hv] at h1
  cases h1
  have h2 := hat.cell hw (j % 9) v hu
  obtain ⟨b, o, s⟩ := a
  obtain ⟨x0, hx0⟩ := get_some (l := l) (i := 0) (by omega)
  obtain ⟨a0, ha0, hat0⟩ := h.at_ 0 x0 hx0
  cases ha0
  obtain ⟨_, _, _, _, q, _⟩ := hat0.out
  have : s = none := by simpa [Addr.add] using q
  subst this
  rw [addr_add, addr_add] at h2
  rw [addr_add]
  rw [show o + j = o + j / 9 * 9 + j % 9 by omega]; exact h2
theorem sm_copy {l : List Ev} {H : Heap} {b : Nat} {cs : Array Value} (hb : H b = some (.cells cs 23 (0, 0))) (hs : cs.size = l.length * 9) {A : Option Addr} {c : Nat} (h : HasEvs H A l.length l) :
    Sm Try.prog (Builtin.copy_ #[38, 38] 3 #[.slice (some ⟨b, 0, none⟩) l.length l.length, .slice A l.length c]) H (fun v H' => v = .int .i64 l.length ∧ H' = H.upd b (.cells (l.flatMap Ev.cells).toArray 23 (0, 0))) := by
  refine ⟨fun w hw => ?_⟩
  have hu : Try.prog.underlying 38 = some (.slice 23) := Try.underlying38
  have hi : (Try.prog.info? 23).map (·.size) = some 9 := by kernel_rfl
  have hf : (Builtin.firstCells 9 l.length (.slice A l.length c)).run Try.prog w = .ok (l.flatMap Ev.cells).toArray w := by
    cases A with
    | none =>
      have : l = [] := by
        cases l with
        | nil => rfl
        | cons x l => obtain ⟨a, ha, _⟩ := h.at_ 0 x rfl; cases ha
      subst this
      simp [Builtin.firstCells]
    | some a =>
      have := run_loadCells_list (P := Try.prog) w a (l.flatMap Ev.cells) (evs_at h hw)
      rw [flat_len] at this
      exact this
  have hst := run_storeCells_at Try.prog b 0 23 (l.flatMap Ev.cells) 0 cs w (hw _ _ hb) (by rw [flat_len]; omega) (cells_one l)
  have he : (cs.toList.take (0 + 0) ++ l.flatMap Ev.cells ++ cs.toList.drop (0 + 0 + (l.flatMap Ev.cells).length)).toArray = (l.flatMap Ev.cells).toArray := by
    rw [flat_len, List.drop_of_length_le (by simp; omega)]; simp
  rw [he] at hst
  cases hq : Try.prog.info? 23 with
  | none => rw [hq] at hi; cases hi
  | some i =>
    have hi9 : i.size = 9 := by simpa [hq] using hi
    refine ⟨.int .i64 l.length, _, _, ?_, keeps_row hw hb _, rfl, rfl⟩
    simp [Builtin.copy_, run_underlying hu, Builtin.lenOf, sizeOf, typeInfo, hq, hi9, hf, hst]
    rfl
theorem t9 {l : List Ev} (hw : ∀ x ∈ l, x.Wf) (hb : l.length * 72 ≤ 140737488355328) {H : Heap} {A : Option Addr} {n c : Nat} (h : HasEvs H A n l) : Tr Try.prog 9 #[.slice A n c] H (fun v H' => v = .bool true ∧ Sub H H') := by
  have hn := h.len; subst hn
  apply v9; unfold F9
  refine ⟨_, t33 H, smMono (sm_make (sz := 9) (by_ := 72) Try.underlying38 (by kernel_rfl) l.length (by omega) (by omega) H) fun v H1 => ?_⟩
  rintro ⟨b, z, hz, rfl, hn, e1⟩
  have s1 : Sub H H1 := by subst e1; exact Sub.upd_new hn
  have g1 : H1 b = some (.cells (madeCells z.cells (l.length * 9)) 23 (0, 0)) := by subst e1; exact Heap.upd_same
  refine ⟨_, _, _, rfl, smMono (sm_copy g1 (size_madeCells _ _) (h.sub s1)) fun v H2 => ?_⟩
  rintro ⟨rfl, e2⟩
  have s2 : Sub H H2 := by subst e2; exact sub_upd_none s1 _ hn
  have hE : HasEvs H2 (some ⟨b, 0, none⟩) l.length l := by subst e2; exact evs_new l
  have hc : checkV l = .tuple #[.int .i64 (if stand l < l.length then 52 else 0), .int .i64 (if stand l < l.length then ((stand l : Nat) : Int) else 0)] := by unfold checkV; split <;> rfl
  refine ⟨_, rfl, _, _, by have := t34 (c := l.length) hw hb hE; rw [hc] at this; exact this, _, _, by have := t35 (c := c) (by omega) (h.sub s2); rw [hc] at this; exact this, _, t30 (by omega) hE (h.sub s2), ?_, s2⟩
  rw [sameM_iff.2 rfl]
  simp
end Go.Proofs.Ytbojjcmhdklhbaa
