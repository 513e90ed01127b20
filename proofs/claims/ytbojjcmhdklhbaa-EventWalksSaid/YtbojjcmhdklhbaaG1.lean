/- Grammar: the map of marks: contracts of a look-up, a store; of make and copy of lists. Conditions: the map's entries are marks. -/
import Derived.Test.YtbojjcmhdklhbaaE8
import Derived.MapKept
import Derived.Test.YtbojjcmhdklhbaaAxW
set_option maxRecDepth 100000
namespace Go.Proofs.Ytbojjcmhdklhbaa
open Go.Ax Go.RowKit

def mkKey (k a : Int) : Value := .agg #[.int .i64 k, .int .i64 a]
/-- A map whose entries are the marks of S, each true. -/
structure Marks (es : Array MapEntry) (S : List (Int × Int)) : Prop where
  keys : ∀ e ∈ es.toList, ∃ k a, e.key = mkKey k a ∧ e.val = .bool true
  mem : ∀ k a, (∃ e ∈ es.toList, e.key = mkKey k a) ↔ (k, a) ∈ S
theorem mkKey_inj {k a k' a' : Int} (h : mkKey k a = mkKey k' a') : k = k' ∧ a = a' := by
  unfold mkKey at h
  injection h with h
  injection h with h
  simp at h
  exact h
theorem run_check (w : World) (em : Bool) (k a : Int) : (Instr.checkKey em 10000 98 (mkKey k a)).run Try.prog w = .ok () w := by
  cases em <;> kernel_rfl
theorem run_eq (w : World) (k a k' a' : Int) : (Op.equal 98 (mkKey k a) (mkKey k' a')).run Try.prog w = .ok (k == k' && (a == a' && true)) w := by
  have h : eqAgg Try.prog 98 #[.int .i64 k, .int .i64 a] #[.int .i64 k', .int .i64 a'] = some (k == k' && (a == a' && true)) := by kernel_rfl
  exact (eqAgg_sound h).2 w
theorem run_findAsk (w : World) (k a : Int) : ∀ (l : List MapEntry) (i : Nat), (∀ e ∈ l, ∃ k a, e.key = mkKey k a ∧ e.val = .bool true) →
    ((∃ e ∈ l, e.key = mkKey k a) ∧ ∃ j e, (Instr.findAsking 98 (mkKey k a) l i).run Try.prog w = .ok (some (i + j, .bool true)) w ∧ l[j]? = some e ∧ e.key = mkKey k a) ∨
    ((¬ ∃ e ∈ l, e.key = mkKey k a) ∧ (Instr.findAsking 98 (mkKey k a) l i).run Try.prog w = .ok none w)
  | [], i, _ => .inr ⟨by simp, by simp [Instr.findAsking]⟩
  | e :: l, i, h => by
    obtain ⟨k', a', hk, hv⟩ := h e (List.mem_cons_self ..)
    simp only [Instr.findAsking, Sem.run_bind, hk, run_eq, Result.andThen_ok]
    by_cases heq : k = k' ∧ a = a'
    · obtain ⟨rfl, rfl⟩ := heq
      left
      refine ⟨⟨e, List.mem_cons_self .., hk⟩, 0, e, ?_, rfl, hk⟩
      simp [hv]
    · have hf : (k == k' && (a == a' && true)) = false := by
        cases hb : (k == k' && (a == a' && true)) with
        | false => rfl
        | true => simp at hb; exact absurd hb heq
      rw [hf]
      rcases run_findAsk w k a l (i + 1) fun x hx => h x (List.mem_cons_of_mem _ hx) with ⟨⟨x, hx, hxk⟩, j, e', h1, h2, h3⟩ | ⟨h1, h2⟩
      · left
        refine ⟨⟨x, List.mem_cons_of_mem _ hx, hxk⟩, j + 1, e', ?_, by simpa using h2, h3⟩
        simp only [Bool.false_eq_true, if_false]
        rw [h1]; congr 3; omega
      · right
        refine ⟨?_, by simpa using h2⟩
        rintro ⟨x, hx, hxk⟩
        rcases List.mem_cons.1 hx with rfl | hx
        · rw [hk] at hxk
          obtain ⟨e1, e2⟩ := mkKey_inj hxk
          exact heq ⟨e1.symm, e2.symm⟩
        · exact h1 ⟨x, hx, hxk⟩
theorem run_find (w : World) (k a : Int) (l : List MapEntry) (h : ∀ e ∈ l, ∃ k a, e.key = mkKey k a ∧ e.val = .bool true) :
    ((∃ e ∈ l, e.key = mkKey k a) ∧ ∃ j e, (Instr.findKey 98 (mkKey k a) l).run Try.prog w = .ok (some (j, .bool true)) w ∧ l[j]? = some e ∧ e.key = mkKey k a) ∨
    ((¬ ∃ e ∈ l, e.key = mkKey k a) ∧ (Instr.findKey 98 (mkKey k a) l).run Try.prog w = .ok none w) := by
  have hu : Try.prog.underlying 98 = some (.struct (Try.prog.fieldsOf 98)) := by kernel_rfl
  unfold Instr.findKey
  simp only [Sem.run_bind, run_underlying hu, Result.andThen_ok]
  cases l with
  | nil => right; simp [Instr.findNow]
  | cons e l =>
    have hn : Instr.findNow (.struct (Try.prog.fieldsOf 98)) (mkKey k a) (e :: l) 0 = none := by simp [Instr.findNow, Instr.sameNow]
    rw [hn]
    have := run_findAsk w k a (e :: l) 0 h
    simpa using this
theorem sm_lookup {H : Heap} {b : Nat} {es : Array MapEntry} {cl : Nat} {S : List (Int × Int)} (hb : H b = some (.map es cl)) (m : Marks es S) (k a : Int) :
    Sm Try.prog (Instr.lookup 90 (.map (some b)) (mkKey k a) false) H (fun v H' => v = .bool (decide ((k, a) ∈ S)) ∧ H' = H) := by
  refine ⟨fun w hw => ?_⟩
  have hu : Try.prog.underlying 90 = some (.map 98 4) := Try.underlying90
  have hz : (zeroValue 4).run Try.prog w = .ok (.bool false) w := by kernel_rfl
  have hg : (getObj b).run Try.prog w = .ok (.map es cl) w := MapKept.run_getObj_map (hw _ _ hb)
  refine ⟨_, H, w, ?_, Keeps.refl hw, rfl, rfl⟩
  unfold Instr.lookup
  simp only [Sem.run_bind, run_underlying hu, Result.andThen_ok, hg, Sem.run_pure, run_check]
  rcases run_find w k a es.toList m.keys with ⟨h1, j, e, h2, h3, h4⟩ | ⟨h1, h2⟩
  · rw [h2]
    have : (k, a) ∈ S := (m.mem k a).1 h1
    simp [this]
  · rw [h2]
    have : (k, a) ∉ S := fun hm => h1 ((m.mem k a).2 hm)
    simp [this, hz]
theorem same_key (k a : Int) : Instr.sameBits 10000 (mkKey k a) (mkKey k a) = true := by
  have : Instr.sameBits 10000 (mkKey k a) (mkKey k a) = ((k == k) && ((a == a) && true)) := by kernel_rfl
  rw [this]; simp
theorem sm_update {H : Heap} {b : Nat} {es : Array MapEntry} {cl : Nat} {S : List (Int × Int)} (hb : H b = some (.map es cl)) (m : Marks es S) (k a : Int) :
    Sm Try.prog (updU (Instr.mapUpdate 90 (.map (some b)) (mkKey k a) (.bool true))) H (fun _ H' => ∃ es' cl', Marks es' ((k, a) :: S) ∧ H' = H.upd b (.map es' cl')) := by
  refine ⟨fun w hw => ?_⟩
  have hu : Try.prog.underlying 90 = some (.map 98 4) := Try.underlying90
  have hwb := hw _ _ hb
  have hlt := heap_lt hwb
  have hg : (getObj b).run Try.prog w = .ok (.map es cl) w := MapKept.run_getObj_map hwb
  have put : ∀ (o : Obj), (setObj b o).run Try.prog w = .ok () { w with heap := w.heap.setIfInBounds b o } := fun o => MapKept.run_setObj_map o hwb
  have keeps : ∀ o : Obj, Keeps H w (H.upd b o) { w with heap := w.heap.setIfInBounds b o } := fun o => by
    refine ⟨fun i o' e => ?_, fun i hi e => ?_, by simp, rfl, rfl, rfl⟩
    · by_cases hi : i = b
      · subst hi; rw [Heap.upd_same] at e; cases e; simp [hlt]
      · rw [Heap.upd_other hi] at e
        have := hw i o' e
        simp [Ne.symm hi, this]
    · have hne : i ≠ b := fun e' => by subst e'; rw [hb] at e; cases e
      exact ⟨by simp [Ne.symm hne], by rw [Heap.upd_other hne]; exact e⟩
  rcases run_find w k a es.toList m.keys with ⟨h1, j, e, h2, h3, h4⟩ | ⟨h1, h2⟩
  · have h3' : es[j]? = some e := by simpa using h3
    refine ⟨undef, _, _, ?_, keeps (.map (es.modify j fun e => { e with key := mkKey k a, val := .bool true }) cl), _, cl, ?_, rfl⟩
    · unfold updU Instr.mapUpdate
      simp only [Sem.run_bind, run_underlying hu, Result.andThen_ok, hg, run_check, h2]
      have hk : (Instr.keyThatStays (((es[j]?).map (·.key)).getD (mkKey k a)) (mkKey k a)).run Try.prog w = .ok (mkKey k a) w := by
        rw [h3']
        simp [Instr.keyThatStays, h4, same_key]
      rw [hk]
      simp [put]
    · have hlist : (es.modify j fun e => { e with key := mkKey k a, val := .bool true }).toList = es.toList.modify j fun e => { e with key := mkKey k a, val := .bool true } := by simp
      have hin : ∀ x, x ∈ (es.modify j fun e => { e with key := mkKey k a, val := .bool true }).toList → (∃ y ∈ es.toList, y.key = x.key) ∧ x.val = .bool true := by
        intro x hx
        rw [hlist] at hx
        obtain ⟨i, hi⟩ := List.mem_iff_getElem?.1 hx
        rw [List.getElem?_modify] at hi
        by_cases hij : j = i
        · subst hij
          rw [h3] at hi
          simp at hi
          subst hi
          exact ⟨⟨e, List.mem_of_getElem? h3, h4⟩, rfl⟩
        · simp [hij] at hi
          have hm : x ∈ es.toList := by
            refine List.mem_iff_getElem?.2 ⟨i, ?_⟩
            simpa using hi
          obtain ⟨_, _, _, hv⟩ := m.keys x hm
          exact ⟨⟨x, hm, rfl⟩, hv⟩
      have hout : ∀ y ∈ es.toList, ∃ x ∈ (es.modify j fun e => { e with key := mkKey k a, val := .bool true }).toList, x.key = y.key := by
        intro y hy
        obtain ⟨i, hi⟩ := List.mem_iff_getElem?.1 hy
        by_cases hij : j = i
        · subst hij
          rw [h3] at hi; cases hi
          refine ⟨{ e with key := mkKey k a, val := .bool true }, ?_, h4.symm⟩
          rw [hlist]
          refine List.mem_iff_getElem?.2 ⟨j, ?_⟩
          rw [List.getElem?_modify, h3]; simp
        · refine ⟨y, ?_, rfl⟩
          rw [hlist]
          refine List.mem_iff_getElem?.2 ⟨i, ?_⟩
          rw [List.getElem?_modify, hi]; simp [hij]
      refine ⟨fun x hx => ?_, fun k' a' => ?_⟩
      · obtain ⟨⟨y, hy, hyk⟩, hv⟩ := hin x hx
        obtain ⟨k2, a2, h5, _⟩ := m.keys y hy
        exact ⟨k2, a2, hyk ▸ h5, hv⟩
      · constructor
        · rintro ⟨x, hx, hxk⟩
          obtain ⟨⟨y, hy, hyk⟩, _⟩ := hin x hx
          exact List.mem_cons_of_mem _ ((m.mem k' a').1 ⟨y, hy, hyk.trans hxk⟩)
        · intro hm
          have : (k', a') ∈ S := by
            rcases List.mem_cons.1 hm with e' | e'
            · cases e'; exact (m.mem k a).1 h1
            · exact e'
          obtain ⟨y, hy, hyk⟩ := (m.mem k' a').2 this
          obtain ⟨x, hx, hxk⟩ := hout y hy
          exact ⟨x, hx, hxk.trans hyk⟩
  · refine ⟨undef, _, _, ?_, keeps (.map (es.push { key := mkKey k a, val := .bool true, born := cl }) (cl + 1)), _, cl + 1, ?_, rfl⟩
    · unfold updU Instr.mapUpdate
      simp only [Sem.run_bind, run_underlying hu, Result.andThen_ok, hg, run_check, h2]
      simp [put]
    · refine ⟨fun x hx => ?_, fun k' a' => ?_⟩
      · simp at hx
        rcases hx with hx | rfl
        · exact m.keys x (by simpa using hx)
        · exact ⟨k, a, rfl, rfl⟩
      · simp only [Array.toList_push, List.mem_append, List.mem_cons, List.not_mem_nil, or_false]
        constructor
        · rintro ⟨x, hx | rfl, hxk⟩
          · exact .inr ((m.mem k' a').1 ⟨x, hx, hxk⟩)
          · obtain ⟨rfl, rfl⟩ := mkKey_inj hxk
            exact .inl rfl
        · rintro (e | hm)
          · cases e; exact ⟨_, .inr rfl, rfl⟩
          · obtain ⟨x, hx, hxk⟩ := (m.mem k' a').2 hm
            exact ⟨x, .inl hx, hxk⟩
theorem Marks.nil : Marks #[] [] := ⟨fun e h => by simp at h, fun k a => by simp⟩
end Go.Proofs.Ytbojjcmhdklhbaa
