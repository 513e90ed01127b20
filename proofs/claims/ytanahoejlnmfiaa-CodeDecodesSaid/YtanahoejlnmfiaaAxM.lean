/- Ax: cells of new blocks, and where a list's element lies. Conditions: those of each lemma. -/
import Derived.Test.YtanahoejlnmfiaaAxD
import Derived.Laws.Strings
namespace Go.Ax

theorem at_new {H : Heap} {b : Nat} {c : Array Value} {t : TypeId} {fz : Nat × Nat} {k : Nat} {cs : List Value} (h : ∀ j v, cs[j]? = some v → c[k + j]? = some v) :
    At (H.upd b (.cells c t fz)) (({ block := b, off := 0 } : Addr).add k) cs := by
  refine ⟨⟨c, t, fz, ?_, ?_, fun j v hv => ?_⟩⟩
  · have : (({ block := b, off := 0 } : Addr).add k).block = b := by unfold Addr.add; split <;> rfl
    rw [this]; exact Heap.upd_same
  · unfold Addr.add; split <;> rfl
  · have : (({ block := b, off := 0 } : Addr).add k).off = k := by
      unfold Addr.add; split
      · rename_i e; exact e.symm
      · simp
    rw [this]; exact h j v hv
/-- one cell of a new block -/
theorem at_new1 {H : Heap} {b : Nat} {c : Array Value} {t : TypeId} {fz : Nat × Nat} {k : Nat} {v : Value} (h : c[k]? = some v) :
    At (H.upd b (.cells c t fz)) (({ block := b, off := 0 } : Addr).add k) [v] := at_new fun j u hj => by
  cases j with
  | succ j => simp at hj
  | zero => simp at hj; subst hj; simpa using h
theorem at_head {H : Heap} {a : Addr} {v : Value} {cs : List Value} (h : At H a (v :: cs)) : At H a [v] := by
  obtain ⟨c, t, fz, h1, h2, h3⟩ := h.out
  exact ⟨⟨c, t, fz, h1, h2, fun j u hj => h3 j u (by
    cases j with
    | zero => exact hj
    | succ j => simp at hj)⟩⟩
theorem at_drop {H : Heap} {a : Addr} {cs : List Value} (k : Nat) (h : At H a cs) : At H (a.add k) (cs.drop k) := by
  obtain ⟨c, t, fz, h1, h2, h3⟩ := h.out
  have hb : (a.add k).block = a.block := by unfold Addr.add; split <;> rfl
  have hs : (a.add k).spot = none := by unfold Addr.add; split <;> simp_all
  have ho : (a.add k).off = a.off + k := by unfold Addr.add; split <;> simp_all
  refine ⟨⟨c, t, fz, by rw [hb]; exact h1, hs, fun j v hv => ?_⟩⟩
  rw [ho, Nat.add_assoc]
  exact h3 (k + j) v (by rw [← hv, List.getElem?_drop])
theorem at_take {H : Heap} {a : Addr} {cs : List Value} (k : Nat) (h : At H a cs) : At H a (cs.take k) := by
  obtain ⟨c, t, fz, h1, h2, h3⟩ := h.out
  refine ⟨⟨c, t, fz, h1, h2, fun j v hv => h3 j v ?_⟩⟩
  rw [List.getElem?_take] at hv
  split at hv
  · exact hv
  · cases hv
/-- one cell of a row of cells -/
theorem at_one {H : Heap} {a : Addr} {cs : List Value} (k : Nat) {v : Value} (h : At H a cs) (hv : cs[k]? = some v) : At H (a.add k) [v] := by
  have := at_drop k h
  have e : cs.drop k = v :: cs.drop (k + 1) := by
    have hk : k < cs.length := by
      rcases Nat.lt_or_ge k cs.length with h | h
      · exact h
      · rw [List.getElem?_eq_none h] at hv; cases hv
    rw [List.drop_eq_getElem_cons hk]
    rw [List.getElem?_eq_getElem hk] at hv
    congr 1; exact Option.some.inj hv
  rw [e] at this
  exact at_head this
theorem get_lt {α : Type} {l : List α} {i : Nat} {x : α} (h : l[i]? = some x) : i < l.length := by
  rcases Nat.lt_or_ge i l.length with h' | h'
  · exact h'
  · rw [List.getElem?_eq_none h'] at h; cases h
theorem get_some {α : Type} {l : List α} {i : Nat} (h : i < l.length) : ∃ x, l[i]? = some x := ⟨_, List.getElem?_eq_getElem h⟩
/-- a test whose answer is known -/
theorem ct {b : Bool} {p q : Prop} (h : b = true) (k : p) : (b = true → p) ∧ (b = false → q) := ⟨fun _ => k, fun e => (by rw [h] at e; cases e)⟩
theorem cf {b : Bool} {p q : Prop} (h : b = false) (k : q) : (b = true → p) ∧ (b = false → q) := ⟨fun e => (by rw [h] at e; cases e), fun _ => k⟩
/-- the first answer below n -/
def scan {α : Type} (n : Nat) (g : Nat → Option α) : Option α := (List.range n).findSome? g
theorem scan_none {α : Type} {n : Nat} {g : Nat → Option α} (h : ∀ j, j < n → g j = none) : scan n g = none := by
  unfold scan; rw [List.findSome?_eq_none_iff]; intro j hj; exact h j (by simpa using hj)
theorem scan_hit {α : Type} {n : Nat} {g : Nat → Option α} {k : Nat} {r : α} (hk : k < n) (h : ∀ j, j < k → g j = none) (e : g k = some r) : scan n g = some r := by
  unfold scan
  rw [show List.range n = List.range k ++ (k :: (List.range (n - k - 1)).map (k + 1 + ·)) by
    have : n = k + (1 + (n - k - 1)) := by omega
    rw [this, List.range_add, List.range_add]
    simp [List.range_succ]
    intro a _; omega]
  have q : (List.range k).findSome? g = none := by have := scan_none h; unfold scan at this; exact this
  rw [List.findSome?_append, q]
  simp [e]
/-- strings, as lists of bytes -/
theorem size_list (s : ByteArray) : s.size = s.data.toList.length := by simp
theorem app_list (a b : ByteArray) : (a ++ b).data.toList = a.data.toList ++ b.data.toList := by simp
theorem strOf_of (s : ByteArray) : strOf s.data.toList = s := of_list_eq (by rw [strOf_list])
theorem strOf_app (l m : List UInt8) : strOf l ++ strOf m = strOf (l ++ m) := of_list_eq (by rw [app_list, strOf_list, strOf_list, strOf_list])
theorem extract_list (s : ByteArray) (i j : Nat) : (s.extract i j).data.toList = (s.data.toList.drop i).take (j - i) := by
  rw [ByteArray.data_extract]; simp [List.take_drop]
theorem beqS_iff {a b : ByteArray} : beqS a b = true ↔ a = b := by
  unfold beqS
  rw [ByteArray.toList_eq, ByteArray.toList_eq, beq_iff_eq]
  exact ⟨fun h => of_list_eq h, fun h => h ▸ rfl⟩
theorem drop_list (s : ByteArray) (i : Nat) : (s.extract i s.size).data.toList = s.data.toList.drop i := by
  rw [extract_list, List.take_of_length_le]
  simp
theorem none_below {H H1 : Heap} (h : Sub H H1) {b : Nat} (k : H1 b = none) : H b = none := by
  cases hh : H b with
  | none => rfl
  | some o => have := h.sub b o hh; rw [k] at this; cases this
/-! ### an array of the call's own -/
structure Arr (H H1 : Heap) (b : Nat) (cs : List Value) : Prop where
  sub : Sub H H1
  new : H b = none
  at_ : ∃ T, H1 b = some (.cells ⟨cs⟩ T (0, 0))
theorem Arr.mk' {H : Heap} {b : Nat} {cs : List Value} {T : TypeId} (h : H b = none) : Arr H (H.upd b (.cells ⟨cs⟩ T)) b cs := ⟨Sub.upd_new h, h, T, Heap.upd_same⟩
theorem Arr.below {H0 H H1 : Heap} {b : Nat} {cs : List Value} (h : Arr H H1 b cs) (k : Sub H0 H) : Arr H0 H1 b cs := ⟨k.trans h.sub, none_below k h.new, h.at_⟩
theorem add_block (b k : Nat) : ((⟨b, 0, none⟩ : Addr).add k).block = b := by unfold Addr.add; split <;> rfl
theorem add_spot (b k : Nat) : ((⟨b, 0, none⟩ : Addr).add k).spot = none := by unfold Addr.add; split <;> rfl
theorem add_off (b k : Nat) : ((⟨b, 0, none⟩ : Addr).add k).off = k := by unfold Addr.add; split <;> simp_all
theorem splice_one {cs : List Value} {k : Nat} {v : Value} (hk : k < cs.length) : splice ⟨cs⟩ k [v] = ⟨cs.set k v⟩ := by
  unfold splice
  apply Array.ext'
  simp [List.set_eq_take_append_cons_drop, hk]
theorem Arr.put {H H1 : Heap} {b : Nat} {cs : List Value} (h : Arr H H1 b cs) {ix : Int} {k : Nat} (hi : ix.toNat * 1 = k) (hk : k < cs.length) {v : Value} {Q : Array Value → TypeId → Prop}
    (q : ∀ c T, Arr H (H1.upd ((⟨b, 0, none⟩ : Addr).add (ix.toNat * 1)).block (.cells (splice c ((⟨b, 0, none⟩ : Addr).add (ix.toNat * 1)).off [v]) T)) b (cs.set k v) → Q c T) :
    ∃ c T, H1 ((⟨b, 0, none⟩ : Addr).add (ix.toNat * 1)).block = some (.cells c T (0, 0)) ∧ ((⟨b, 0, none⟩ : Addr).add (ix.toNat * 1)).spot = none ∧
      ((⟨b, 0, none⟩ : Addr).add (ix.toNat * 1)).off + [v].length ≤ c.size ∧ Q c T := by
  obtain ⟨T, ht⟩ := h.at_
  refine ⟨⟨cs⟩, T, by rw [add_block]; exact ht, add_spot _ _, by rw [add_off, hi]; exact hk, q _ _ ?_⟩
  rw [add_block, add_off, hi, splice_one hk]
  refine ⟨⟨fun i o ho => ?_⟩, h.new, T, Heap.upd_same⟩
  rw [Heap.upd_other (fun e => by subst e; rw [h.new] at ho; cases ho)]
  exact h.sub.sub i o ho
theorem Arr.all {H H1 : Heap} {b : Nat} {cs : List Value} (h : Arr H H1 b cs) : At H1 ⟨b, 0, none⟩ cs := by
  obtain ⟨T, ht⟩ := h.at_
  exact ⟨⟨_, T, _, ht, rfl, fun j v hj => by simpa using hj⟩⟩
theorem Arr.get {H H1 : Heap} {b : Nat} {cs : List Value} (h : Arr H H1 b cs) {k : Nat} {v : Value} (hv : cs[k]? = some v) : At H1 ((⟨b, 0, none⟩ : Addr).add k) [v] := at_one k h.all hv
theorem upd_none {H : Heap} {b i : Nat} {o : Obj} (h : (H.upd b o) i = none) : H i = none := by
  by_cases e : i = b
  · subst e; rw [Heap.upd_same] at h; cases h
  · rw [Heap.upd_other e] at h; exact h
theorem OwnS.grow {H H1 H2 : Heap} {A : Option Addr} {n c sz : Nat} {cs : List Value} (h : OwnS H H1 A n c sz cs) (k : Sub H1 H2) : OwnS H H2 A n c sz cs := by
  refine ⟨h.sub.trans k, h.len, h.cap, ?_⟩
  rcases h.at_ with h | ⟨b, cur, T, h1, h2, h3, h4⟩
  · exact .inl h
  · exact .inr ⟨b, cur, T, h1, h2, k.sub _ _ h3, h4⟩
end Go.Ax
