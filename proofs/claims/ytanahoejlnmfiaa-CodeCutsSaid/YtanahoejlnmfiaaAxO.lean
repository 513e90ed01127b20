/- Ax: slices that a call itself grows by append. Conditions: those of each lemma. -/
import Derived.Test.YtanahoejlnmfiaaAxR
namespace Go.Ax

/-- Over 'H', the call knows 'H1', in which the slice 'A, n, c' is its own (or nil) and holds the cells 'cs'. -/
structure OwnS (H H1 : Heap) (A : Option Addr) (n c sz : Nat) (cs : List Value) : Prop where
  sub : Sub H H1
  len : cs.length = n * sz
  cap : n ≤ c
  at_ : (A = none ∧ n = 0 ∧ c = 0) ∨ ∃ b cur T, A = some ⟨b, 0, none⟩ ∧ H b = none ∧ H1 b = some (.cells cur T (0, 0)) ∧ c * sz ≤ cur.size ∧ ∀ (j : Nat) (v : Value), cs[j]? = some v → cur[j]? = some v
theorem OwnS.nil (H : Heap) (sz : Nat) : OwnS H H none 0 0 sz [] := ⟨Sub.refl _, by simp, Nat.le_refl _, .inl ⟨rfl, rfl, rfl⟩⟩
theorem OwnS.src {H H1 : Heap} {A : Option Addr} {n c sz : Nat} {cs : List Value} (h : OwnS H H1 A n c sz cs) : Src H1 A cs := by
  rcases h.at_ with ⟨rfl, h1, h2⟩ | ⟨b, cur, T, rfl, h1, h2, h3, h4⟩
  · left
    have := h.len
    rw [h1] at this
    simpa using this
  · exact .inr ⟨_, rfl, ⟨⟨cur, T, (0, 0), h2, rfl, fun j v hv => by simpa using h4 j v hv⟩⟩⟩
theorem splice_get {cur : Array Value} {off : Nat} {new : List Value} (h : off + new.length ≤ cur.size) (j : Nat) :
    (splice cur off new)[j]? = if j < off then cur[j]? else if j < off + new.length then new[j - off]? else cur[j]? := by
  unfold splice
  have hl : (cur.toList.take off).length = off := by simp; omega
  simp only [List.getElem?_toArray]
  split
  · rename_i hj
    rw [List.append_assoc, List.getElem?_append_left (by omega), List.getElem?_take]
    simp [hj]
  · rename_i hj
    split
    · rename_i hj2
      rw [List.append_assoc, List.getElem?_append_right (by omega), hl, List.getElem?_append_left (by omega)]
    · rename_i hj2
      rw [List.append_assoc, List.getElem?_append_right (by omega), hl, List.getElem?_append_right (by omega), List.getElem?_drop]
      simp
      congr 1; omega
theorem splice_size {cur : Array Value} {off : Nat} {new : List Value} (h : off + new.length ≤ cur.size) : (splice cur off new).size = cur.size := by
  unfold splice; simp; omega
/-- 'append' to what the call owns. -/
theorem own_app {e : TypeId} {sz bytes : Nat} {H H1 : Heap} {A : Option Addr} {n c : Nat} {cs new : List Value} {m : Nat} {K : Option Addr → Nat → Nat → Heap → Prop} (h : OwnS H H1 A n c sz cs)
    (hm : new.length = m * sz) (h1 : allOne new = true) (hb : (n + m) * bytes ≤ 140737488355328) (hl : n + m ≤ 9223372036854775807)
    (k : ∀ A' c' H', OwnS H H' A' (n + m) c' sz (cs ++ new) → K A' (n + m) c' H') : appC e sz bytes H1 A n c new m K := by
  have hlen := h.len
  refine ⟨⟨cs, h.src, h.len, hm, h1, hb, hl, fun hc => ?_, fun hc b cap rest hn hcap hr => ?_⟩⟩
  · rcases h.at_ with ⟨rfl, rfl, rfl⟩ | ⟨b, cur, T, rfl, q1, q2, q3, q4⟩
    · left
      have hm0 : m = 0 := by omega
      subst hm0
      have hnew : new = [] := by simpa using hm
      subst hnew
      exact ⟨rfl, k _ _ _ ⟨h.sub, by simpa using hlen, hc, .inl ⟨rfl, rfl, rfl⟩⟩⟩
    · right
      have hsz : n * sz + new.length ≤ cur.size := by
        rw [hm, ← Nat.add_mul]
        exact Nat.le_trans (Nat.mul_le_mul_right sz hc) q3
      refine ⟨_, cur, T, rfl, rfl, q2, by simpa using hsz, k _ _ _ ⟨?_, by simp [hlen, hm, Nat.add_mul], hc, .inr ⟨b, _, T, rfl, q1, Heap.upd_same, ?_, ?_⟩⟩⟩
      · refine ⟨fun i o ho => ?_⟩
        rw [Heap.upd_other (fun e => by subst e; rw [q1] at ho; cases ho)]
        exact h.sub.sub i o ho
      · rw [splice_size (by simpa using hsz)]; exact q3
      · intro j v hv
        rw [splice_get (by simpa using hsz)]
        simp only [Nat.zero_add]
        by_cases hj : j < n * sz
        · rw [if_pos hj]
          rw [List.getElem?_append_left (by omega)] at hv
          exact q4 j v hv
        · have hjl : j < n * sz + new.length := by
            have := (List.getElem?_eq_some_iff.1 hv).1
            simp at this; omega
          rw [if_neg hj, if_pos hjl]
          rw [List.getElem?_append_right (by omega), hlen] at hv
          exact hv
  · refine k _ _ _ ⟨h.sub.trans (Sub.upd_new hn), by simp [hlen, hm, Nat.add_mul], hcap, .inr ⟨b, _, e, rfl, ?_, Heap.upd_same, ?_, ?_⟩⟩
    · cases hh : H b with
      | none => rfl
      | some o => rw [h.sub.sub b o hh] at hn; cases hn
    · simp [hlen, hm, hr]
      rw [← Nat.add_assoc, ← Nat.add_mul, ← Nat.add_mul]
      exact Nat.mul_le_mul_right sz (by omega)
    · intro j v hv
      have hj := (List.getElem?_eq_some_iff.1 hv).1
      simp only [List.getElem?_toArray]
      rw [List.getElem?_append_left hj]
      exact hv
end Go.Ax
