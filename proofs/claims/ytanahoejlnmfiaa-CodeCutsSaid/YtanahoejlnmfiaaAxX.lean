/- Ax, seventh part: the operations that make or change memory. Conditions: those of each lemma. -/
import Derived.Test.YtanahoejlnmfiaaAxW
namespace Go.Ax
open Go.RowKit

section
variable {P : Program}

theorem newRow_run (w : World) (t : TypeId) (cs : Array Value) : (newRow t cs).run P w = .ok ⟨w.heap.size, 0, none⟩ (w.alloc (.cells cs t)) := by
  simp [newRow]

theorem first_sl (w : World) (size n : Nat) (A : Option Addr) (m c : Nat) (cs : List Value) (hl : cs.length = n * size) (h : cs = [] ∨ ∃ a, A = some a ∧ ∀ (j : Nat) v, cs[j]? = some v → w.cell? (a.add j) = some v) :
    (Builtin.firstCells size n (.slice A m c)).run P w = .ok cs.toArray w := by
  cases A with
  | none =>
    rcases h with rfl | ⟨a, e, _⟩
    · simp [Builtin.firstCells]
    · cases e
  | some a =>
    refine run_firstCells_some w size n a m c cs hl ?_
    rcases h with rfl | ⟨a', e, h⟩
    · intro j v hv; simp at hv
    · injection e with e; subst e; exact h

theorem first_str (w : World) (s : ByteArray) : (Builtin.firstCells 1 s.size (.string s)).run P w = .ok (byteVals s).toArray w := by
  simp only [Builtin.firstCells, byteVals, ByteArray.extract_zero_size, Sem.run_pure]
  congr 1
  apply Array.ext'
  simp

/-- The kinds of a second argument that 'append' takes here: a slice, a string. -/
def srcT (d : TypeDesc) : Bool := match d with | .slice _ => true | .string => true | _ => false

section
variable {t u ty e : TypeId} {d : TypeDesc} {i : TypeInfo} {zv : Value} (ht : P.underlying t = some (.slice e)) (hu : P.underlying u = some d) (hd : srcT d = true) (hi : P.info? e = some i)
  {A : Option Addr} {n c m : Nat} {new : List Value} {x : Value} {w : World} (hlen : (Builtin.lenOf x).run P w = .ok m w)
include ht hu hd hi hlen

theorem app_none (hfit : n + m ≤ c) (hnew : new = []) (hf : (Builtin.firstCells i.size m x).run P w = .ok new.toArray w) :
    (Builtin.append_ #[t, u] ty #[.slice A n c, x]).run P w = .ok (.slice A (n + m) c) w := by
  subst hnew
  cases d <;> simp [srcT] at hd
  all_goals cases A <;> simp [Builtin.append_, run_underlying ht, run_underlying hu, sizeOf, typeInfo, hi, hlen, hfit, hf, storeCells]

theorem app_fits {a : Addr} {w' : World} (hfit : n + m ≤ c) (hf : (Builtin.firstCells i.size m x).run P w = .ok new.toArray w) (hst : (storeCells (a.add (n * i.size)) new).run P w = .ok () w') :
    (Builtin.append_ #[t, u] ty #[.slice (some a) n c, x]).run P w = .ok (.slice (some a) (n + m) c) w' := by
  cases d <;> simp [srcT] at hd
  all_goals simp [Builtin.append_, run_underlying ht, run_underlying hu, sizeOf, typeInfo, hi, hlen, hfit, hf, hst]

theorem app_grows (hz : i.zero = some zv) {old : List Value} (hgt : c < n + m) (h63 : n + m ≤ 9223372036854775807) (hb : (n + m) * i.bytes ≤ 140737488355328)
    (hf : (Builtin.firstCells i.size m x).run P w.drew = .ok new.toArray w.drew) (hfo : (Builtin.firstCells i.size n (.slice A n c)).run P w.drew = .ok old.toArray w.drew) :
    (Builtin.append_ #[t, u] ty #[.slice A n c, x]).run P w = .ok (.slice (some ⟨w.heap.size, 0, none⟩) (n + m) (grownCap w (n + m) c e))
      (w.drew.alloc (.cells (old ++ new ++ (Builtin.zeroCells zv.cells (grownCap w (n + m) c e - (n + m))).toList).toArray e)) := by
  have hfit : ¬ (n + m ≤ c) := by omega
  have h63' : ¬ (9223372036854775807 < ((n : Int) + (m : Int))) := by omega
  have hg : ¬ (281474976710656 < Builtin.nextslicecap (n + m) c * i.bytes) := by have := growslice_fits hgt hb; omega
  have hrow : ∀ cs : Array Value, (newRow e cs).run P w.drew = .ok ⟨w.heap.size, 0, none⟩ (w.drew.alloc (.cells cs e)) := fun cs => newRow_run w.drew e cs
  cases d <;> simp [srcT] at hd
  all_goals
    simp [Builtin.append_, run_underlying ht, run_underlying hu, sizeOf, typeInfo, zeroValue, hi, hz, hlen, hfit, h63', hg, Question.forced, hf, hfo, hrow, grownCap]
    congr 2
    apply Array.ext'
    simp
end

theorem appC_run {t u ty e : TypeId} {d : TypeDesc} {i : TypeInfo} {zv : Value} (ht : P.underlying t = some (.slice e)) (hu : P.underlying u = some d) (hd : srcT d = true) (hi : P.info? e = some i) (hz : i.zero = some zv) (hzs : zv.cells.size = i.size)
    {H : Heap} {A : Option Addr} {n c m : Nat} {new : List Value} {x : Value} {K : Option Addr → Nat → Nat → Heap → Prop} (h : appC e i.size i.bytes H A n c new m K) {w : World} (hw : Holds H w) (hH : H w.heap.size = none)
    (hlen : ∀ w, (Builtin.lenOf x).run P w = .ok m w) (hf : ∀ w', w'.heap = w.heap → (Builtin.firstCells i.size m x).run P w' = .ok new.toArray w') :
    ∃ A' n' c' H' w', (Builtin.append_ #[t, u] ty #[.slice A n c, x]).run P w = .ok (.slice A' n' c') w' ∧ K A' n' c' H' ∧
      ((H' = H ∧ w' = w) ∨ (∃ b cur T cs, H b = some (.cells cur T (0, 0)) ∧ H' = H.upd b (.cells cs T (0, 0)) ∧ w' = w.setRow b cs) ∨ (∃ o, H' = H.upd w.heap.size o ∧ w' = w.drew.alloc o)) := by
  obtain ⟨old, h1, h2, h3, h4, h5, h6, h7, h8⟩ := h.out
  by_cases hfit : n + m ≤ c
  · rcases h7 hfit with ⟨rfl, hk⟩ | ⟨a, cur, T, rfl, hsp, hb, hroom, hk⟩
    · exact ⟨A, n + m, c, H, w, app_none ht hu hd hi (hlen w) hfit rfl (hf w rfl), hk, .inl ⟨rfl, rfl⟩⟩
    · obtain ⟨b, off, sp⟩ := a
      simp only at hsp hb hroom hk
      subst hsp
      have hst := run_storeCells_at (P := P) b (off + n * i.size) T new 0 cur w (hw _ _ hb) (by omega) (fun v hv => one_cell (allOne_mem _ h4 v hv))
      have hadd : (⟨b, off, none⟩ : Addr).add (n * i.size) = ⟨b, off + n * i.size, none⟩ := addr_add _ _ _
      have e1 : (cur.toList.take (off + n * i.size + 0) ++ new ++ cur.toList.drop (off + n * i.size + 0 + new.length)).toArray = splice cur (off + n * i.size) new := rfl
      rw [e1] at hst
      exact ⟨some ⟨b, off, none⟩, n + m, c, _, w.setRow b (splice cur (off + n * i.size) new), app_fits ht hu hd hi (hlen w) hfit (hf w rfl) (by rw [hadd]; exact hst), hk, .inr (.inl ⟨b, cur, T, _, hb, rfl, rfl⟩)⟩
  · have hgt : c < n + m := by omega
    have hw' : Holds H w.drew := hw
    have hfo := first_sl (P := P) w.drew i.size n A n c old h2 (h1.imp id fun ⟨a, e, k⟩ => ⟨a, e, k.cell hw'⟩)
    have hcut : n + m ≤ grownCap w (n + m) c e := by simp [grownCap, Question.cut]
    exact ⟨some ⟨w.heap.size, 0, none⟩, n + m, grownCap w (n + m) c e, _, _, app_grows ht hu hd hi (hlen w) hz hgt h6 h5 (hf w.drew rfl) hfo,
      h8 hgt w.heap.size (grownCap w (n + m) c e) (Builtin.zeroCells zv.cells (grownCap w (n + m) c e - (n + m))).toList hH hcut (by simp [Builtin.zeroCells, hzs]), .inr (.inr ⟨_, rfl, rfl⟩)⟩
end
end Go.Ax
