/- Ax, the row's frame: how long an argument may be, by the form's own reach. Conditions: none. -/
import Derived.Test.YtanahoejlnmfiaaAxR
import Derived.SizedLaws
namespace Go.Ax
open Go.RowKit Go.ChangeShapes Go.WideShapes Go.ChangeAt

theorem trod_slice_len {H : Type} {enc : TypeId × Value → H} {P : Program} {w : World} {base : Nat} {spare : Nat → Bool} {held : Bool} {t e : TypeId} {A : Option Addr} {n c : Nat} {d : DataW H} {p : List MemPlace}
    (hu : P.underlying t = some (.slice e)) (h : DataW.Trod enc P w base spare held t (.slice A n c) d p) : (n = 0 ∧ d = .nil) ∨ ∃ elems sp, d = .slice elems sp ∧ elems.length = n := by
  obtain ⟨fuel, hf⟩ := h
  rcases Deep.open_slice hu hf with ⟨h1, h2⟩ | ⟨a, len, cap, m, k, D, Pl, h1, _, _, _, _, h2, _⟩
  · simp [Value.cells] at h1
    exact .inl ⟨h1.2.1, (Prod.mk.inj h2).1⟩
  · simp [Value.cells] at h1
    refine .inr ⟨_, _, (Prod.mk.inj h2).1, ?_⟩
    simp; omega
theorem slice_reach {H : Type} {enc : TypeId × Value → H} {P : Program} {w : World} {base : Nat} {spare : Nat → Bool} {held : Bool} {t e : TypeId} {A : Option Addr} {n c : Nat} {d : DataW H} {p : List MemPlace} {ts : List TypeId} {ds : List (DataW H)}
    (hsz : (DataW.weightsEach P ts ds).all (· ≤ reachBytes) = true) {j : Nat} (ht : ts[j]? = some t) (hd : ds[j]? = some d)
    (hu : P.underlying t = some (.slice e)) (h : DataW.Trod enc P w base spare held t (.slice A n c) d p) : n * P.bytesOf e ≤ 140737488351232 := by
  have hr : reachBytes = 140737488351232 := by decide
  rcases trod_slice_len hu h with ⟨rfl, _⟩ | ⟨elems, sp, rfl, rfl⟩
  · omega
  · have := sized_slice hsz ht hd hu
    rw [hr] at this
    exact Nat.le_trans (Nat.mul_le_mul_right _ (by omega)) this
theorem string_reach {H : Type} {P : Program} {ts : List TypeId} {ds : List (DataW H)} (hsz : (DataW.weightsEach P ts ds).all (· ≤ reachBytes) = true) {j : Nat} {t : TypeId} (ht : ts[j]? = some t) {s : ByteArray}
    (hd : ds[j]? = some (.lit (.string s.data.toList))) : s.size ≤ 140737488351232 := by
  have := sized_string hsz ht hd
  have hr : reachBytes = 140737488351232 := by decide
  rw [hr] at this
  have e : s.data.toList.length = s.size := by simp
  omega
end Go.Ax
