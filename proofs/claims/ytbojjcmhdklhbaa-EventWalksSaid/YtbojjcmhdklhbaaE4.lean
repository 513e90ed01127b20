/- Events: shown, and the contracts of the laws EventHolds, EventReads, EventKinds. Conditions: numbers and lengths in range. -/
import Derived.Test.YtbojjcmhdklhbaaE3
import Derived.Test.YtbojjcmhdklhbaaV4
set_option maxRecDepth 100000
namespace Go.Proofs.Ytbojjcmhdklhbaa
open Go.Ax

def shown1 : Ev := ⟨1, 0, 1, 0, 7, 0, 0, 0, 0⟩
theorem shown1_wf : shown1.Wf := ⟨by decide, by decide, by decide, fun v hv => by
  simp [Ev.nums, shown1] at hv
  omega⟩
def shown2 : Ev := ⟨1, 0, 31, 1, 0, 0, 0, 0, 0⟩
theorem shown2_wf : shown2.Wf := ⟨by decide, by decide, by decide, fun v hv => by
  simp [Ev.nums, shown2] at hv
  omega⟩
theorem shown_enc : encS shown1 = ⟨#[1, 0, 1, 0, 14, 0, 0, 0, 0]⟩ := by
  have h : validM shown1 = true := by kernel_rfl
  unfold encS; rw [if_pos h]
  apply of_list_eq
  rw [strOf_list]
  have e : (fieldsM shown1.kind).toNat = 6 := by kernel_rfl
  unfold encM; rw [e]
  simp [headB, numsB, putI, zig, Ev.nums, shown1, putU_lt]
theorem t13 (H : Heap) : Tr Try.prog 13 #[] H (fun v H' => v = .bool true ∧ Sub H H') := by
  apply v13; unfold F13
  have v1 : encE shown1 = 0 := by kernel_rfl
  have d1 : decV (⟨#[2, 0, 2, 2, 109, 111, 114, 101]⟩ : ByteArray).data.toList = .tuple #[.agg #[.int .i64 2, .int .i64 0, .int .i64 2, .int .i64 1, .int .i64 0, .int .i64 0, .int .i64 0, .int .i64 0, .int .i64 0], .int .i64 4, .int .i64 0] := by kernel_rfl
  refine ⟨_, _, t16 shown1 shown1_wf H, (t18 _ (by decide) H).mono fun v H' hv => ?_⟩
  obtain ⟨rfl, hs⟩ := hv
  have f31 : fieldsM 31 = 0 := by kernel_rfl
  have f32 : fieldsM 32 = -1 := by kernel_rfl
  have v2 : validM shown2 = false := by kernel_rfl
  refine ⟨_, _, _, _, _, _, _, _, _, _, _, d1, _, t20 31 H', _, t20 32 H', _, t14 shown2 shown2_wf H', ?_, hs⟩
  rw [f31, f32, v2, v1, beqS_iff.2 shown_enc]
  rfl
theorem t3 (x : Ev) (w : x.Wf) (H : Heap) : Tr Try.prog 3 #[x.val] H (fun v H' => v = .bool true ∧ Sub H H') := by
  apply v3; unfold F3
  refine ⟨_, t13 H, _, t14 x w H, _, t15 x H, _, _, t16 x w H, _, _, t17 x H, ?_, Sub.refl _⟩
  rw [beqS_iff.2 rfl]; simp
theorem t4 (s : ByteArray) (hs : s.size ≤ 9223372036854775807) (H : Heap) : Tr Try.prog 4 #[.string s] H (fun v H' => v = .bool true ∧ Sub H H') := by
  apply v4; unfold F4
  refine ⟨_, t13 H, (t18 s hs H).mono fun v H' hv => ?_⟩
  obtain ⟨rfl, h1⟩ := hv
  refine ⟨_, _, _, _, _, _, _, _, _, _, _, rfl, (t19 s hs H').mono fun v H2 hv => ?_⟩
  obtain ⟨rfl, h2⟩ := hv
  exact ⟨_, _, _, _, _, _, _, _, _, _, _, rfl, by simp, h1.trans h2⟩
theorem t5 (kind : Int) (H : Heap) : Tr Try.prog 5 #[.int .i64 kind] H (fun v H' => v = .bool true ∧ Sub H H') := by
  apply v5; unfold F5
  exact ⟨_, t13 H, _, t20 _ H, _, t21 _ H, _, t22 _ H, _, t23 _ H, _, t24 _ H, _, t25 _ H, by simp, Sub.refl _⟩
end Go.Proofs.Ytbojjcmhdklhbaa
