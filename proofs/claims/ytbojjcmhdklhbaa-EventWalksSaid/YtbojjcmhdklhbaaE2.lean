/- Events: contracts of Fields, Command, Closing, numbers, right, span, Valid (the program's and the document's). Conditions: numbers in range. -/
import Derived.Test.YtbojjcmhdklhbaaE1
import Derived.Test.YtbojjcmhdklhbaaCd
import Derived.Test.YtbojjcmhdklhbaaAxM
import Derived.Test.YtbojjcmhdklhbaaV1
import Derived.Test.YtbojjcmhdklhbaaV2
import Derived.Test.YtbojjcmhdklhbaaV3
set_option maxRecDepth 100000
namespace Go.Proofs.Ytbojjcmhdklhbaa
open Go.Ax

theorem kinds {k : Int} (h : ¬ (k < 1 ∨ k > 31)) : k = 1 ∨ k = 2 ∨ k = 3 ∨ k = 4 ∨ k = 5 ∨ k = 6 ∨ k = 7 ∨ k = 8 ∨ k = 9 ∨ k = 10 ∨ k = 11 ∨ k = 12 ∨ k = 13 ∨ k = 14 ∨ k = 15 ∨ k = 16 ∨ k = 17 ∨ k = 18 ∨ k = 19 ∨ k = 20 ∨ k = 21 ∨ k = 22 ∨ k = 23 ∨ k = 24 ∨ k = 25 ∨ k = 26 ∨ k = 27 ∨ k = 28 ∨ k = 29 ∨ k = 30 ∨ k = 31 := by omega
theorem f20 (kind : Int) (H : Heap) (K : Value → Heap → Prop) (h : K (.int .i64 (fieldsM kind)) H) : F20 kind H K := by
  by_cases hk : kind < 1 ∨ kind > 31
  · have e : fieldsM kind = -1 := by unfold fieldsM; rw [if_pos hk]
    rw [e] at h
    have n : ∀ m : Int, 1 ≤ m → m ≤ 31 → (kind == m) = false := fun m h1 h2 => by simp; omega
    have o : (decide (kind < 1) || decide (kind > 31)) = true := by simpa using hk
    unfold F20
    repeat first | exact h | refine ct o ?_ | refine cf (n _ (by decide) (by decide)) ?_
  · rcases kinds hk with rfl | rfl | rfl | rfl | rfl | rfl | rfl | rfl | rfl | rfl | rfl | rfl | rfl | rfl | rfl | rfl | rfl | rfl | rfl | rfl | rfl | rfl | rfl | rfl | rfl | rfl | rfl | rfl | rfl | rfl | rfl
    all_goals
      unfold F20
      repeat first | exact h | refine ct rfl ?_ | refine cf rfl ?_
theorem t20 (kind : Int) (H : Heap) : Tr Try.prog 20 #[.int .i64 kind] H (fun v H' => v = .int .i64 (fieldsM kind) ∧ Sub H H') := v20 (f20 _ _ _ ⟨rfl, Sub.refl _⟩)
theorem t21 (kind : Int) (H : Heap) : Tr Try.prog 21 #[.int .i64 kind] H (fun v H' => v = .int .i64 (fieldsM kind) ∧ Sub H H') := by
  apply v21; unfold F21
  refine fun b hb => ⟨fun h => ⟨?_, Sub.upd_new hb⟩, fun h => ?_⟩
  · have hk : kind < 1 ∨ kind > 31 := by simpa using h
    unfold fieldsM; rw [if_pos hk]
  · have hk : ¬ (kind < 1 ∨ kind > 31) := by simpa using h
    refine ⟨_, ⟨rfl, by omega, by omega⟩, fieldsM kind, ?_, rfl, Sub.upd_new hb⟩
    refine at_new1 ?_
    rcases kinds hk with rfl | rfl | rfl | rfl | rfl | rfl | rfl | rfl | rfl | rfl | rfl | rfl | rfl | rfl | rfl | rfl | rfl | rfl | rfl | rfl | rfl | rfl | rfl | rfl | rfl | rfl | rfl | rfl | rfl | rfl | rfl <;> rfl
theorem t22 (kind : Int) (H : Heap) : Tr Try.prog 22 #[.int .i64 kind] H (fun v H' => v = .bool (cmdM kind) ∧ Sub H H') := by apply v22; unfold F22; exact ⟨rfl, Sub.refl _⟩
theorem t23 (kind : Int) (H : Heap) : Tr Try.prog 23 #[.int .i64 kind] H (fun v H' => v = .bool (cmdM kind) ∧ Sub H H') := by apply v23; unfold F23; exact ⟨rfl, Sub.refl _⟩
theorem t24 (kind : Int) (H : Heap) : Tr Try.prog 24 #[.int .i64 kind] H (fun v H' => v = .bool (closeM kind) ∧ Sub H H') := by apply v24; unfold F24; exact ⟨rfl, Sub.refl _⟩
theorem t25 (kind : Int) (H : Heap) : Tr Try.prog 25 #[.int .i64 kind] H (fun v H' => v = .bool (closeM kind) ∧ Sub H H') := by apply v25; unfold F25; exact ⟨rfl, Sub.refl _⟩
def nameM (n : Int) : Bool := decide (n ≥ 0) && decide (n < 8)
theorem t61 (n : Int) (H : Heap) : Tr Try.prog 61 #[.int .i64 n] H (fun v H' => v = .bool (nameM n) ∧ Sub H H') := by apply v61; unfold F61; exact ⟨rfl, Sub.refl _⟩
theorem t41 (x : Ev) (H : Heap) : Tr Try.prog 41 #[x.val] H (fun v H' => v = .agg #[.int .i64 x.a, .int .i64 x.b, .int .i64 x.c, .int .i64 x.d, .int .i64 x.e, .int .i64 x.f] ∧ H' = H) := by
  apply v41; unfold F41; exact ⟨rfl, rfl⟩
theorem t44 (kind k : Int) (H : Heap) : Tr Try.prog 44 #[.int .i64 kind, .int .i64 k] H (fun v H' => v = .tuple #[.int .i64 (spanM kind k).1, .int .i64 (spanM kind k).2] ∧ Sub H H') := by
  apply v44; unfold F44 spanM
  refine ⟨fun h => ⟨by rw [if_pos h], Sub.refl _⟩, fun h => ?_⟩
  rw [if_neg (by rw [h]; simp)]
  refine ⟨fun h => ⟨by rw [if_pos h], Sub.refl _⟩, fun h => ?_⟩
  rw [if_neg (by rw [h]; simp)]
  refine ⟨fun h => ⟨by rw [if_pos h], Sub.refl _⟩, fun h => ?_⟩
  rw [if_neg (by rw [h]; simp)]
  refine ⟨fun h => ⟨by rw [if_pos h], Sub.refl _⟩, fun h => ?_⟩
  rw [if_neg (by rw [h]; simp)]
  refine ⟨fun h => ⟨by rw [if_pos h], Sub.refl _⟩, fun h => ?_⟩
  rw [if_neg (by rw [h]; simp)]
  refine ⟨fun h => ⟨by rw [if_pos h], Sub.refl _⟩, fun h => ?_⟩
  rw [if_neg (by rw [h]; simp)]
  refine ⟨fun h => ⟨by rw [if_pos h], Sub.refl _⟩, fun h => ?_⟩
  rw [if_neg (by rw [h]; simp)]
  exact ⟨rfl, Sub.refl _⟩

def restM (kind a b c d e f : Int) : Bool := numOk kind 0 a && numOk kind 1 b && numOk kind 2 c && numOk kind 3 d && numOk kind 4 e && numOk kind 5 f
structure I64 (x : Int) : Prop where
  lo : -9223372036854775808 ≤ x
  hi : x ≤ 9223372036854775807
structure Zeros (n a b c d e f : Int) : Prop where
  a : ¬ 0 < n → a = 0
  b : ¬ 1 < n → b = 0
  c : ¬ 2 < n → c = 0
  d : ¬ 3 < n → d = 0
  e : ¬ 4 < n → e = 0
  f : ¬ 5 < n → f = 0
theorem f42 (i t kind a b c d e f : Int) (H : Heap) (K : Value → Heap → Prop) (hk : ¬ (kind < 1 ∨ kind > 31)) (ra : I64 a) (rb : I64 b) (rc : I64 c) (rd : I64 d) (re : I64 e) (rf : I64 f) (hz : Zeros (fieldsM kind) a b c d e f)
    (h : K (.bool (restM kind a b c d e f)) H) : F42 i t kind a b c d e f H K := by
  obtain ⟨a0, a1⟩ := ra; obtain ⟨b0, b1⟩ := rb; obtain ⟨c0, c1⟩ := rc; obtain ⟨d0, d1⟩ := rd; obtain ⟨e0, e1⟩ := re; obtain ⟨f0, f1⟩ := rf
  obtain ⟨za, zb, zc, zd, ze, zf⟩ := hz
  rcases kinds hk with rfl | rfl | rfl | rfl | rfl | rfl | rfl | rfl | rfl | rfl | rfl | rfl | rfl | rfl | rfl | rfl | rfl | rfl | rfl | rfl | rfl | rfl | rfl | rfl | rfl | rfl | rfl | rfl | rfl | rfl | rfl
  all_goals
    unfold F42
    repeat' first | refine ct rfl ?_ | refine cf rfl ?_ | refine ⟨_, t61 _ _, ?_⟩ | refine ⟨_, fun _ => t61 _ _, ?_⟩ | refine ⟨fun h1 => ?_, fun h1 => ?_⟩ | fail
    all_goals
      refine Eq.mp (congrArg (fun b => K (.bool b) H) ?_) h
      rw [Bool.eq_iff_iff]
      try simp at h1
      simp [fieldsM, tabF] at za zb zc zd ze zf
      simp [restM, numOk, fieldsM, tabF, spanM, nameM]
      try omega
theorem t42 (x : Ev) (w : x.Wf) (hk : ¬ (x.kind < 1 ∨ x.kind > 31)) (hz : Zeros (fieldsM x.kind) x.a x.b x.c x.d x.e x.f) (H : Heap) :
    Tr Try.prog 42 #[x.val] H (fun v H' => v = .bool (restM x.kind x.a x.b x.c x.d x.e x.f) ∧ Sub H H') := by
  have r : ∀ v, v ∈ x.nums → I64 v := fun v hv => ⟨(w.nums v hv).1, (w.nums v hv).2⟩
  exact v42 (f42 _ _ _ _ _ _ _ _ _ _ _ hk (r _ (by simp [Ev.nums])) (r _ (by simp [Ev.nums])) (r _ (by simp [Ev.nums])) (r _ (by simp [Ev.nums])) (r _ (by simp [Ev.nums])) (r _ (by simp [Ev.nums])) hz ⟨rfl, Sub.refl _⟩)

theorem valid_eq (x : Ev) : validM x = (headOk x && restM x.kind x.a x.b x.c x.d x.e x.f) := rfl
theorem rest_all (kind : Int) {a b c d e f : Int} : restM kind a b c d e f = true ↔ ∀ (k : Nat) (v : Int), [a, b, c, d, e, f][k]? = some v → numOk kind k v = true := by
  unfold restM
  simp only [Bool.and_eq_true]
  constructor
  · rintro ⟨⟨⟨⟨⟨h0, h1⟩, h2⟩, h3⟩, h4⟩, h5⟩ k v hv
    match k, hv with
    | 0, hv => simp at hv; subst hv; exact h0
    | 1, hv => simp at hv; subst hv; exact h1
    | 2, hv => simp at hv; subst hv; exact h2
    | 3, hv => simp at hv; subst hv; exact h3
    | 4, hv => simp at hv; subst hv; exact h4
    | 5, hv => simp at hv; subst hv; exact h5
    | k + 6, hv => simp at hv
  · intro h
    exact ⟨⟨⟨⟨⟨h 0 a rfl, h 1 b rfl⟩, h 2 c rfl⟩, h 3 d rfl⟩, h 4 e rfl⟩, h 5 f rfl⟩
theorem rest_not {kind : Int} {a b c d e f : Int} {k : Nat} {v : Int} (h : [a, b, c, d, e, f][k]? = some v) (hn : numOk kind k v = false) : restM kind a b c d e f = false := by
  cases hr : restM kind a b c d e f with
  | false => rfl
  | true => have := (rest_all kind).1 hr k v h; rw [hn] at this; cases this
theorem head_false {x : Ev} (h : (decide (fieldsM x.kind < 0) || decide (x.id < 1) || decide (x.id > 256) || decide (x.time < 0) || decide (x.time > 1099511627776)) = true) : validM x = false := by
  rw [valid_eq]; unfold headOk; rw [h]; rfl
theorem head_true {x : Ev} (h : (decide (fieldsM x.kind < 0) || decide (x.id < 1) || decide (x.id > 256) || decide (x.time < 0) || decide (x.time > 1099511627776)) = false) : validM x = restM x.kind x.a x.b x.c x.d x.e x.f := by
  rw [valid_eq]; unfold headOk; rw [h]; rfl
/-- a loop over the six numbers -/
structure RV (x : Ev) (p : Nat → Int → Prop) (i : Int) (H H1 : Heap) : Prop where
  heap : H1 = H
  k : ∃ k : Nat, i = k ∧ k ≤ 6 ∧ ∀ j v, j < k → x.nums[j]? = some v → p j v
theorem RV.zero {x : Ev} {p : Nat → Int → Prop} {H : Heap} : RV x p 0 H H := ⟨rfl, 0, rfl, by omega, fun j v hj => absurd hj (by omega)⟩
theorem RV.next {x : Ev} {p : Nat → Int → Prop} {H H1 : Heap} {k : Nat} {v : Int} (r : RV x p k H H1) (hk : k < 6) (hv : x.nums[k]? = some v) (h : p k v) :
    RV x p (IntKind.i64.wrap ((k : Int) + 1)) H H1 ∧ (6 - IntKind.i64.wrap ((k : Int) + 1)).toNat < (6 - (k : Int)).toNat := by
  rw [wrapi (by omega) (by omega)]
  obtain ⟨k', hk', _, hp⟩ := r.k
  have : k' = k := by omega
  subst this
  refine ⟨⟨r.heap, k' + 1, by omega, by omega, fun j u hj hu => ?_⟩, by omega⟩
  by_cases hjk : j = k'
  · subst hjk; rw [hv] at hu; cases hu; exact h
  · exact hp j u (by omega) hu
theorem nums_arr (x : Ev) {k : Nat} (hk : k < 6) : ∃ v, x.nums[k]? = some v ∧ arrAt [.int .i64 x.a, .int .i64 x.b, .int .i64 x.c, .int .i64 x.d, .int .i64 x.e, .int .i64 x.f] 6 k 1 [.int .i64 v] := by
  match k, hk with
  | 0, _ => exact ⟨x.a, rfl, by decide, by decide, rfl⟩
  | 1, _ => exact ⟨x.b, rfl, by decide, by decide, rfl⟩
  | 2, _ => exact ⟨x.c, rfl, by decide, by decide, rfl⟩
  | 3, _ => exact ⟨x.d, rfl, by decide, by decide, rfl⟩
  | 4, _ => exact ⟨x.e, rfl, by decide, by decide, rfl⟩
  | 5, _ => exact ⟨x.f, rfl, by decide, by decide, rfl⟩
  | k + 6, h => exact absurd h (by omega)
theorem nums_at (x : Ev) {H : Heap} {b : Nat} {t : TypeId} {k : Nat} (hk : k < 6) : ∃ v, x.nums[k]? = some v ∧
    At (H.upd b (.cells #[.int .i64 x.a, .int .i64 x.b, .int .i64 x.c, .int .i64 x.d, .int .i64 x.e, .int .i64 x.f] t)) (({ block := b, off := 0 } : Addr).add ((k : Int).toNat * 1)) [.int .i64 v] := by
  have e : (k : Int).toNat * 1 = k := by omega
  rw [e]
  match k, hk with
  | 0, _ => exact ⟨x.a, rfl, at_new1 rfl⟩
  | 1, _ => exact ⟨x.b, rfl, at_new1 rfl⟩
  | 2, _ => exact ⟨x.c, rfl, at_new1 rfl⟩
  | 3, _ => exact ⟨x.d, rfl, at_new1 rfl⟩
  | 4, _ => exact ⟨x.e, rfl, at_new1 rfl⟩
  | 5, _ => exact ⟨x.f, rfl, at_new1 rfl⟩
  | k + 6, h => exact absurd h (by omega)
theorem t14 (x : Ev) (w : x.Wf) (H : Heap) : Tr Try.prog 14 #[x.val] H (fun v H' => v = .bool (validM x) ∧ Sub H H') := by
  apply v14; unfold F14
  refine ⟨_, t20 _ H, fun h => ⟨by rw [head_false h], Sub.refl _⟩, fun h => ?_⟩
  rw [head_true h]
  refine (t41 x H).mono fun v H' hv => ?_
  obtain ⟨rfl, rfl⟩ := hv
  refine ⟨_, _, _, _, _, _, rfl, fun i H1 => RV x (fun k v => ¬ (k : Int) < fieldsM x.kind → v = 0) i H' H1, fun i _ => (6 - i).toNat, RV.zero, fun i H1 r => ?_⟩
  have hH := r.heap; subst hH
  obtain ⟨k, rfl, hk, hp⟩ := r.k
  refine ⟨fun hlt => ?_, fun hge => ?_⟩
  · have hlt := of_decide_eq_true hlt
    obtain ⟨v, hv, ha⟩ := nums_arr x (k := k) (by omega)
    refine ⟨v, ha, fun hb => ⟨?_, Sub.refl _⟩, fun hb => RV.next r (by omega) hv fun hn => ?_⟩
    · simp at hb
      rw [rest_not hv (by unfold numOk; rw [if_neg (by omega)]; simpa using hb.2)]
    · simp at hb; exact hb (by omega)
  · have hge := of_decide_eq_false hge
    have hz : Zeros (fieldsM x.kind) x.a x.b x.c x.d x.e x.f := ⟨hp 0 _ (by omega) rfl, hp 1 _ (by omega) rfl, hp 2 _ (by omega) rfl, hp 3 _ (by omega) rfl, hp 4 _ (by omega) rfl, hp 5 _ (by omega) rfl⟩
    have hk : ¬ (x.kind < 1 ∨ x.kind > 31) := by
      rw [← fields_neg]; simp at h; omega
    exact ⟨_, t42 x w hk hz H1, rfl, Sub.refl _⟩
theorem t43 (x : Ev) (H : Heap) : Tr Try.prog 43 #[x.val] H (fun v H' => ∃ b, H b = none ∧ v = .slice (some ⟨b, 0, none⟩) 6 6 ∧ H' = H.upd b (.cells #[.int .i64 x.a, .int .i64 x.b, .int .i64 x.c, .int .i64 x.d, .int .i64 x.e, .int .i64 x.f] 2)) := by
  apply v43; unfold F43
  exact fun b hb => ⟨b, hb, rfl, rfl⟩
theorem t15 (x : Ev) (H : Heap) : Tr Try.prog 15 #[x.val] H (fun v H' => v = .bool (validM x) ∧ Sub H H') := by
  apply v15; unfold F15
  refine ⟨_, t21 _ H, fun h => ⟨by rw [head_false h], Sub.refl _⟩, fun h => ?_⟩
  rw [head_true h]
  refine (t43 x H).mono fun v H' hv => ?_
  obtain ⟨b, hb, rfl, rfl⟩ := hv
  have hs : Sub H (H.upd b (.cells #[.int .i64 x.a, .int .i64 x.b, .int .i64 x.c, .int .i64 x.d, .int .i64 x.e, .int .i64 x.f] 2)) := Sub.upd_new hb
  refine ⟨_, _, _, rfl, fun i H1 => RV x (fun k v => numOk x.kind k v = true) i _ H1, fun i _ => (6 - i).toNat, RV.zero, fun i H1 r => ?_⟩
  have hH := r.heap; subst hH
  obtain ⟨k, rfl, hk, hp⟩ := r.k
  refine ⟨fun hlt => ?_, fun hge => ⟨?_, hs⟩⟩
  · have hlt := of_decide_eq_true hlt
    obtain ⟨v, hv, ha⟩ := nums_at x (H := H) (b := b) (t := 2) (k := k) (by omega)
    have e : (decide ((k : Int) ≥ fieldsM x.kind) && v != 0 || decide ((k : Int) < fieldsM x.kind) && (decide (v < (spanM x.kind k).1) || decide (v > (spanM x.kind k).2))) = !numOk x.kind k v := by
      unfold numOk
      by_cases hn : (k : Int) < fieldsM x.kind
      · rw [if_pos hn, Bool.eq_iff_iff]; simp [hn]; omega
      · rw [if_neg hn, Bool.eq_iff_iff]; simp [hn]; omega
    refine ⟨_, _, t44 _ _ _, _, fun _ => ⟨rfl, by omega, hlt⟩, v, fun _ => ha, _, fun _ => ⟨rfl, by omega, hlt⟩, v, fun _ => ha, _, fun _ => ⟨rfl, by omega, hlt⟩, v, fun _ => ha, ?_⟩
    rw [e]
    exact ⟨fun h => ⟨by rw [rest_not hv (by simpa using h)], hs⟩, fun h => RV.next r (by omega) hv (by simpa using h)⟩
  · have hge := of_decide_eq_false hge
    have : restM x.kind x.a x.b x.c x.d x.e x.f = true := (rest_all _).2 fun j v hv => hp j v (by have := get_lt hv; simp at this; omega) hv
    rw [this]
end Go.Proofs.Ytbojjcmhdklhbaa
