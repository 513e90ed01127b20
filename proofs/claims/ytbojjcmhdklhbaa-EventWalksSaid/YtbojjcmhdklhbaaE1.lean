/- Events, as plain data: the table's rules, their bytes, and that what is written is read as the same. Conditions: those of each lemma. -/
import Derived.Test.YtbojjcmhdklhbaaCdP
set_option maxRecDepth 100000
namespace Go.Proofs.Ytbojjcmhdklhbaa
open Go.Ax

structure Ev where
  (id time kind a b c d e f : Int)
def Ev.cells (x : Ev) : List Value := [.int .i64 x.id, .int .i64 x.time, .int .i64 x.kind, .int .i64 x.a, .int .i64 x.b, .int .i64 x.c, .int .i64 x.d, .int .i64 x.e, .int .i64 x.f]
abbrev Ev.val (x : Ev) : Value := .agg #[.int .i64 x.id, .int .i64 x.time, .int .i64 x.kind, .int .i64 x.a, .int .i64 x.b, .int .i64 x.c, .int .i64 x.d, .int .i64 x.e, .int .i64 x.f]
def Ev.nums (x : Ev) : List Int := [x.a, x.b, x.c, x.d, x.e, x.f]
def Ev.zero : Ev := ⟨0, 0, 0, 0, 0, 0, 0, 0, 0⟩
/-- each number fits -/
structure Ev.Wf (x : Ev) : Prop where
  id : -9223372036854775808 ≤ x.id ∧ x.id ≤ 9223372036854775807
  time : -9223372036854775808 ≤ x.time ∧ x.time ≤ 9223372036854775807
  kind : -9223372036854775808 ≤ x.kind ∧ x.kind ≤ 9223372036854775807
  nums : ∀ v ∈ x.nums, -9223372036854775808 ≤ v ∧ v ≤ 9223372036854775807

def tabF : List Int := [-1, 6, 1, 2, 1, 2, 1, 1, 1, 3, 2, 1, 1, 2, 3, 1, 1, 1, 2, 3, 1, 3, 3, 3, 3, 1, 2, 2, 3, 2, 1, 0]
def fieldsM (k : Int) : Int := if k < 1 ∨ k > 31 then -1 else (tabF[k.toNat]?).getD 0
def cmdM (k : Int) : Bool := decide (k ≥ 3) && decide (k ≤ 18)
def closeM (k : Int) : Bool := decide (k ≥ 15) && decide (k ≤ 18) || k == 30 || k == 31
def spanM (kind k : Int) : Int × Int :=
  if (k == 0 && (kind == 1 || kind == 3 || kind == 5 || kind == 19 || kind == 21) || k == 1 && kind == 9) = true then (0, 7) else
  if (k == 0 && (kind == 2 || decide (kind ≥ 6) && decide (kind ≤ 9) || decide (kind ≥ 12) && decide (kind ≤ 14) || decide (kind ≥ 22) && decide (kind ≤ 29)) ||
      (k == 2 && decide (kind ≥ 22) && decide (kind ≤ 24) || k == 1 && (kind == 18 || kind == 26))) = true then (1, 9223372036854775807) else
  if (kind == 1 && decide (k ≥ 2) || k == 0 && (kind == 4 || kind == 20) || k == 2 && (kind == 19 || kind == 21)) = true then (0, 9223372036854775807) else
  if (kind == 10 && k == 0) = true then (0, 3) else if (kind == 14 && k == 2) = true then (0, 1) else
  if (kind == 24 && k == 1) = true then (1, 4) else if (kind == 28 && k == 2) = true then (0, 4) else (-9223372036854775808, 9223372036854775807)
/-- may a number, the k-th of a kind, be what it is? -/
def numOk (kind : Int) (k : Nat) (v : Int) : Bool := if (k : Int) < fieldsM kind then decide ((spanM kind k).1 ≤ v) && decide (v ≤ (spanM kind k).2) else v == 0
def headOk (x : Ev) : Bool := !(decide (fieldsM x.kind < 0) || decide (x.id < 1) || decide (x.id > 256) || decide (x.time < 0) || decide (x.time > 1099511627776))
def validM (x : Ev) : Bool := headOk x && (numOk x.kind 0 x.a && numOk x.kind 1 x.b && numOk x.kind 2 x.c && numOk x.kind 3 x.d && numOk x.kind 4 x.e && numOk x.kind 5 x.f)

theorem fields_range (k : Int) : -1 ≤ fieldsM k ∧ fieldsM k ≤ 6 := by
  unfold fieldsM
  split
  · omega
  · rename_i h
    have : ∀ n : Nat, n < 32 → -1 ≤ (tabF[n]?).getD 0 ∧ (tabF[n]?).getD 0 ≤ 6 := by decide
    exact this k.toNat (by omega)
theorem fields_neg {k : Int} : fieldsM k < 0 ↔ k < 1 ∨ k > 31 := by
  unfold fieldsM
  split
  · rename_i h; exact ⟨fun _ => h, fun _ => by omega⟩
  · rename_i h
    have : ∀ n : Nat, n < 32 → 1 ≤ n → ¬ (tabF[n]?).getD 0 < 0 := by decide
    exact ⟨fun h' => absurd h' (this k.toNat (by omega) (by omega)), fun h' => absurd h' h⟩

/-! ### bytes -/
def numsB (l : List Int) : List UInt8 := (l.map putI).flatten
def headB (x : Ev) : List UInt8 := putU x.id.toNat ++ (putU x.time.toNat ++ putU x.kind.toNat)
def encM (x : Ev) : List UInt8 := headB x ++ numsB (x.nums.take (fieldsM x.kind).toNat)
def heads : Nat → List UInt8 → Nat → List Nat → Except Nat (List Nat × Nat)
  | 0, _, p, l => .ok (l, p)
  | j + 1, s, p, l => if (takeU (s.drop p)).2.2 ≠ 0 then .error (takeU (s.drop p)).2.2 else
    if (takeU (s.drop p)).1 > 4611686018427387904 then .error 54 else heads j s (p + (takeU (s.drop p)).2.1) (l ++ [(takeU (s.drop p)).1])
def rest : Nat → List UInt8 → Nat → List Int → Except Nat (List Int × Nat)
  | 0, _, p, l => .ok (l, p)
  | j + 1, s, p, l => if (takeI (s.drop p)).2.2 ≠ 0 then .error (takeI (s.drop p)).2.2 else rest j s (p + (takeI (s.drop p)).2.1) (l ++ [(takeI (s.drop p)).1])
/-- an event of numbers; what is lacking is 0 -/
def mkEv (i t k : Int) (v : List Int) : Ev := ⟨i, t, k, v[0]?.getD 0, v[1]?.getD 0, v[2]?.getD 0, v[3]?.getD 0, v[4]?.getD 0, v[5]?.getD 0⟩
def decTail (s : List UInt8) (h : List Nat) (p : Nat) : Ev × Nat × Nat :=
  if fieldsM (h[2]?.getD 0 : Nat) < 0 then (.zero, 0, 54) else
  match rest (fieldsM (h[2]?.getD 0 : Nat)).toNat s p [] with
  | .error e => (.zero, 0, e)
  | .ok (v, q) => if validM (mkEv (h[0]?.getD 0 : Nat) (h[1]?.getD 0 : Nat) (h[2]?.getD 0 : Nat) v) = true then (mkEv (h[0]?.getD 0 : Nat) (h[1]?.getD 0 : Nat) (h[2]?.getD 0 : Nat) v, q, 0) else (.zero, 0, 54)
def decM (s : List UInt8) : Ev × Nat × Nat := match heads 3 s 0 [] with
  | .error e => (.zero, 0, e)
  | .ok (h, p) => decTail s h p

/-! ### what is written is read as the same -/
theorem drop_pre (pre s : List UInt8) (k : Nat) (h : k = pre.length) : (pre ++ s).drop k = s := by subst h; simp
theorem heads_ok (more : List UInt8) : ∀ (ns : List Nat) (pre : List UInt8) (l : List Nat), (∀ n ∈ ns, n ≤ 4611686018427387904) →
    heads ns.length (pre ++ ((ns.map putU).flatten ++ more)) pre.length l = .ok (l ++ ns, (pre ++ (ns.map putU).flatten).length) := by
  intro ns
  induction ns with
  | nil => intro pre l _; simp [heads]
  | cons n ns ih =>
    intro pre l h
    have hn := h n (List.mem_cons_self ..)
    have ht : takeU ((pre ++ (((n :: ns).map putU).flatten ++ more)).drop pre.length) = (n, (putU n).length, 0) := by
      rw [drop_pre _ _ _ rfl]
      simp only [List.map_cons, List.flatten_cons, List.append_assoc]
      exact takeU_put (by omega) _
    rw [List.length_cons]
    unfold heads
    rw [ht]
    simp only [ne_eq, not_true_eq_false, if_false]
    rw [if_neg (by omega)]
    have := ih (pre ++ putU n) (l ++ [n]) fun m hm => h m (List.mem_cons_of_mem _ hm)
    simp only [List.length_append, List.append_assoc, List.map_cons, List.flatten_cons, List.singleton_append] at this ⊢
    rw [this]
theorem heads_cut : ∀ (ns : List Nat) (pre : List UInt8) (l : List Nat) (k : Nat), (∀ n ∈ ns, n ≤ 4611686018427387904) → k < ((ns.map putU).flatten).length →
    heads ns.length (pre ++ ((ns.map putU).flatten).take k) pre.length l = .error 2 := by
  intro ns
  induction ns with
  | nil => intro pre l k _ h; simp at h
  | cons n ns ih =>
    intro pre l k h hk
    have hn := h n (List.mem_cons_self ..)
    rw [List.length_cons]
    unfold heads
    rw [drop_pre _ _ _ rfl]
    simp only [List.map_cons, List.flatten_cons] at hk ⊢
    by_cases hk' : k < (putU n).length
    · rw [List.take_append_of_le_length (by omega), takeU_cut (by omega) hk']
      simp
    · rw [List.take_append, List.take_of_length_le (show (putU n).length ≤ k by omega), takeU_put (by omega)]
      simp only [ne_eq, not_true_eq_false, if_false]
      rw [if_neg (by omega)]
      have := ih (pre ++ putU n) (l ++ [n]) (k - (putU n).length) (fun m hm => h m (List.mem_cons_of_mem _ hm)) (by rw [List.length_append] at hk; omega)
      simp only [List.length_append, List.append_assoc] at this ⊢
      rw [this]
theorem takeI_put {n : Int} (h : -9223372036854775808 ≤ n) (h' : n ≤ 9223372036854775807) (more : List UInt8) : takeI (putI n ++ more) = (n, (putI n).length, 0) := by
  unfold takeI putI; rw [takeU_put (zig_lt h h'), zag_zig]
theorem takeI_cut {n : Int} {k : Nat} (h : -9223372036854775808 ≤ n) (h' : n ≤ 9223372036854775807) (hk : k < (putI n).length) : (takeI ((putI n).take k)).2.2 = 2 := by
  unfold takeI putI; rw [takeU_cut (zig_lt h h') hk]
theorem rest_ok (more : List UInt8) : ∀ (ns : List Int) (pre : List UInt8) (l : List Int), (∀ n ∈ ns, -9223372036854775808 ≤ n ∧ n ≤ 9223372036854775807) →
    rest ns.length (pre ++ (numsB ns ++ more)) pre.length l = .ok (l ++ ns, (pre ++ numsB ns).length) := by
  intro ns
  induction ns with
  | nil => intro pre l _; simp [rest, numsB]
  | cons n ns ih =>
    intro pre l h
    have hn := h n (List.mem_cons_self ..)
    have ht : takeI ((pre ++ (numsB (n :: ns) ++ more)).drop pre.length) = (n, (putI n).length, 0) := by
      rw [drop_pre _ _ _ rfl]
      unfold numsB
      simp only [List.map_cons, List.flatten_cons, List.append_assoc]
      exact takeI_put hn.1 hn.2 _
    rw [List.length_cons]
    unfold rest
    rw [ht]
    simp only [ne_eq, not_true_eq_false, if_false]
    have := ih (pre ++ putI n) (l ++ [n]) fun m hm => h m (List.mem_cons_of_mem _ hm)
    unfold numsB at this ⊢
    simp only [List.length_append, List.append_assoc, List.map_cons, List.flatten_cons, List.singleton_append] at this ⊢
    rw [this]
theorem rest_cut : ∀ (ns : List Int) (pre : List UInt8) (l : List Int) (k : Nat), (∀ n ∈ ns, -9223372036854775808 ≤ n ∧ n ≤ 9223372036854775807) → k < (numsB ns).length →
    rest ns.length (pre ++ (numsB ns).take k) pre.length l = .error 2 := by
  intro ns
  induction ns with
  | nil => intro pre l k _ h; simp [numsB] at h
  | cons n ns ih =>
    intro pre l k h hk
    have hn := h n (List.mem_cons_self ..)
    rw [List.length_cons]
    unfold rest
    rw [drop_pre _ _ _ rfl]
    have e : numsB (n :: ns) = putI n ++ numsB ns := by simp [numsB]
    rw [e] at hk ⊢
    by_cases hk' : k < (putI n).length
    · rw [List.take_append_of_le_length (by omega), takeI_cut hn.1 hn.2 hk']
      simp
    · rw [List.take_append, List.take_of_length_le (show (putI n).length ≤ k by omega), takeI_put hn.1 hn.2]
      simp only [ne_eq, not_true_eq_false, if_false]
      have := ih (pre ++ putI n) (l ++ [n]) (k - (putI n).length) (fun m hm => h m (List.mem_cons_of_mem _ hm)) (by simp at hk; omega)
      simp only [List.length_append, List.append_assoc] at this ⊢
      rw [this]

structure EvOk (x : Ev) : Prop where
  i0 : 1 ≤ x.id
  i1 : x.id ≤ 256
  t0 : 0 ≤ x.time
  t1 : x.time ≤ 1099511627776
  k0 : 1 ≤ x.kind
  k1 : x.kind ≤ 31
theorem headOk_iff {x : Ev} (h : headOk x = true) : EvOk x := by
  unfold headOk at h
  simp at h
  obtain ⟨⟨⟨⟨h1, h2⟩, h3⟩, h4⟩, h5⟩ := h
  have := fields_neg (k := x.kind)
  constructor <;> omega
theorem numOk_range {kind : Int} {k : Nat} {v : Int} (h : numOk kind k v = true) : -9223372036854775808 ≤ v ∧ v ≤ 9223372036854775807 := by
  unfold numOk at h
  split at h
  · unfold spanM at h
    revert h
    repeat' split
    all_goals (simp; try omega)
  · have : v = 0 := by simpa using h
    omega
theorem numOk_zero {kind : Int} {k : Nat} {v : Int} (h : numOk kind k v = true) (hk : ¬ (k : Int) < fieldsM kind) : v = 0 := by
  unfold numOk at h; rw [if_neg hk] at h; simpa using h
theorem valid_wf {x : Ev} (h : validM x = true) : EvOk x ∧ ∀ v ∈ x.nums, -9223372036854775808 ≤ v ∧ v ≤ 9223372036854775807 := by
  unfold validM at h
  simp only [Bool.and_eq_true] at h
  obtain ⟨h0, ⟨⟨⟨⟨a, b⟩, c⟩, d⟩, e⟩, f⟩ := h
  refine ⟨headOk_iff h0, fun v hv => ?_⟩
  simp [Ev.nums] at hv
  rcases hv with rfl | rfl | rfl | rfl | rfl | rfl
  · exact numOk_range a
  · exact numOk_range b
  · exact numOk_range c
  · exact numOk_range d
  · exact numOk_range e
  · exact numOk_range f
theorem mkEv_nums {x : Ev} (h : validM x = true) : mkEv x.id x.time x.kind (x.nums.take (fieldsM x.kind).toNat) = x := by
  unfold validM at h
  simp only [Bool.and_eq_true] at h
  obtain ⟨h0, ⟨⟨⟨⟨a, b⟩, c⟩, d⟩, e⟩, f⟩ := h
  have hr := fields_range x.kind
  have a := numOk_zero a; have b := numOk_zero b; have c := numOk_zero c; have d := numOk_zero d; have e := numOk_zero e; have f := numOk_zero f
  have key : ∀ (k : Nat) (v : Int), x.nums[k]? = some v → (¬ (k : Int) < fieldsM x.kind → v = 0) → (x.nums.take (fieldsM x.kind).toNat)[k]?.getD 0 = v := by
    intro k v hv hz
    rw [List.getElem?_take]
    split
    · rw [hv]; rfl
    · rw [hz (by omega)]; rfl
  unfold mkEv
  rw [key 0 x.a rfl a, key 1 x.b rfl b, key 2 x.c rfl c, key 3 x.d rfl d, key 4 x.e rfl e, key 5 x.f rfl f]
theorem headB_eq {x : Ev} : headB x = (([x.id.toNat, x.time.toNat, x.kind.toNat]).map putU).flatten := by simp [headB]
theorem take_length {x : Ev} : (x.nums.take (fieldsM x.kind).toNat).length = (fieldsM x.kind).toNat := by
  have := fields_range x.kind
  simp [Ev.nums]; omega
theorem dec_enc {x : Ev} (h : validM x = true) (more : List UInt8) : decM (encM x ++ more) = (x, (encM x).length, 0) := by
  obtain ⟨ok, wf⟩ := valid_wf h
  have i0 := ok.i0; have i1 := ok.i1; have t0 := ok.t0; have t1 := ok.t1; have k0 := ok.k0; have k1 := ok.k1
  unfold decM encM
  have h1 := heads_ok (numsB (x.nums.take (fieldsM x.kind).toNat) ++ more) [x.id.toNat, x.time.toNat, x.kind.toNat] [] [] (by
    intro n hn; simp at hn; omega)
  rw [← headB_eq] at h1
  simp only [List.nil_append, List.length_nil, List.length_cons] at h1
  rw [List.append_assoc, h1]
  simp only
  unfold decTail
  have e2 : ((([x.id.toNat, x.time.toNat, x.kind.toNat] : List Nat)[2]?.getD 0 : Nat) : Int) = x.kind := by simp; omega
  have e1 : ((([x.id.toNat, x.time.toNat, x.kind.toNat] : List Nat)[1]?.getD 0 : Nat) : Int) = x.time := by simp; omega
  have e0 : ((([x.id.toNat, x.time.toNat, x.kind.toNat] : List Nat)[0]?.getD 0 : Nat) : Int) = x.id := by simp; omega
  rw [e0, e1, e2]
  rw [if_neg (by rw [fields_neg]; omega)]
  have h2 := rest_ok more (x.nums.take (fieldsM x.kind).toNat) (headB x) [] fun v hv => wf v (List.mem_of_mem_take hv)
  rw [take_length] at h2
  rw [h2]
  simp only [List.nil_append]
  rw [mkEv_nums h, if_pos h]
theorem dec_cut {x : Ev} (h : validM x = true) (k : Nat) (hk : k < (encM x).length) : (decM ((encM x).take k)).2.2 = 2 := by
  obtain ⟨ok, wf⟩ := valid_wf h
  have i0 := ok.i0; have i1 := ok.i1; have t0 := ok.t0; have t1 := ok.t1; have k0 := ok.k0; have k1 := ok.k1
  have hm : ∀ n ∈ [x.id.toNat, x.time.toNat, x.kind.toNat], n ≤ 4611686018427387904 := by intro n hn; simp at hn; omega
  unfold decM
  by_cases hk' : k < (headB x).length
  · have h1 := heads_cut [x.id.toNat, x.time.toNat, x.kind.toNat] [] [] k hm (by rw [← headB_eq]; exact hk')
    rw [← headB_eq] at h1
    simp only [List.nil_append, List.length_nil, List.length_cons] at h1
    unfold encM
    rw [List.take_append_of_le_length (by omega), h1]
  · unfold encM at hk ⊢
    rw [List.take_append, List.take_of_length_le (show (headB x).length ≤ k by omega)]
    have h1 := heads_ok ((numsB (x.nums.take (fieldsM x.kind).toNat)).take (k - (headB x).length)) [x.id.toNat, x.time.toNat, x.kind.toNat] [] [] hm
    rw [← headB_eq] at h1
    simp only [List.nil_append, List.length_nil, List.length_cons] at h1
    rw [h1]
    simp only
    unfold decTail
    have e2 : ((([x.id.toNat, x.time.toNat, x.kind.toNat] : List Nat)[2]?.getD 0 : Nat) : Int) = x.kind := by simp; omega
    rw [e2]
    rw [if_neg (by rw [fields_neg]; omega)]
    have h2 := rest_cut (x.nums.take (fieldsM x.kind).toNat) (headB x) [] (k - (headB x).length) (fun v hv => wf v (List.mem_of_mem_take hv)) (by simp at hk; omega)
    rw [take_length] at h2
    rw [h2]
theorem enc_pos (x : Ev) : 3 ≤ (encM x).length := by
  unfold encM headB
  have := putU_pos x.id.toNat; have := putU_pos x.time.toNat; have := putU_pos x.kind.toNat
  simp; omega

/-! ### rows -/
def packM : List Ev → Except Nat (List UInt8)
  | [] => .ok []
  | x :: l => if validM x = true then (match packM l with | .ok s => .ok (encM x ++ s) | .error e => .error e) else .error 54
end Go.Proofs.Ytbojjcmhdklhbaa
