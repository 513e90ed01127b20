/- Events: contracts of Encode and Decode (the program's and the document's), of 'with'. Conditions: numbers and lengths in range. -/
import Derived.Test.YtbojjcmhdklhbaaE2
set_option maxRecDepth 100000
namespace Go.Proofs.Ytbojjcmhdklhbaa
open Go.Ax

theorem putI_len {n : Int} (h : I64 n) : (putI n).length ≤ 10 := put_len10 (zig_lt h.lo h.hi)
theorem numsB_len : ∀ l : List Int, (∀ v ∈ l, I64 v) → (numsB l).length ≤ 10 * l.length
  | [], _ => by simp [numsB]
  | n :: l, h => by
    have h1 := putI_len (h n (List.mem_cons_self ..))
    have h2 := numsB_len l fun v hv => h v (List.mem_cons_of_mem _ hv)
    have e : numsB (n :: l) = putI n ++ numsB l := by simp [numsB]
    rw [e]; simp; omega
theorem numsB_app (l m : List Int) : numsB (l ++ m) = numsB l ++ numsB m := by simp [numsB]
theorem numsB_snoc {l : List Int} {k : Nat} {v : Int} (h : l[k]? = some v) : numsB (l.take (k + 1)) = numsB (l.take k) ++ putI v := by
  rw [List.take_add_one, h, numsB_app]; simp [numsB]
theorem headB_len {x : Ev} (o : EvOk x) : (headB x).length ≤ 30 := by
  have i0 := o.i0; have i1 := o.i1; have t0 := o.t0; have t1 := o.t1; have k0 := o.k0; have k1 := o.k1
  have h1 := put_len10 (N := x.id.toNat) (by omega)
  have h2 := put_len10 (N := x.time.toNat) (by omega)
  have h3 := put_len10 (N := x.kind.toNat) (by omega)
  unfold headB; simp; omega
theorem valid_i64 {x : Ev} (h : validM x = true) : ∀ v ∈ x.nums, I64 v := fun v hv => ⟨((valid_wf h).2 v hv).1, ((valid_wf h).2 v hv).2⟩
def encS (x : Ev) : ByteArray := if validM x = true then strOf (encM x) else ⟨#[]⟩
def encE (x : Ev) : Int := if validM x = true then 0 else 54
def encV (x : Ev) : Value := .tuple #[.string (encS x), .int .i64 (encE x)]
/-- the loop over the numbers -/
structure RE (x : Ev) (s : ByteArray) (i : Int) (H H1 : Heap) : Prop where
  heap : H1 = H
  k : ∃ k : Nat, i = k ∧ k ≤ 6 ∧ s = strOf (headB x ++ numsB ((x.nums.take (fieldsM x.kind).toNat).take k))
theorem pre_len {x : Ev} (h : validM x = true) (k : Nat) : (headB x ++ numsB ((x.nums.take (fieldsM x.kind).toNat).take k)).length ≤ 90 := by
  have h1 := headB_len (valid_wf h).1
  have h2 := numsB_len ((x.nums.take (fieldsM x.kind).toNat).take k) fun v hv => valid_i64 h v (List.mem_of_mem_take (List.mem_of_mem_take hv))
  have h3 : ((x.nums.take (fieldsM x.kind).toNat).take k).length ≤ 6 := by simp [Ev.nums]; omega
  simp; omega
theorem head_str {x : Ev} : strOf (putU x.id.toNat) ++ strOf (putU x.time.toNat) ++ strOf (putU x.kind.toNat) = strOf (headB x ++ numsB ((x.nums.take (fieldsM x.kind).toNat).take 0)) := by
  rw [strOf_app, strOf_app]; unfold headB numsB; simp
theorem all_str {x : Ev} {k : Nat} (hk : (fieldsM x.kind).toNat ≤ k) : headB x ++ numsB ((x.nums.take (fieldsM x.kind).toNat).take k) = encM x := by
  unfold encM
  rw [List.take_of_length_le (show (x.nums.take (fieldsM x.kind).toNat).length ≤ k by simp; omega)]
theorem RE.add {x : Ev} {s : ByteArray} {k : Nat} {v : Int} {H H1 : Heap} (hk : k < 6) (r : RE x s k H H1) (hv : x.nums[k]? = some v) (hn : (k : Int) < fieldsM x.kind) :
    RE x (s ++ strOf (putI v)) (IntKind.i64.wrap ((k : Int) + 1)) H H1 := by
  obtain ⟨k', hk', _, hs⟩ := r.k
  have : k' = k := by omega
  subst this
  rw [wrapi (by omega) (by omega)]
  refine ⟨r.heap, k' + 1, by omega, by omega, ?_⟩
  rw [hs, strOf_app, numsB_snoc (v := v), List.append_assoc]
  rw [List.getElem?_take, if_pos (by omega)]; exact hv
theorem RE.skip {x : Ev} {s : ByteArray} {k : Nat} {H H1 : Heap} (hk : k < 6) (r : RE x s k H H1) (hn : ¬ (k : Int) < fieldsM x.kind) :
    RE x s (IntKind.i64.wrap ((k : Int) + 1)) H H1 := by
  obtain ⟨k', hk', _, hs⟩ := r.k
  have : k' = k := by omega
  subst this
  rw [wrapi (by omega) (by omega)]
  refine ⟨r.heap, k' + 1, by omega, by omega, ?_⟩
  rw [hs, all_str (by omega), all_str (by omega)]
theorem word {n : Int} (h : 0 ≤ n) (h' : n < 18446744073709551616) : IntKind.u64.wrap n = ((n.toNat : Nat) : Int) := by rw [wrapu h h']; omega
theorem t16 (x : Ev) (w : x.Wf) (H : Heap) : Tr Try.prog 16 #[x.val] H (fun v H' => v = encV x ∧ Sub H H') := by
  apply v16; unfold F16
  refine ⟨_, t14 x w H, fun h => ⟨?_, Sub.refl _⟩, fun h => ?_⟩
  · have h : ¬ validM x = true := by simpa using h
    unfold encV encS encE; rw [if_neg h, if_neg h]
  · have h : validM x = true := by simpa using h
    have o := (valid_wf h).1
    have i0 := o.i0; have i1 := o.i1; have t0 := o.t0; have t1 := o.t1; have k0 := o.k0; have k1 := o.k1
    rw [word (n := x.id) (by omega) (by omega), word (n := x.time) (by omega) (by omega), word (n := x.kind) (by omega) (by omega)]
    have hp := pre_len h 0
    have hp' := headB_len o
    unfold headB at hp'
    simp only [List.length_append] at hp'
    refine ⟨_, t45 (by omega) H, _, t45 (by omega) H, by rw [strOf_size, strOf_size]; omega, _, t45 (by omega) H, ?_, ?_⟩
    · rw [strOf_app, strOf_size, strOf_size, List.length_append]; omega
    rw [head_str]
    refine (t41 x H).mono fun v H' hv => ?_
    obtain ⟨rfl, rfl⟩ := hv
    refine ⟨_, _, _, _, _, _, rfl, fun s i H1 => RE x s i H' H1, fun _ i _ => (6 - i).toNat, ⟨rfl, 0, rfl, by omega, rfl⟩, fun s i H1 r => ?_⟩
    have hH := r.heap; subst hH
    obtain ⟨k, rfl, hk, hs⟩ := r.k
    refine ⟨fun hlt => ?_, fun hge => ⟨?_, Sub.refl _⟩⟩
    · have hlt := of_decide_eq_true hlt
      obtain ⟨v, hv, ha⟩ := nums_arr x (k := k) (by omega)
      have m : (6 - IntKind.i64.wrap ((k : Int) + 1)).toNat < (6 - (k : Int)).toNat := by rw [wrapi (by omega) (by omega)]; omega
      refine ⟨v, ha, _, t20 _ H1, fun hn => ?_, fun hn => ⟨r.skip (by omega) (of_decide_eq_false hn), m⟩⟩
      have hv64 := valid_i64 h v (List.mem_of_getElem? hv)
      refine ⟨_, t46 hv64.lo hv64.hi H1, ?_, r.add (by omega) hv (of_decide_eq_true hn), m⟩
      have := pre_len h k; have := putI_len hv64
      rw [hs, strOf_size, strOf_size]; omega
    · have hge := of_decide_eq_false hge
      have hr := fields_range x.kind
      unfold encV encS encE; rw [if_pos h, if_pos h, hs, all_str (by omega)]
theorem t17 (x : Ev) (H : Heap) : Tr Try.prog 17 #[x.val] H (fun v H' => v = encV x ∧ Sub H H') := by
  apply v17; unfold F17
  refine ⟨_, t15 x H, fun h => ⟨?_, Sub.refl _⟩, fun h => ?_⟩
  · have h : ¬ validM x = true := by simpa using h
    unfold encV encS encE; rw [if_neg h, if_neg h]
  · have h : validM x = true := by simpa using h
    have o := (valid_wf h).1
    have i0 := o.i0; have i1 := o.i1; have t0 := o.t0; have t1 := o.t1; have k0 := o.k0; have k1 := o.k1
    rw [word (n := x.id) (by omega) (by omega), word (n := x.time) (by omega) (by omega), word (n := x.kind) (by omega) (by omega)]
    have hp := pre_len h 0
    have hp' := headB_len o
    unfold headB at hp'
    simp only [List.length_append] at hp'
    refine ⟨_, t47 (by omega) H, _, t47 (by omega) H, by rw [strOf_size, strOf_size]; omega, _, t47 (by omega) H, ?_, ?_⟩
    · rw [strOf_app, strOf_size, strOf_size, List.length_append]; omega
    rw [head_str]
    refine (t43 x H).mono fun v H' hv => ?_
    obtain ⟨b, hb, rfl, rfl⟩ := hv
    have hsub : Sub H (H.upd b (.cells #[.int .i64 x.a, .int .i64 x.b, .int .i64 x.c, .int .i64 x.d, .int .i64 x.e, .int .i64 x.f] 2)) := Sub.upd_new hb
    have hr := fields_range x.kind
    refine ⟨_, _, _, rfl, _, t21 _ _, fun s i H1 => RE x s i (H.upd b (.cells #[.int .i64 x.a, .int .i64 x.b, .int .i64 x.c, .int .i64 x.d, .int .i64 x.e, .int .i64 x.f] 2)) H1, fun _ i _ => (6 - i).toNat, ⟨rfl, 0, rfl, by omega, rfl⟩, fun s i H1 r => ?_⟩
    have hH := r.heap; subst hH
    obtain ⟨k, rfl, hk, hs⟩ := r.k
    refine ⟨fun hlt => ?_, fun hge => ⟨?_, hsub⟩⟩
    · have hlt := of_decide_eq_true hlt
      obtain ⟨v, hv, ha⟩ := nums_at x (H := H) (b := b) (t := 2) (k := k) (by omega)
      have m : (6 - IntKind.i64.wrap ((k : Int) + 1)).toNat < (6 - (k : Int)).toNat := by rw [wrapi (by omega) (by omega)]; omega
      have hv64 := valid_i64 h v (List.mem_of_getElem? hv)
      refine ⟨_, ⟨rfl, by omega, by omega⟩, v, ha, _, t48 hv64.lo hv64.hi _, ?_, r.add (by omega) hv hlt, m⟩
      have := pre_len h k; have := putI_len hv64
      rw [hs, strOf_size, strOf_size]; omega
    · have hge := of_decide_eq_false hge
      unfold encV encS encE; rw [if_pos h, if_pos h, hs, all_str (by omega)]

/-! ### reading -/
def decV (s : List UInt8) : Value := .tuple #[(decM s).1.val, .int .i64 (decM s).2.1, .int .i64 (decM s).2.2]
theorem takeU_len {s : List UInt8} (h : (takeU s).2.2 = 0) : (takeU s).2.1 ≤ s.length := by
  rcases h' : takeU s with ⟨m, k, e⟩
  rw [h'] at h
  have h : e = 0 := h
  subst h
  obtain ⟨_, hk, t, rfl⟩ := takeU_some h'
  show k ≤ _
  rw [hk]; simp
theorem takeI_len {s : List UInt8} (h : (takeI s).2.2 = 0) : (takeI s).2.1 ≤ s.length := takeU_len h
theorem dec_err {s : List UInt8} {e : Nat} (h : heads 3 s 0 [] = .error e) : decV s = .tuple #[Ev.zero.val, .int .i64 0, .int .i64 e] := by
  unfold decV decM; rw [h]; rfl
def pad (m : Nat) (z : Value) (l : List Value) : List Value := l ++ List.replicate (m - l.length) z
theorem pad_len {m : Nat} {z : Value} {l : List Value} (h : l.length ≤ m) : (pad m z l).length = m := by unfold pad; simp; omega
theorem pad_set {m : Nat} {z : Value} {l : List Value} {v : Value} (h : l.length < m) : (pad m z l).set l.length v = pad m z (l ++ [v]) := by
  unfold pad
  rw [List.set_append_right _ _ (Nat.le_refl _), Nat.sub_self]
  have e : m - l.length = (m - (l ++ [v]).length) + 1 := by simp; omega
  rw [e, List.replicate_succ]
  simp
theorem pad_get {m : Nat} {z : Value} {l : List Value} {k : Nat} (h : k < m) : (pad m z l)[k]? = some (l[k]?.getD z) := by
  unfold pad
  rcases Nat.lt_or_ge k l.length with hk | hk
  · rw [List.getElem?_append_left hk, List.getElem?_eq_getElem hk]; rfl
  · rw [List.getElem?_append_right hk, List.getElem?_eq_none hk, List.getElem?_replicate, if_pos (by omega)]; rfl
/-- the loop over the head: the program's -/
structure RH (s : ByteArray) (p i : Int) (k : Nat) (l : List Nat) (q : Nat) : Prop where
  pe : p = (q : Int)
  ie : i = (k : Int)
  k3 : k ≤ 3
  len : l.length = k
  at_ : q ≤ s.size
  small : ∀ n ∈ l, n ≤ 4611686018427387904
  eq : heads 3 s.data.toList 0 [] = heads (3 - k) s.data.toList q l
theorem RH.zero (s : ByteArray) : RH s 0 0 0 [] 0 := ⟨rfl, rfl, by omega, rfl, by omega, by simp, rfl⟩
theorem RH.unf {s : ByteArray} {p i : Int} {k : Nat} {l : List Nat} {q : Nat} (r : RH s p i k l q) (h : k < 3) :
    heads 3 s.data.toList 0 [] = if (takeU (s.data.toList.drop q)).2.2 ≠ 0 then .error (takeU (s.data.toList.drop q)).2.2 else
      if (takeU (s.data.toList.drop q)).1 > 4611686018427387904 then .error 54 else heads (3 - (k + 1)) s.data.toList (q + (takeU (s.data.toList.drop q)).2.1) (l ++ [(takeU (s.data.toList.drop q)).1]) := by
  rw [r.eq]
  have e : 3 - k = (3 - (k + 1)) + 1 := by omega
  rw [e, heads]
theorem RH.err {s : ByteArray} {p i : Int} {k : Nat} {l : List Nat} {q : Nat} (r : RH s p i k l q) (h : k < 3) (he : (((takeU (s.data.toList.drop q)).2.2 : Int) != 0) = true) :
    decV s.data.toList = .tuple #[Ev.zero.val, .int .i64 0, .int .i64 (takeU (s.data.toList.drop q)).2.2] := by
  refine dec_err ?_
  rw [r.unf h, if_pos]
  intro e; rw [e] at he; cases he
theorem ne_false {n : Nat} (h : ((n : Int) != 0) = false) : n = 0 := by simpa using h
theorem RH.big {s : ByteArray} {p i : Int} {k : Nat} {l : List Nat} {q : Nat} (r : RH s p i k l q) (h : k < 3) (he : (((takeU (s.data.toList.drop q)).2.2 : Int) != 0) = false)
    (hb : decide (((takeU (s.data.toList.drop q)).1 : Int) > 4611686018427387904) = true) : decV s.data.toList = .tuple #[Ev.zero.val, .int .i64 0, .int .i64 54] := by
  refine dec_err ?_
  rw [r.unf h, if_neg (by rw [ne_false he]; simp), if_pos (by have := of_decide_eq_true hb; omega)]
theorem RH.fit {s : ByteArray} {p i : Int} {k : Nat} {l : List Nat} {q : Nat} (r : RH s p i k l q) (he : (((takeU (s.data.toList.drop q)).2.2 : Int) != 0) = false) : q + (takeU (s.data.toList.drop q)).2.1 ≤ s.size := by
  have h1 := takeU_len (ne_false he)
  have h2 := r.at_
  have h3 := size_list s
  rw [List.length_drop] at h1; omega
theorem RH.next {s : ByteArray} (hs : s.size ≤ 9223372036854775807) {p i : Int} {k : Nat} {l : List Nat} {q : Nat} (r : RH s p i k l q) (h : k < 3) (he : (((takeU (s.data.toList.drop q)).2.2 : Int) != 0) = false)
    (hb : decide (((takeU (s.data.toList.drop q)).1 : Int) > 4611686018427387904) = false) :
    RH s (IntKind.i64.wrap (p + (takeU (s.data.toList.drop q)).2.1)) (IntKind.i64.wrap (i + 1)) (k + 1) (l ++ [(takeU (s.data.toList.drop q)).1]) (q + (takeU (s.data.toList.drop q)).2.1) ∧
      (3 - IntKind.i64.wrap (i + 1)).toNat < (3 - i).toNat := by
  have hf := r.fit he
  have hp := r.pe; have hi := r.ie; have hl := r.len
  have hb : ¬ (takeU (s.data.toList.drop q)).1 > 4611686018427387904 := by have := of_decide_eq_false hb; omega
  rw [wrapi (x := i + 1) (by omega) (by omega), wrapi (x := p + _) (by omega) (by omega)]
  refine ⟨⟨by omega, by omega, by omega, by simp [hl], hf, fun n hn => ?_, ?_⟩, by omega⟩
  · rcases List.mem_append.1 hn with hn | hn
    · exact r.small n hn
    · simp at hn; subst hn; omega
  · rw [r.unf h, if_neg (by rw [ne_false he]; simp), if_neg hb]
theorem RH.done {s : ByteArray} {p i : Int} {k : Nat} {l : List Nat} {q : Nat} (r : RH s p i k l q) (h : ¬ i < 3) : heads 3 s.data.toList 0 [] = .ok (l, q) ∧ ∃ a b c, l = [a, b, c] := by
  have hi := r.ie; have := r.k3
  have hk : k = 3 := by omega
  subst hk
  refine ⟨by rw [r.eq, Nat.sub_self, heads], ?_⟩
  match l, r.len with
  | [a, b, c], _ => exact ⟨a, b, c, rfl⟩
theorem resU_eq (r : Nat × Nat × Nat) : resU r = .tuple #[.int .u64 r.1, .int .i64 r.2.1, .int .i64 r.2.2] := rfl
/-- the loop over the numbers, with 'n' of them -/
structure RR (s : ByteArray) (n q0 : Nat) (p i : Int) (k : Nat) (l : List Int) (q : Nat) : Prop where
  pe : p = (q : Int)
  ie : i = (k : Int)
  kn : k ≤ n
  len : l.length = k
  at_ : q ≤ s.size
  small : ∀ v ∈ l, I64 v
  eq : rest n s.data.toList q0 [] = rest (n - k) s.data.toList q l
theorem RR.zero {s : ByteArray} {n q0 : Nat} (h : q0 ≤ s.size) : RR s n q0 q0 0 0 [] q0 := ⟨rfl, rfl, by omega, rfl, h, by simp, rfl⟩
theorem RR.unf {s : ByteArray} {n q0 : Nat} {p i : Int} {k : Nat} {l : List Int} {q : Nat} (r : RR s n q0 p i k l q) (h : k < n) :
    rest n s.data.toList q0 [] = if (takeI (s.data.toList.drop q)).2.2 ≠ 0 then .error (takeI (s.data.toList.drop q)).2.2 else rest (n - (k + 1)) s.data.toList (q + (takeI (s.data.toList.drop q)).2.1) (l ++ [(takeI (s.data.toList.drop q)).1]) := by
  rw [r.eq]
  have e : n - k = (n - (k + 1)) + 1 := by omega
  rw [e, rest]
theorem RR.err {s : ByteArray} {n q0 : Nat} {p i : Int} {k : Nat} {l : List Int} {q : Nat} (r : RR s n q0 p i k l q) (h : k < n) (he : (((takeI (s.data.toList.drop q)).2.2 : Int) != 0) = true) :
    rest n s.data.toList q0 [] = .error (takeI (s.data.toList.drop q)).2.2 := by
  rw [r.unf h, if_pos]
  intro e; rw [e] at he; cases he
theorem RR.next {s : ByteArray} (hs : s.size ≤ 9223372036854775807) {n q0 : Nat} (hn : n ≤ 6) {p i : Int} {k : Nat} {l : List Int} {q : Nat} (r : RR s n q0 p i k l q) (h : k < n) (he : (((takeI (s.data.toList.drop q)).2.2 : Int) != 0) = false) :
    RR s n q0 (IntKind.i64.wrap (p + (takeI (s.data.toList.drop q)).2.1)) (IntKind.i64.wrap (i + 1)) (k + 1) (l ++ [(takeI (s.data.toList.drop q)).1]) (q + (takeI (s.data.toList.drop q)).2.1) ∧
      (6 - IntKind.i64.wrap (i + 1)).toNat < (6 - i).toNat := by
  have h1 := takeI_len (ne_false he)
  have h2 := r.at_
  have h3 := size_list s
  rw [List.length_drop] at h1
  have hp := r.pe; have hi := r.ie; have hl := r.len
  rw [wrapi (x := i + 1) (by omega) (by omega), wrapi (x := p + _) (by omega) (by omega)]
  refine ⟨⟨by omega, by omega, by omega, by simp [hl], by omega, fun v hv => ?_, ?_⟩, by omega⟩
  · rcases List.mem_append.1 hv with hv | hv
    · exact r.small v hv
    · simp at hv; subst hv
      have := zag_range (takeU_lt (s.data.toList.drop q))
      exact ⟨this.1, this.2⟩
  · rw [r.unf h, if_neg (by rw [ne_false he]; simp)]
theorem RR.done {s : ByteArray} {n q0 : Nat} {p i : Int} {k : Nat} {l : List Int} {q : Nat} (r : RR s n q0 p i k l q) (h : ¬ k < n) : rest n s.data.toList q0 [] = .ok (l, q) := by
  have := r.kn
  have hk : k = n := by omega
  subst hk
  rw [r.eq, Nat.sub_self, rest]
theorem dec_none {s : List UInt8} {a b c q : Nat} (h : heads 3 s 0 [] = .ok ([a, b, c], q)) (hf : fieldsM c < 0) : decV s = .tuple #[Ev.zero.val, .int .i64 0, .int .i64 54] := by
  unfold decV decM; rw [h]; simp only; unfold decTail
  have e : (([a, b, c] : List Nat)[2]?.getD 0 : Nat) = c := rfl
  rw [e, if_pos hf]; rfl
theorem dec_rerr {s : List UInt8} {a b c q e : Nat} (h : heads 3 s 0 [] = .ok ([a, b, c], q)) (hf : ¬ fieldsM c < 0) (hr : rest (fieldsM c).toNat s q [] = .error e) : decV s = .tuple #[Ev.zero.val, .int .i64 0, .int .i64 e] := by
  unfold decV decM; rw [h]; simp only; unfold decTail
  have e : (([a, b, c] : List Nat)[2]?.getD 0 : Nat) = c := rfl
  rw [e, if_neg hf, hr]; rfl
theorem dec_end {s : List UInt8} {a b c q q' : Nat} {l : List Int} (h : heads 3 s 0 [] = .ok ([a, b, c], q)) (hf : ¬ fieldsM c < 0) (hr : rest (fieldsM c).toNat s q [] = .ok (l, q')) :
    decV s = if validM (mkEv a b c l) = true then .tuple #[(mkEv a b c l).val, .int .i64 q', .int .i64 0] else .tuple #[Ev.zero.val, .int .i64 0, .int .i64 54] := by
  unfold decV decM; rw [h]; simp only; unfold decTail
  have e : (([a, b, c] : List Nat)[2]?.getD 0 : Nat) = c := rfl
  have e1 : (([a, b, c] : List Nat)[1]?.getD 0 : Nat) = b := rfl
  have e0 : (([a, b, c] : List Nat)[0]?.getD 0 : Nat) = a := rfl
  rw [e, e1, e0, if_neg hf, hr]; simp only
  split <;> rfl
theorem mkEv_wf {a b c : Nat} {l : List Int} (ha : a ≤ 4611686018427387904) (hb : b ≤ 4611686018427387904) (hc : c ≤ 4611686018427387904) (h : ∀ v ∈ l, I64 v) : (mkEv a b c l).Wf := by
  have g : ∀ k : Nat, I64 (l[k]?.getD 0) := by
    intro k
    cases hk : l[k]? with
    | none => exact ⟨by decide, by decide⟩
    | some v => exact h v (List.mem_of_getElem? hk)
  refine ⟨by show _ ≤ (a : Int) ∧ (a : Int) ≤ _; omega, by show _ ≤ (b : Int) ∧ (b : Int) ≤ _; omega, by show _ ≤ (c : Int) ∧ (c : Int) ≤ _; omega, fun v hv => ?_⟩
  simp [Ev.nums, mkEv] at hv
  rcases hv with rfl | rfl | rfl | rfl | rfl | rfl
  · exact ⟨(g 0).lo, (g 0).hi⟩
  · exact ⟨(g 1).lo, (g 1).hi⟩
  · exact ⟨(g 2).lo, (g 2).hi⟩
  · exact ⟨(g 3).lo, (g 3).hi⟩
  · exact ⟨(g 4).lo, (g 4).hi⟩
  · exact ⟨(g 5).lo, (g 5).hi⟩
theorem t51 (i t k a b c d e f n0 n1 n2 n3 n4 n5 : Int) (H : Heap) : Tr Try.prog 51 #[.agg #[.int .i64 i, .int .i64 t, .int .i64 k, .int .i64 a, .int .i64 b, .int .i64 c, .int .i64 d, .int .i64 e, .int .i64 f],
    .agg #[.int .i64 n0, .int .i64 n1, .int .i64 n2, .int .i64 n3, .int .i64 n4, .int .i64 n5]] H
    (fun v H' => v = .agg #[.int .i64 i, .int .i64 t, .int .i64 k, .int .i64 n0, .int .i64 n1, .int .i64 n2, .int .i64 n3, .int .i64 n4, .int .i64 n5] ∧ Sub H H') := by
  apply v51; unfold F51
  intro b hb
  exact ⟨_, Sub.refl _, by decide, by decide, by decide, by decide, by decide, by decide, n0, at_new1 rfl, n1, at_new1 rfl, n2, at_new1 rfl, n3, at_new1 rfl, n4, at_new1 rfl, n5, at_new1 rfl,
    Sub.refl _, Sub.refl _, Sub.refl _, Sub.refl _, Sub.refl _, Sub.refl _, rfl, Sub.upd_new hb⟩
theorem drop_q {s : ByteArray} {x : Int} {q : Nat} (h : x = (q : Int)) : (s.extract x.toNat s.size).data.toList = s.data.toList.drop q := by
  subst h; rw [Int.toNat_natCast, drop_list]
theorem map_snoc {α : Type} (f : α → Value) (l : List α) (a : α) : l.map f ++ [f a] = (l ++ [a]).map f := by simp
def u64s (l : List Nat) : List Value := l.map fun n => .int .u64 (n : Nat)
def i64s (l : List Int) : List Value := l.map (Value.int .i64)
theorem u64s_snoc (l : List Nat) (n : Nat) : u64s (l ++ [n]) = u64s l ++ [.int .u64 n] := by simp [u64s]
theorem i64s_snoc (l : List Int) (n : Int) : i64s (l ++ [n]) = i64s l ++ [.int .i64 n] := by simp [i64s]
theorem i64s_get {l : List Int} {k : Nat} (h : k < 6) : (pad 6 (.int .i64 0) (i64s l))[k]? = some (.int .i64 (l[k]?.getD 0)) := by
  rw [pad_get h]
  unfold i64s
  rw [List.getElem?_map]
  cases l[k]? <;> rfl
theorem at_cast {H : Heap} {a : Addr} {cs cs' : List Value} (h : At H a cs) (e : cs = cs') : At H a cs' := e ▸ h
theorem pad6 {l : List Int} (h : l.length ≤ 6) : pad 6 (.int .i64 0) (i64s l) = [.int .i64 (l[0]?.getD 0), .int .i64 (l[1]?.getD 0), .int .i64 (l[2]?.getD 0), .int .i64 (l[3]?.getD 0), .int .i64 (l[4]?.getD 0), .int .i64 (l[5]?.getD 0)] := by
  match l, h with
  | [], _ => rfl
  | [_], _ => rfl
  | [_, _], _ => rfl
  | [_, _, _], _ => rfl
  | [_, _, _, _], _ => rfl
  | [_, _, _, _, _], _ => rfl
  | [_, _, _, _, _, _], _ => rfl
theorem t18 (s : ByteArray) (hs : s.size ≤ 9223372036854775807) (H : Heap) : Tr Try.prog 18 #[.string s] H (fun v H' => v = decV s.data.toList ∧ Sub H H') := by
  apply v18; unfold F18
  intro b hb
  refine ⟨fun x x1 _ _ _ _ _ _ _ _ _ H1 => ∃ k l q, RH s x x1 k l q ∧ Arr H H1 b (pad 3 (.int .u64 0) (u64s l)), fun _ x1 _ _ _ _ _ _ _ _ _ _ => (3 - x1).toNat, ⟨0, [], 0, RH.zero s, Arr.mk' hb⟩, fun x x1 x2 x3 x4 x5 x6 x7 x8 x9 x10 H1 ⟨k, l, q, r, ar⟩ => ?_⟩
  have hp := r.pe; have hi := r.ie; have hl := r.len; have hq := r.at_
  refine ⟨fun hlt => ?_, fun hge => ?_⟩
  · have hlt := of_decide_eq_true hlt
    have tt := t49 (s.extract x.toNat s.size) H1
    rw [drop_q hp] at tt
    refine ⟨⟨by omega, by omega⟩, _, _, _, tt, fun he => ⟨(r.err (by omega) he).symm, ar.sub⟩, fun he => ⟨fun hb => ⟨(r.big (by omega) he hb).symm, ar.sub⟩, fun hb => ⟨⟨by omega, by omega⟩, ?_⟩⟩⟩
    obtain ⟨r', m⟩ := r.next hs (by omega) he hb
    refine ar.put (k := k) (by omega) (by rw [pad_len (by simp [u64s]; omega)]; omega) fun c T ar' => ⟨⟨k + 1, _, _, r', ?_⟩, m⟩
    have e : (u64s l).length = k := by simp [u64s, hl]
    have e2 := pad_set (m := 3) (z := .int .u64 0) (l := u64s l) (v := .int .u64 (takeU (s.data.toList.drop q)).1) (by omega)
    rw [e] at e2
    rw [u64s_snoc, ← e2]
    exact ar'
  · have hge := of_decide_eq_false hge
    obtain ⟨hd, a, b', c, rfl⟩ := r.done hge
    have ha := r.small a (by simp); have hb' := r.small b' (by simp); have hc := r.small c (by simp)
    refine ⟨by decide, (a : Nat), ar.get (k := 0) rfl, by decide, (b' : Nat), ar.get (k := 1) rfl, by decide, (c : Nat), ar.get (k := 2) rfl, ?_⟩
    rw [wrapi (x := (c : Int)) (by omega) (by omega), wrapi (x := (a : Int)) (by omega) (by omega), wrapi (x := (b' : Int)) (by omega) (by omega)]
    refine ⟨_, t20 _ H1, fun hf => ⟨(dec_none hd (of_decide_eq_true hf)).symm, ar.sub⟩, fun hf b1 hb1 => ⟨_, t20 _ _, ?_⟩⟩
    have hf := of_decide_eq_false hf
    have fr := fields_range c
    refine ⟨fun p i _ _ _ _ _ _ _ _ _ H2 => ∃ k l q', RR s (fieldsM c).toNat q p i k l q' ∧ Arr H1 H2 b1 (pad 6 (.int .i64 0) (i64s l)), fun _ x1 _ _ _ _ _ _ _ _ _ _ => (6 - x1).toNat, ⟨0, [], q, hp ▸ RR.zero r.at_, Arr.mk' hb1⟩,
      fun p i x21 x22 x23 x24 x25 x26 x27 x28 x29 H2 ⟨k, l, q', r2, ar2⟩ => ?_⟩
    have hp2 := r2.pe; have hi2 := r2.ie; have hl2 := r2.len; have hq2 := r2.at_; have hk2 := r2.kn
    have sub := ar.sub.trans ar2.sub
    refine ⟨fun hlt => ?_, fun hge => ?_⟩
    · have hlt := of_decide_eq_true hlt
      have tt := t50 (s.extract p.toNat s.size) H2
      rw [drop_q hp2] at tt
      refine ⟨⟨by omega, by omega⟩, _, _, _, tt, fun he => ⟨(dec_rerr hd hf (r2.err (by omega) he)).symm, sub⟩, fun he => ⟨⟨by omega, by omega⟩, ?_⟩⟩
      obtain ⟨r', m⟩ := r2.next hs (by omega) (by omega) he
      refine ar2.put (k := k) (by omega) (by rw [pad_len (by simp [i64s]; omega)]; omega) fun c' T ar' => ⟨⟨k + 1, _, _, r', ?_⟩, m⟩
      have e : (i64s l).length = k := by simp [i64s, hl2]
      have e2 := pad_set (m := 6) (z := .int .i64 0) (l := i64s l) (v := .int .i64 (takeI (s.data.toList.drop q')).1) (by omega)
      rw [e] at e2
      rw [i64s_snoc, ← e2]
      exact ar'
    · have hge := of_decide_eq_false hge
      have hr := r2.done (by omega)
      have de := dec_end hd hf hr
      refine ⟨_, _, _, _, _, _, at_cast ar2.all (pad6 (by omega)), ?_⟩
      refine (t51 _ _ _ _ _ _ _ _ _ _ _ _ _ _ _ H2).mono fun v H' hv => ?_
      obtain ⟨rfl, hsub⟩ := hv
      refine ⟨_, _, _, _, _, _, _, _, _, rfl, _, t14 (mkEv a b' c l) (mkEv_wf ha hb' hc r2.small) H', fun hv => ⟨?_, sub.trans hsub⟩, fun hv => ⟨?_, sub.trans hsub⟩⟩
      · rw [de, if_neg (by simpa using hv)]; rfl
      · rw [de, if_pos (by simpa using hv), hp2]; rfl
theorem own_get {H H1 : Heap} {A : Option Addr} {n c : Nat} {cs : List Value} (o : OwnS H H1 A n c 1 cs) {k : Nat} {v : Value} (hv : cs[k]? = some v) : ∃ a, A = some a ∧ At H1 (a.add k) [v] := by
  rcases o.src with h | ⟨a, ha, hat⟩
  · rw [h] at hv; simp at hv
  · exact ⟨a, ha, at_one k hat hv⟩
theorem t19 (s : ByteArray) (hs : s.size ≤ 9223372036854775807) (H : Heap) : Tr Try.prog 19 #[.string s] H (fun v H' => v = decV s.data.toList ∧ Sub H H') := by
  apply v19; unfold F19
  refine ⟨fun A n c x x1 _ _ _ _ _ _ _ _ _ H1 => ∃ k l q, RH s x x1 k l q ∧ OwnS H H1 A n c 1 (i64s (l.map fun n : Nat => (n : Int))), fun _ _ _ _ x1 _ _ _ _ _ _ _ _ _ _ => (3 - x1).toNat, ⟨0, [], 0, RH.zero s, OwnS.nil H 1⟩,
    fun A n c x x1 x2 x3 x4 x5 x6 x7 x8 x9 x10 H1 ⟨k, l, q, r, o⟩ => ?_⟩
  have hp := r.pe; have hi := r.ie; have hl := r.len; have hq := r.at_; have hk := r.k3
  have hn : n = k := by have := o.len; simp [i64s, hl] at this; omega
  refine ⟨fun hlt => ?_, fun hge => ?_⟩
  · have hlt := of_decide_eq_true hlt
    have tt := t52 (s.extract x.toNat s.size) H1
    rw [drop_q hp] at tt
    refine ⟨⟨by omega, by omega⟩, _, _, _, tt, fun he => ⟨(r.err (by omega) he).symm, o.sub⟩, fun he => ⟨fun hb => ⟨(r.big (by omega) he hb).symm, o.sub⟩, fun hb => ?_⟩⟩
    obtain ⟨r', m⟩ := r.next hs (by omega) he hb
    have hb := of_decide_eq_false hb
    rw [wrapi (x := ((takeU (s.data.toList.drop q)).1 : Int)) (by omega) (by omega)]
    refine own_app o (by simp) rfl (Nat.le_trans (Nat.mul_le_mul_right _ (show n + 1 ≤ 3 by omega)) (by decide)) (by omega) fun A' c' H' o' => ⟨⟨k + 1, _, _, r', ?_⟩, m⟩
    have e : i64s ((l ++ [(takeU (s.data.toList.drop q)).1]).map fun n : Nat => (n : Int)) = i64s (l.map fun n : Nat => (n : Int)) ++ [.int .i64 (takeU (s.data.toList.drop q)).1] := by simp [i64s]
    rw [e]; exact o'
  · have hge := of_decide_eq_false hge
    obtain ⟨hd, a, b', c', rfl⟩ := r.done hge
    have ha := r.small a (by simp); have hb' := r.small b' (by simp); have hc := r.small c' (by simp)
    obtain ⟨ad, had, at2⟩ := own_get o (k := 2) (v := .int .i64 (c' : Nat)) rfl
    obtain ⟨ad1, had1, at1⟩ := own_get o (k := 1) (v := .int .i64 (b' : Nat)) rfl
    obtain ⟨ad0, had0, at0⟩ := own_get o (k := 0) (v := .int .i64 (a : Nat)) rfl
    refine ⟨ad, ⟨had, by decide, by omega⟩, (c' : Nat), at2, _, t21 _ H1, fun hf => ⟨(dec_none hd (of_decide_eq_true hf)).symm, o.sub⟩, fun hf b1 hb1 => ?_⟩
    have hf := of_decide_eq_false hf
    have fr := fields_range c'
    refine ⟨fun p i _ _ _ _ _ _ _ _ _ H2 => ∃ k l q', RR s (fieldsM c').toNat q p i k l q' ∧ Arr H1 H2 b1 (pad 6 (.int .i64 0) (i64s l)), fun _ x1 _ _ _ _ _ _ _ _ _ _ => (6 - x1).toNat, ⟨0, [], q, hp ▸ RR.zero r.at_, Arr.mk' hb1⟩,
      fun p i x21 x22 x23 x24 x25 x26 x27 x28 x29 H2 ⟨k, l, q', r2, ar2⟩ => ?_⟩
    have hp2 := r2.pe; have hi2 := r2.ie; have hl2 := r2.len; have hq2 := r2.at_; have hk2 := r2.kn
    have sub := o.sub.trans ar2.sub
    refine ⟨fun hlt => ?_, fun hge => ?_⟩
    · have hlt := of_decide_eq_true hlt
      have tt := t53 (s.extract p.toNat s.size) H2
      rw [drop_q hp2] at tt
      refine ⟨⟨by omega, by omega⟩, _, _, _, tt, fun he => ⟨(dec_rerr hd hf (r2.err (by omega) he)).symm, sub⟩, fun he => ⟨_, ⟨rfl, by omega, by omega⟩, ?_⟩⟩
      obtain ⟨r', m⟩ := r2.next hs (by omega) (by omega) he
      refine ar2.put (k := k) (by omega) (by rw [pad_len (by simp [i64s]; omega)]; omega) fun c' T ar' => ⟨⟨k + 1, _, _, r', ?_⟩, m⟩
      have e : (i64s l).length = k := by simp [i64s, hl2]
      have e2 := pad_set (m := 6) (z := .int .i64 0) (l := i64s l) (v := .int .i64 (takeI (s.data.toList.drop q')).1) (by omega)
      rw [e] at e2
      rw [i64s_snoc, ← e2]
      exact ar'
    · have hge := of_decide_eq_false hge
      have hr := r2.done (by omega)
      have de := dec_end hd hf hr
      refine ⟨H2, Sub.refl _, _, ⟨had0, by decide, by omega⟩, _, ⟨had1, by decide, by omega⟩, _, ⟨had, by decide, by omega⟩, _, ⟨rfl, by decide⟩, _, ⟨rfl, by decide⟩, _, ⟨rfl, by decide⟩, _, ⟨rfl, by decide⟩, _, ⟨rfl, by decide⟩, _, ⟨rfl, by decide⟩,
        (a : Nat), at0.sub ar2.sub, (b' : Nat), at1.sub ar2.sub, (c' : Nat), at2.sub ar2.sub,
        _, ar2.get (k := 0) (i64s_get (by decide)), _, ar2.get (k := 1) (i64s_get (by decide)), _, ar2.get (k := 2) (i64s_get (by decide)), _, ar2.get (k := 3) (i64s_get (by decide)), _, ar2.get (k := 4) (i64s_get (by decide)), _, ar2.get (k := 5) (i64s_get (by decide)),
        Sub.refl _, Sub.refl _, _, t15 (mkEv a b' c' l) H2, fun hv => ⟨?_, sub⟩, fun hv => ⟨?_, sub⟩⟩
      · rw [de, if_neg (by simpa using hv)]; rfl
      · rw [de, if_pos (by simpa using hv), hp2]; rfl
end Go.Proofs.Ytbojjcmhdklhbaa
