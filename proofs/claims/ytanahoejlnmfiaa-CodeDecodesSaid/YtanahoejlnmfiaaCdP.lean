/- The codec's numbers: what is written is read as the same, and no beginning of it is a number; signs. Conditions: those of each lemma. -/
import Derived.Test.YtanahoejlnmfiaaAxD
set_option maxRecDepth 100000
namespace Go.Ax

theorem u8_ofNat {n : Nat} (h : n < 256) : (UInt8.ofNat n).toNat = n := by
  simp; omega
theorem u8_lt (b : UInt8) : b.toNat < 256 := b.toNat_lt
theorem putU_pos (n : Nat) : 1 ≤ (putU n).length := by
  rw [putU]; split <;> simp
theorem pow7 (i : Nat) : 2 ^ (7 * (i + 1)) = 2 ^ (7 * i) * 128 := by
  rw [Nat.mul_add, Nat.pow_add]
theorem div_pow {n i : Nat} (h : n * 2 ^ (7 * i) < 18446744073709551616) : n / 128 * 2 ^ (7 * (i + 1)) < 18446744073709551616 := by
  rw [pow7]
  have e : n / 128 * (2 ^ (7 * i) * 128) = n / 128 * 128 * 2 ^ (7 * i) := by
    rw [Nat.mul_comm (2 ^ (7 * i)) 128, Nat.mul_assoc]
  have l : n / 128 * 128 ≤ n := Nat.div_mul_le_self n 128
  have := Nat.mul_le_mul_right (2 ^ (7 * i)) l
  omega
theorem div_sum (n i acc : Nat) : acc + n % 128 * 2 ^ (7 * i) + n / 128 * 2 ^ (7 * (i + 1)) = acc + n * 2 ^ (7 * i) := by
  rw [pow7]
  have e : n / 128 * (2 ^ (7 * i) * 128) = n / 128 * 128 * 2 ^ (7 * i) := by
    rw [Nat.mul_comm (2 ^ (7 * i)) 128, Nat.mul_assoc]
  have e2 : n * 2 ^ (7 * i) = (n % 128 + n / 128 * 128) * 2 ^ (7 * i) := by
    congr 1; omega
  rw [e, e2, Nat.add_mul]; omega
theorem nine_small {n : Nat} (h : n * 2 ^ (7 * 9) < 18446744073709551616) : n ≤ 1 := by
  have : (2 : Nat) ^ (7 * 9) = 9223372036854775808 := by decide
  rw [this] at h; omega

theorem take_put (more : List UInt8) : ∀ n i acc : Nat, n * 2 ^ (7 * i) < 18446744073709551616 → (i = 0 ∨ 0 < n) → takeG (putU n ++ more) i acc = (acc + n * 2 ^ (7 * i), i + (putU n).length, 0) := by
  intro n
  induction n using Nat.strongRecOn with
  | _ n ih =>
    intro i acc h hi
    by_cases hn : n < 128
    · rw [putU_lt hn]
      show takeG (UInt8.ofNat n :: more) i acc = _
      have e : (UInt8.ofNat n).toNat = n := u8_ofNat (by omega)
      unfold takeG
      rw [e, if_neg, if_pos hn]
      · rfl
      · simp only [Bool.or_eq_true, Bool.and_eq_true, beq_iff_eq, decide_eq_true_eq, not_or, not_and]
        refine ⟨fun h9 => ?_, fun h0 => by omega⟩
        subst h9; have := nine_small h; omega
    · rw [putU_ge hn]
      show takeG (UInt8.ofNat (n % 128 + 128) :: (putU (n / 128) ++ more)) i acc = _
      have e : (UInt8.ofNat (n % 128 + 128)).toNat = n % 128 + 128 := u8_ofNat (by omega)
      unfold takeG
      rw [e, if_neg, if_neg (by omega)]
      · rw [ih (n / 128) (by omega) (i + 1) _ (div_pow h) (.inr (by omega))]
        have : (n % 128 + 128) % 128 = n % 128 := by omega
        rw [this, div_sum]
        simp only [List.length_cons]
        congr 2; omega
      · simp only [Bool.or_eq_true, Bool.and_eq_true, beq_iff_eq, decide_eq_true_eq, not_or, not_and]
        refine ⟨fun h9 => ?_, fun h0 => by omega⟩
        subst h9; have := nine_small h; omega
theorem take_cut : ∀ n i acc k : Nat, n * 2 ^ (7 * i) < 18446744073709551616 → (i = 0 ∨ 0 < n) → k < (putU n).length → takeG ((putU n).take k) i acc = (0, 0, 2) := by
  intro n
  induction n using Nat.strongRecOn with
  | _ n ih =>
    intro i acc k h hi hk
    cases k with
    | zero => simp [takeG]
    | succ k =>
      by_cases hn : n < 128
      · rw [putU_lt hn] at hk; simp at hk
      · rw [putU_ge hn] at hk ⊢
        have e : (UInt8.ofNat (n % 128 + 128)).toNat = n % 128 + 128 := u8_ofNat (by omega)
        rw [List.take_succ_cons]
        unfold takeG
        rw [e, if_neg, if_neg (by omega)]
        · exact ih (n / 128) (by omega) (i + 1) _ k (div_pow h) (.inr (by omega)) (by simpa using hk)
        · simp only [Bool.or_eq_true, Bool.and_eq_true, beq_iff_eq, decide_eq_true_eq, not_or, not_and]
          refine ⟨fun h9 => ?_, fun h0 => by omega⟩
          subst h9; have := nine_small h; omega
theorem join_lt {i b n : Nat} (hi : i ≤ 8) (hb : b < 128) (h : n * 2 ^ (7 * (i + 1)) < 18446744073709551616) : (b + 128 * n) * 2 ^ (7 * i) < 18446744073709551616 := by
  have e : (18446744073709551616 : Nat) = 2 ^ (57 - 7 * i) * 2 ^ (7 * (i + 1)) := by
    rw [← Nat.pow_add]
    have : 57 - 7 * i + 7 * (i + 1) = 64 := by omega
    rw [this]
  rw [e] at h ⊢
  have p0 : 0 < 2 ^ (7 * i) := Nat.pow_pos (by decide)
  have h1 : n < 2 ^ (57 - 7 * i) := Nat.lt_of_mul_lt_mul_right h
  have h2 : (n + 1) * 2 ^ (7 * (i + 1)) ≤ 2 ^ (57 - 7 * i) * 2 ^ (7 * (i + 1)) := Nat.mul_le_mul_right _ h1
  refine Nat.lt_of_lt_of_le ?_ h2
  rw [pow7]
  have e3 : (n + 1) * (2 ^ (7 * i) * 128) = (128 * n + 128) * 2 ^ (7 * i) := by
    rw [Nat.mul_comm (2 ^ (7 * i)) 128, ← Nat.mul_assoc]
    congr 1; omega
  rw [e3]
  exact Nat.mul_lt_mul_of_pos_right (by omega) p0
theorem last_lt {i b : Nat} (hi : i ≤ 8) (hb : b < 128) : b * 2 ^ (7 * i) < 18446744073709551616 := by
  have := join_lt (i := i) (b := b) (n := 0) hi hb (by simp)
  simpa using this
/-- what is read is what is written -/
theorem put_take : ∀ (s : List UInt8) (i acc m k : Nat), i ≤ 9 → takeG s i acc = (m, k, 0) → ∃ n, m = acc + n * 2 ^ (7 * i) ∧ n * 2 ^ (7 * i) < 18446744073709551616 ∧ (i = 0 ∨ 0 < n) ∧ k = i + (putU n).length ∧ ∃ t, s = putU n ++ t := by
  intro s
  induction s with
  | nil => intro i acc m k _ h; simp [takeG] at h
  | cons b r ih =>
    intro i acc m k hi h
    unfold takeG at h
    split at h
    · simp at h
    · rename_i hg
      simp only [Bool.or_eq_true, Bool.and_eq_true, beq_iff_eq, decide_eq_true_eq, not_or, not_and] at hg
      split at h
      · rename_i hb
        simp at h
        obtain ⟨rfl, rfl⟩ := h
        refine ⟨b.toNat, rfl, ?_, by omega, ?_, r, ?_⟩
        · by_cases h9 : i = 9
          · have := hg.1 h9
            subst h9
            simp only [Nat.reduceMul, Nat.reducePow]; omega
          · exact last_lt (by omega) hb
        · rw [putU_lt hb]; simp
        · rw [putU_lt hb]; simp
      · rename_i hb
        have h8 : i ≤ 8 := by
          rcases Nat.lt_or_ge i 9 with h' | h'
          · omega
          · have := hg.1 (by omega); omega
        obtain ⟨n, hm, hn, hp, hk, t, ht⟩ := ih (i + 1) _ m k (by omega) h
        have hb2 := u8_lt b
        have q1 : (b.toNat % 128 + 128 * n) % 128 = b.toNat % 128 := by omega
        have q2 : (b.toNat % 128 + 128 * n) / 128 = n := by omega
        have q3 : UInt8.ofNat (b.toNat % 128 + 128) = b := by
          have : b.toNat % 128 + 128 = b.toNat := by omega
          rw [this]; simp
        have q4 : putU (b.toNat % 128 + 128 * n) = b :: putU n := by
          rw [putU_ge (by omega), q1, q2, q3]
        have q5 := div_sum (b.toNat % 128 + 128 * n) i acc
        rw [q1, q2] at q5
        refine ⟨b.toNat % 128 + 128 * n, by rw [hm, q5], join_lt h8 (by omega) hn, by omega, ?_, t, ?_⟩
        · rw [q4, hk]; simp; omega
        · rw [q4, ht]; rfl
theorem take_err : ∀ (s : List UInt8) (i acc m k e : Nat), takeG s i acc = (m, k, e) → e ≠ 0 → m = 0 ∧ k = 0 ∧ (e = 2 ∨ e = 3) := by
  intro s
  induction s with
  | nil => intro i acc m k e h _; simp [takeG] at h; omega
  | cons b r ih =>
    intro i acc m k e h he
    unfold takeG at h
    split at h
    · simp at h; omega
    · split at h
      · simp at h; omega
      · exact ih _ _ _ _ _ h he
theorem takeU_some {s : List UInt8} {m k : Nat} (h : takeU s = (m, k, 0)) : m < 18446744073709551616 ∧ k = (putU m).length ∧ ∃ t, s = putU m ++ t := by
  obtain ⟨n, hm, hn, -, hk, t, ht⟩ := put_take s 0 0 m k (by omega) h
  have : m = n := by simpa using hm
  subst this
  exact ⟨by simpa using hn, by simpa using hk, t, ht⟩
theorem takeU_err {s : List UInt8} {m k e : Nat} (h : takeU s = (m, k, e)) (he : e ≠ 0) : m = 0 ∧ k = 0 ∧ (e = 2 ∨ e = 3) := take_err s 0 0 m k e h he

theorem takeU_put {n : Nat} (h : n < 18446744073709551616) (more : List UInt8) : takeU (putU n ++ more) = (n, (putU n).length, 0) := by
  have := take_put more n 0 0 (by simpa using h) (.inl rfl)
  simpa [takeU] using this
theorem takeU_cut {n k : Nat} (h : n < 18446744073709551616) (hk : k < (putU n).length) : takeU ((putU n).take k) = (0, 0, 2) := take_cut n 0 0 k (by simpa using h) (.inl rfl) hk

def zig (n : Int) : Nat := if 0 ≤ n then (2 * n).toNat else (-2 * n - 1).toNat
def zag (n : Nat) : Int := if n % 2 = 1 then -((n / 2 : Nat) : Int) - 1 else ((n / 2 : Nat) : Int)
theorem zag_zig (n : Int) : zag (zig n) = n := by unfold zag zig; split <;> split <;> omega
theorem zig_zag (n : Nat) : zig (zag n) = n := by unfold zag zig; split <;> split <;> omega
theorem zig_lt {n : Int} (h : -9223372036854775808 ≤ n) (h' : n ≤ 9223372036854775807) : zig n < 18446744073709551616 := by unfold zig; split <;> omega
theorem zag_range {n : Nat} (h : n < 18446744073709551616) : -9223372036854775808 ≤ zag n ∧ zag n ≤ 9223372036854775807 := by unfold zag; split <;> omega
def takeI (s : List UInt8) : Int × Nat × Nat := (zag (takeU s).1, (takeU s).2.1, (takeU s).2.2)
def putI (n : Int) : List UInt8 := putU (zig n)
end Go.Ax
