/- The codec's numbers: contracts of PutUint, PutInt, TakeUint, TakeInt, the program's and the document's. Conditions: numbers in range. -/
import Derived.Test.YtanahoejlnmfiaaCdP
import Derived.Test.YtanahoejlnmfiaaV1
set_option maxRecDepth 100000
namespace Go.Ax

theorem sh7 : (2 : Int) ^ shAmt .u64 (7 : Int) = 128 := by decide
theorem sh1 : (2 : Int) ^ shAmt .u64 (1 : Int) = 2 := by decide
theorem sh63 : (2 : Int) ^ shAmt .i64 (63 : Int) = 9223372036854775808 := by decide
theorem put_len10 {N : Nat} (h : N < 18446744073709551616) : (putU N).length ≤ 10 := putU_len 9 N (Nat.lt_trans h (by decide))

structure RP (N : Nat) (H : Heap) (x : Int) (A : Option Addr) (n c : Nat) (H1 : Heap) : Prop where
  out : ∃ (m : Nat) (l : List UInt8), x = m ∧ OwnS H H1 A n c 1 (l.map fun b => Value.int .u8 b.toNat) ∧ l ++ putU m = putU N
theorem RP.zero (N : Nat) (H : Heap) : RP N H N none 0 0 H := ⟨N, [], rfl, OwnS.nil H 1, rfl⟩
theorem put_app {e : TypeId} {N : Nat} (hN : N < 18446744073709551616) {H H1 : Heap} {A : Option Addr} {n c m : Nat} {l : List UInt8} (o : OwnS H H1 A n c 1 (l.map fun b => Value.int .u8 b.toNat)) (hl : l ++ putU m = putU N) (b : UInt8) (y : Int) (hy : y = b.toNat)
    {K : Option Addr → Nat → Nat → Heap → Prop} (k : ∀ A' c' H', OwnS H H' A' (n + 1) c' 1 ((l ++ [b]).map fun b => Value.int .u8 b.toNat) → K A' (n + 1) c' H') : appC e 1 1 H1 A n c [.int .u8 y] 1 K := by
  subst hy
  have h1 : n = l.length := by have := o.len; simp at this; omega
  have h2 := putU_pos m
  have h3 : l.length + (putU m).length = (putU N).length := by rw [← hl]; simp
  have h4 := put_len10 hN
  exact own_app o (by simp) rfl (by omega) (by omega) fun A' c' H' h => k A' c' H' (by simpa using h)
theorem put_done {H H1 : Heap} {A : Option Addr} {n c : Nat} {l : List UInt8} (o : OwnS H H1 A n c 1 (l.map fun b => Value.int .u8 b.toNat)) : bytesAt H1 A n (strOf l) := by
  refine ⟨?_, ?_⟩
  · rw [strOf_size]; have := o.len; simp at this; omega
  · rw [strOf_vals]; exact o.src

theorem byte_low {m : Nat} (h : m < 128) : IntKind.u8.wrap (m : Int) = (UInt8.ofNat m).toNat := by rw [wrap_u8, u8_ofNat (by omega)]; omega
theorem byte_or (m : Nat) : bitsI .or .u8 (IntKind.u8.wrap (m : Int)) 128 = (UInt8.ofNat (m % 128 + 128)).toNat := by
  rw [wrap_u8, u8_ofNat (by omega)]
  have e : ((m : Int) % 256) = ((m % 256 : Nat) : Int) := by omega
  rw [e, or_u8 _ (by omega)]
  omega
theorem byte_mod (m : Nat) : IntKind.u8.wrap (IntKind.u8.wrap ((m : Int).tmod 128) + 128) = (UInt8.ofNat (m % 128 + 128)).toNat := by
  rw [u8_ofNat (by omega), Int.tmod_eq_emod_of_nonneg (by omega), wrap_u8, wrap_u8]
  omega
theorem fdiv128 (m : Nat) : (m : Int).fdiv 128 = ((m / 128 : Nat) : Int) := by rw [Int.fdiv_eq_ediv_of_nonneg _ (by decide)]; omega
theorem tdiv128 {m : Nat} (h : m < 18446744073709551616) : IntKind.u64.wrap ((m : Int).tdiv 128) = ((m / 128 : Nat) : Int) := by
  rw [Int.tdiv_eq_ediv_of_nonneg (by omega), wrapu (by omega) (by omega)]; omega
theorem put_snoc {m N : Nat} {l : List UInt8} (h : ¬ m < 128) (hl : l ++ putU m = putU N) : (l ++ [UInt8.ofNat (m % 128 + 128)]) ++ putU (m / 128) = putU N := by
  rw [← hl, putU_ge h]; simp
theorem put_last {m N : Nat} {l : List UInt8} (h : m < 128) (hl : l ++ putU m = putU N) : l ++ [UInt8.ofNat m] = putU N := by rw [← hl, putU_lt h]

/-! ### reading -/
def resU (r : Nat × Nat × Nat) : Value := .tuple #[.int .u64 r.1, .int .i64 r.2.1, .int .i64 r.2.2]
def resI (r : Int × Nat × Nat) : Value := .tuple #[.int .i64 r.1, .int .i64 r.2.1, .int .i64 r.2.2]
structure RT (s : ByteArray) (H : Heap) (x x2 : Int) (i acc : Nat) (H1 : Heap) : Prop where
  heap : H1 = H
  xe : x = (acc : Int)
  ie : x2 = (i : Int)
  i9 : i ≤ 9
  is : i ≤ s.size
  acce : acc < 2 ^ (7 * i)
  eq : takeG (s.data.toList.drop i) i acc = takeU s.data.toList
theorem RT.zero (s : ByteArray) (H : Heap) : RT s H 0 0 0 0 H := ⟨rfl, rfl, rfl, by omega, by omega, by decide, rfl⟩
theorem RT.stop {s : ByteArray} {H H1 : Heap} {x x2 : Int} {i acc : Nat} (r : RT s H x x2 i acc H1) (h : ¬ x2 < (s.size : Int)) : takeU s.data.toList = (0, 0, 2) := by
  have h1 := r.ie; have h2 := r.is
  have h3 : i = s.data.toList.length := by
    have : s.data.toList.length = s.size := by simp
    omega
  rw [← r.eq, h3, List.drop_length]; rfl
theorem RT.drop {s : ByteArray} {H H1 : Heap} {x x2 : Int} {i acc : Nat} (r : RT s H x x2 i acc H1) (h : x2 < (s.size : Int)) : ∃ b, bAt s x2 b ∧ s.data.toList.drop i = b :: s.data.toList.drop (i + 1) := by
  have h1 := r.ie
  have h3 : i < s.data.toList.length := by
    have : s.data.toList.length = s.size := by simp
    omega
  refine ⟨s.data.toList[i], ⟨by omega, ?_⟩, List.drop_eq_getElem_cons h3⟩
  rw [h1]; simp
theorem bad_eq (i : Nat) (b : UInt8) : (((i : Int) == (9 : Int) && decide ((b.toNat : Int) > 1)) || (decide ((i : Int) > 0) && (b.toNat : Int) == 0)) = (i == 9 && decide (b.toNat > 1) || decide (i > 0) && b.toNat == 0) := by
  have e1 : ((i : Int) == (9 : Int)) = (i == 9) := by rw [Bool.eq_iff_iff]; simp; omega
  have e2 : decide ((b.toNat : Int) > 1) = decide (b.toNat > 1) := by rw [Bool.eq_iff_iff]; simp; omega
  have e3 : decide ((i : Int) > 0) = decide (i > 0) := by simp
  have e4 : ((b.toNat : Int) == 0) = (b.toNat == 0) := by rw [Bool.eq_iff_iff, beq_iff_eq, beq_iff_eq]; omega
  rw [e1, e2, e3, e4]
theorem RT.bad {s : ByteArray} {H H1 : Heap} {x x2 : Int} {i acc : Nat} (r : RT s H x x2 i acc H1) {b : UInt8} {t : List UInt8} (hd : s.data.toList.drop i = b :: t)
    (h : (x2 == (9 : Int) && decide ((b.toNat : Int) > 1) || decide (x2 > 0) && (b.toNat : Int) == 0) = true) : takeU s.data.toList = (0, 0, 3) := by
  rw [r.ie, bad_eq] at h
  rw [← r.eq, hd]; unfold takeG; rw [if_pos h]
theorem RT.fits {s : ByteArray} {H H1 : Heap} {x x2 : Int} {i acc : Nat} (r : RT s H x x2 i acc H1) {b : UInt8}
    (h : (x2 == (9 : Int) && decide ((b.toNat : Int) > 1) || decide (x2 > 0) && (b.toNat : Int) == 0) = false) : b.toNat % 128 * 2 ^ (7 * i) < 18446744073709551616 ∧ (¬ b.toNat < 128 → i ≤ 8) := by
  rw [r.ie, bad_eq] at h
  simp only [Bool.or_eq_false_iff, Bool.and_eq_false_iff, beq_eq_false_iff_ne, decide_eq_false_iff_not] at h
  by_cases h9 : i = 9
  · have : b.toNat ≤ 1 := by omega
    subst h9
    refine ⟨?_, fun _ => by omega⟩
    simp only [Nat.reduceMul, Nat.reducePow]; omega
  · have := r.i9
    exact ⟨last_lt (by omega) (by omega), fun _ => by omega⟩
theorem acc_lt {i acc b : Nat} (h : acc < 2 ^ (7 * i)) (hb : b < 128) : acc + b * 2 ^ (7 * i) < 2 ^ (7 * (i + 1)) := by
  rw [pow7]
  have : (b + 1) * 2 ^ (7 * i) ≤ 128 * 2 ^ (7 * i) := Nat.mul_le_mul_right _ (by omega)
  rw [Nat.add_mul] at this
  rw [Nat.mul_comm _ 128]; omega
theorem RT.last {s : ByteArray} {H H1 : Heap} {x x2 : Int} {i acc : Nat} (r : RT s H x x2 i acc H1) {b : UInt8} {t : List UInt8} (hd : s.data.toList.drop i = b :: t)
    (h : (x2 == (9 : Int) && decide ((b.toNat : Int) > 1) || decide (x2 > 0) && (b.toNat : Int) == 0) = false) (hb : b.toNat < 128) : takeU s.data.toList = (acc + b.toNat * 2 ^ (7 * i), i + 1, 0) := by
  rw [r.ie, bad_eq] at h
  rw [← r.eq, hd]; unfold takeG; rw [if_neg (by rw [h]; simp), if_pos hb]
theorem RT.next {s : ByteArray} {H H1 : Heap} {x x2 : Int} {i acc : Nat} (r : RT s H x x2 i acc H1) (hlt : x2 < (s.size : Int)) {b : UInt8} (hd : s.data.toList.drop i = b :: s.data.toList.drop (i + 1))
    (h : (x2 == (9 : Int) && decide ((b.toNat : Int) > 1) || decide (x2 > 0) && (b.toNat : Int) == 0) = false) (hb : ¬ b.toNat < 128) (y y2 : Int) (hy : y = ((acc + b.toNat % 128 * 2 ^ (7 * i) : Nat) : Int)) (hy2 : y2 = ((i + 1 : Nat) : Int)) :
    RT s H y y2 (i + 1) (acc + b.toNat % 128 * 2 ^ (7 * i)) H1 := by
  have h8 := (r.fits h).2 hb
  have hi := r.ie
  rw [r.ie, bad_eq] at h
  refine ⟨r.heap, hy, hy2, by omega, by omega, acc_lt r.acce (by omega), ?_⟩
  rw [← r.eq, hd, takeG.eq_2, if_neg (by rw [h]; simp), if_neg hb]
theorem shl_u64 {b i : Nat} (hi : i ≤ 9) (hb : b * 2 ^ (7 * i) < 18446744073709551616) (hb2 : b < 256) : IntKind.u64.wrap (IntKind.u64.wrap (b : Int) * (2 : Int) ^ shAmt .u64 (IntKind.i64.wrap ((7 : Int) * (i : Int)))) = ((b * 2 ^ (7 * i) : Nat) : Int) := by
  rw [wrapu (x := (b : Int)) (by omega) (by omega), wrapi (x := (7 : Int) * (i : Int)) (by omega) (by omega)]
  have : (7 : Int) * (i : Int) = ((7 * i : Nat) : Int) := by omega
  rw [this, shAmt_u64 (by omega)]
  have e : (b : Int) * (2 : Int) ^ (7 * i) = ((b * 2 ^ (7 * i) : Nat) : Int) := by simp
  rw [e, wrapu (by omega) (by omega)]
theorem or_acc {i acc b : Nat} (h : acc < 2 ^ (7 * i)) (hi : i ≤ 9) (hb : b * 2 ^ (7 * i) < 18446744073709551616) (hb2 : b < 256) :
    bitsI .or .u64 (acc : Int) (IntKind.u64.wrap (IntKind.u64.wrap (b : Int) * (2 : Int) ^ shAmt .u64 (IntKind.i64.wrap ((7 : Int) * (i : Int))))) = ((acc + b * 2 ^ (7 * i) : Nat) : Int) := by
  rw [shl_u64 hi hb hb2, or_u64 h (by omega) hb]
theorem and_u8' (b : UInt8) : bitsI .and .u8 (b.toNat : Int) 127 = ((b.toNat % 128 : Nat) : Int) := and_u8 _ (u8_lt b)
theorem add_acc {i acc b : Nat} (h : acc < 2 ^ (7 * i)) (hi : i ≤ 9) (hb : b % 128 * 2 ^ (7 * i) < 18446744073709551616) (hb2 : b < 256) :
    IntKind.u64.wrap ((acc : Int) + IntKind.u64.wrap ((IntKind.u64.wrap (b : Int)).tmod 128 * ((2 ^ (7 * i) : Nat) : Int))) = ((acc + b % 128 * 2 ^ (7 * i) : Nat) : Int) := by
  rw [wrapu (x := (b : Int)) (by omega) (by omega), Int.tmod_eq_emod_of_nonneg (by omega)]
  have e : (b : Int) % 128 * ((2 ^ (7 * i) : Nat) : Int) = ((b % 128 * 2 ^ (7 * i) : Nat) : Int) := by simp
  rw [e, wrapu (x := ((b % 128 * 2 ^ (7 * i) : Nat) : Int)) (by omega) (by omega)]
  have h1 := acc_lt (i := i) (acc := acc) (b := b % 128) h (by omega)
  have h2 : 2 ^ (7 * (i + 1)) ≤ 2 ^ 70 := Nat.pow_le_pow_right (by decide) (by omega)
  have h3 : acc + b % 128 * 2 ^ (7 * i) < 18446744073709551616 := by
    by_cases h9 : i = 9
    · subst h9
      simp only [Nat.reduceMul, Nat.reducePow] at h hb ⊢; omega
    · have := Nat.pow_le_pow_right (n := 2) (by decide) (show 7 * (i + 1) ≤ 63 by omega)
      have e63 : (2 : Nat) ^ 63 = 9223372036854775808 := by decide
      omega
  rw [wrapu (by omega) (by omega)]; omega

/-! ### signs -/
theorem xor_zero {k : IntKind} {x : Int} : bitsI .xor k x 0 = k.wrap ((BitVec.ofInt k.bits x).toNat : Int) := by
  have : bitsI .xor k x 0 = k.wrap ((BitVec.ofInt k.bits x ^^^ BitVec.ofInt k.bits 0 : BitVec k.bits).toNat : Int) := rfl
  rw [this]; simp
theorem xor_ones {x y : Nat} (hx : x < 18446744073709551616) (hy : y = 18446744073709551615) : (BitVec.ofInt 64 (x : Int) ^^^ BitVec.ofInt 64 (y : Int)).toNat = 18446744073709551615 - x := by
  subst hy
  have : BitVec.ofInt 64 ((18446744073709551615 : Nat) : Int) = BitVec.allOnes 64 := by decide
  rw [this, BitVec.xor_allOnes, BitVec.toNat_not, ofInt_nat]
  omega
theorem zig_bits {n : Int} (h : -9223372036854775808 ≤ n) (h' : n ≤ 9223372036854775807) :
    bitsI .xor .u64 (IntKind.u64.wrap (IntKind.u64.wrap n * (2 : Int) ^ shAmt .u64 (1 : Int))) (IntKind.u64.wrap (n.fdiv ((2 : Int) ^ shAmt .i64 (63 : Int)))) = (zig n : Int) := by
  rw [sh1, sh63, Int.fdiv_eq_ediv_of_nonneg _ (by decide)]
  unfold zig
  split
  · rename_i h0
    have e1 : n / 9223372036854775808 = 0 := by omega
    have e2 : IntKind.u64.wrap (IntKind.u64.wrap n * 2) = ((2 * n).toNat : Int) := by rw [wrap_u64, wrap_u64]; omega
    have e3 : IntKind.u64.wrap (0 : Int) = 0 := by decide
    rw [e1, e2, e3, xor_zero]
    show IntKind.u64.wrap ((BitVec.ofInt 64 (((2 * n).toNat : Nat) : Int)).toNat : Int) = _
    rw [ofInt_nat, wrap_u64]; omega
  · rename_i h0
    have e1 : n / 9223372036854775808 = -1 := by omega
    have e2 : IntKind.u64.wrap (IntKind.u64.wrap n * 2) = ((2 * n + 18446744073709551616).toNat : Int) := by rw [wrap_u64, wrap_u64]; omega
    have e3 : IntKind.u64.wrap (-1 : Int) = ((18446744073709551615 : Nat) : Int) := by decide
    rw [e1, e2, e3]
    show IntKind.u64.wrap ((BitVec.ofInt 64 (((2 * n + 18446744073709551616).toNat : Nat) : Int) ^^^ BitVec.ofInt 64 ((18446744073709551615 : Nat) : Int) : BitVec 64).toNat : Int) = _
    rw [xor_ones (by omega) rfl, wrap_u64]; omega
theorem zag_bits {m : Nat} (h : m < 18446744073709551616) :
    bitsI .xor .i64 (IntKind.i64.wrap ((m : Int).fdiv ((2 : Int) ^ shAmt .u64 (1 : Int)))) (IntKind.i64.wrap (0 - IntKind.i64.wrap (bitsI .and .u64 (m : Int) 1))) = zag m := by
  have e0 : bitsI .and .u64 (m : Int) 1 = ((m % 2 : Nat) : Int) := by
    show IntKind.u64.wrap ((BitVec.ofInt 64 (m : Int) &&& BitVec.ofInt 64 ((1 : Nat) : Int) : BitVec 64).toNat : Int) = _
    rw [BitVec.toNat_and, ofInt_nat, ofInt_nat]
    have : (1 % 2 ^ 64 : Nat) = 1 := by decide
    rw [this, Nat.and_one_is_mod, wrap_u64]; omega
  have e1 : IntKind.i64.wrap ((m : Int).fdiv 2) = ((m / 2 : Nat) : Int) := by
    rw [Int.fdiv_eq_ediv_of_nonneg _ (by decide), wrapi (by omega) (by omega)]; omega
  rw [sh1, e0, e1, wrapi (x := ((m % 2 : Nat) : Int)) (by omega) (by omega)]
  unfold zag
  split
  · rename_i h1
    have e2 : IntKind.i64.wrap (0 - ((m % 2 : Nat) : Int)) = -1 := by rw [h1]; decide
    rw [e2]
    have e3 : BitVec.ofInt 64 (-1) = BitVec.ofInt 64 ((18446744073709551615 : Nat) : Int) := by decide
    show IntKind.i64.wrap ((BitVec.ofInt 64 ((m / 2 : Nat) : Int) ^^^ BitVec.ofInt 64 (-1) : BitVec 64).toNat : Int) = _
    rw [e3, xor_ones (by omega) rfl, wrap_i64]; omega
  · rename_i h1
    have h2 : m % 2 = 0 := by omega
    have e2 : IntKind.i64.wrap (0 - ((m % 2 : Nat) : Int)) = 0 := by rw [h2]; decide
    rw [e2, xor_zero]
    show IntKind.i64.wrap ((BitVec.ofInt 64 ((m / 2 : Nat) : Int)).toNat : Int) = _
    rw [ofInt_nat, wrap_i64]; omega
end Go.Ax

namespace Go.Proofs.Ytanahoejlnmfiaa
open Go.Ax

theorem t52 {N : Nat} (hN : N < 18446744073709551616) (H : Heap) : Tr Try.prog 52 #[.int .u64 N] H (fun v H' => v = .string (strOf (putU N)) ∧ Sub H H') := by
  apply v52; unfold F52
  refine ⟨RP N H, fun x _ _ _ _ => x.toNat, RP.zero N H, fun x A n c H1 r => ?_⟩
  obtain ⟨m, l, rfl, o, hl⟩ := r.out
  rw [sh7, fdiv128]
  refine ⟨fun h => ?_, fun h => ?_⟩
  · have h : ¬ m < 128 := by have := of_decide_eq_true h; omega
    refine put_app hN o hl (UInt8.ofNat (m % 128 + 128)) _ (byte_or m) fun A' c' H' o' => ⟨by decide, ⟨_, _, rfl, o', put_snoc h hl⟩, ?_⟩
    show ((m / 128 : Nat) : Int).toNat < ((m : Nat) : Int).toNat
    omega
  · have h : m < 128 := by have := of_decide_eq_false h; omega
    refine put_app hN o hl (UInt8.ofNat m) _ (byte_low h) fun A' c' H' o' => ⟨_, put_done o', ?_, o'.sub⟩
    rw [put_last h hl]
theorem t56 {N : Nat} (hN : N < 18446744073709551616) (H : Heap) : Tr Try.prog 56 #[.int .u64 N] H (fun v H' => v = .string (strOf (putU N)) ∧ Sub H H') := by
  apply v56; unfold F56
  refine ⟨fun x A n c H1 => x ≤ N ∧ RP N H x A n c H1, fun x _ _ _ _ => x.toNat, ⟨Int.le_refl _, RP.zero N H⟩, fun x A n c H1 ⟨hx, r⟩ => ?_⟩
  obtain ⟨m, l, rfl, o, hl⟩ := r.out
  rw [tdiv128 (by omega)]
  refine ⟨fun h => ⟨by decide, ?_⟩, fun h => ?_⟩
  · have h : ¬ m < 128 := by have := of_decide_eq_true h; omega
    refine put_app hN o hl (UInt8.ofNat (m % 128 + 128)) _ (byte_mod m) fun A' c' H' o' => ⟨by decide, ⟨by omega, _, _, rfl, o', put_snoc h hl⟩, ?_⟩
    show ((m / 128 : Nat) : Int).toNat < ((m : Nat) : Int).toNat
    omega
  · have h : m < 128 := by have := of_decide_eq_false h; omega
    refine put_app hN o hl (UInt8.ofNat m) _ (byte_low h) fun A' c' H' o' => ⟨_, put_done o', ?_, o'.sub⟩
    rw [put_last h hl]
theorem t53 {n : Int} (h : -9223372036854775808 ≤ n) (h' : n ≤ 9223372036854775807) (H : Heap) : Tr Try.prog 53 #[.int .i64 n] H (fun v H' => v = .string (strOf (putI n)) ∧ Sub H H') := by
  apply v53; unfold F53
  rw [zig_bits h h']
  exact ⟨by decide, by decide, _, t52 (zig_lt h h') H, rfl, Sub.refl _⟩
theorem t57 {n : Int} (h : -9223372036854775808 ≤ n) (h' : n ≤ 9223372036854775807) (H : Heap) : Tr Try.prog 57 #[.int .i64 n] H (fun v H' => v = .string (strOf (putI n)) ∧ Sub H H') := by
  apply v57; unfold F57
  refine ⟨fun h0 => ?_, fun h0 => ?_⟩
  · have h0 := of_decide_eq_true h0
    have e : IntKind.u64.wrap (2 * IntKind.u64.wrap n) = ((zig n : Nat) : Int) := by
      rw [wrap_u64, wrap_u64]; unfold zig; rw [if_pos (by omega)]; omega
    rw [e]
    exact ⟨_, t56 (zig_lt h h') H, rfl, Sub.refl _⟩
  · have h0 := of_decide_eq_false h0
    have e : IntKind.u64.wrap (IntKind.u64.wrap (2 * IntKind.u64.wrap (IntKind.i64.wrap (0 - IntKind.i64.wrap (n + 1)))) + 1) = ((zig n : Nat) : Int) := by
      rw [wrapi (x := n + 1) (by omega) (by omega), wrapi (x := 0 - (n + 1)) (by omega) (by omega), wrap_u64, wrap_u64, wrap_u64]; unfold zig; rw [if_neg (by omega)]; omega
    rw [e]
    exact ⟨_, t56 (zig_lt h h') H, rfl, Sub.refl _⟩

theorem t68 (s : ByteArray) (H : Heap) : Tr Try.prog 68 #[.string s] H (fun v H' => v = resU (takeU s.data.toList) ∧ Sub H H') := by
  apply v68; unfold F68
  refine ⟨fun x x1 x2 H1 => x1 = 2 ∧ ∃ i acc, RT s H x x2 i acc H1, fun _ _ x2 _ => (10 - x2).toNat, ⟨rfl, 0, 0, RT.zero s H⟩, fun x x1 x2 H1 ⟨h1, i, acc, r⟩ => ?_⟩
  have hsub : Sub H H1 := r.heap ▸ Sub.refl _
  have hi := r.ie; have hx := r.xe; have h9 := r.i9
  refine ⟨fun hlt => ?_, fun hge => ⟨?_, hsub⟩⟩
  · have hlt := of_decide_eq_true hlt
    obtain ⟨b, hb, hd⟩ := r.drop hlt
    have hb2 := u8_lt b
    have w7 : (0 : Int) ≤ IntKind.i64.wrap ((7 : Int) * x2) := by rw [wrapi (by omega) (by omega)]; omega
    have w1 : IntKind.i64.wrap (x2 + 1) = ((i + 1 : Nat) : Int) := by rw [wrapi (by omega) (by omega)]; omega
    have more : (x2 == (9 : Int) && decide ((b.toNat : Int) > (1 : Int))) = false → (decide (x2 > (0 : Int)) && (b.toNat : Int) == (0 : Int)) = false →
        (x2 == (9 : Int) && decide ((b.toNat : Int) > 1) || decide (x2 > 0) && (b.toNat : Int) == 0) = false := fun a c => by rw [a, c]; rfl
    refine ⟨b, hb, fun e1 => ⟨fun _ => ⟨?_, hsub⟩, fun e2 => (by rw [e1] at e2; cases e2)⟩, fun e1 => ⟨fun e2 => ⟨?_, hsub⟩, fun e2 => ⟨fun e3 => ⟨w7, ?_, hsub⟩, fun e3 => ⟨w7, ?_⟩⟩⟩⟩
    · rw [r.bad hd (by rw [e1]; rfl)]; rfl
    · rw [r.bad hd (by rw [e2]; simp)]; rfl
    · have e3 : b.toNat < 128 := by have := of_decide_eq_true e3; omega
      have f := (r.fits (more e1 e2)).1
      rw [r.last hd (more e1 e2) e3, hx, hi, or_acc r.acce h9 (by rw [Nat.mod_eq_of_lt e3] at f; exact f) hb2]
      rw [hi] at w1; rw [w1]; rfl
    · have e3 : ¬ b.toNat < 128 := by have := of_decide_eq_false e3; omega
      have f := (r.fits (more e1 e2)).1
      rw [and_u8', hx, w1]
      have w1' := w1
      rw [hi] at w1' ⊢
      rw [or_acc r.acce h9 f (by omega)]
      have f8 := (r.fits (more e1 e2)).2 e3
      exact ⟨⟨h1, i + 1, _, r.next hlt hd (more e1 e2) e3 _ _ rfl rfl⟩, show (10 - ((i + 1 : Nat) : Int)).toNat < (10 - (i : Int)).toNat by omega⟩
  · have hge := of_decide_eq_false hge
    rw [r.stop hge, h1]; rfl
theorem t70 (s : ByteArray) (H : Heap) : Tr Try.prog 70 #[.string s] H (fun v H' => v = resU (takeU s.data.toList) ∧ Sub H H') := by
  apply v70; unfold F70
  refine ⟨fun x x1 x2 H1 => ∃ i acc, x1 = ((2 ^ (7 * i) : Nat) : Int) ∧ RT s H x x2 i acc H1, fun _ _ x2 _ => (10 - x2).toNat, ⟨0, 0, rfl, RT.zero s H⟩, fun x x1 x2 H1 ⟨i, acc, h1, r⟩ => ?_⟩
  have hsub : Sub H H1 := r.heap ▸ Sub.refl _
  have hi := r.ie; have hx := r.xe; have h9 := r.i9
  refine ⟨fun hlt => ?_, fun hge => ⟨?_, hsub⟩⟩
  · have hlt := of_decide_eq_true hlt
    obtain ⟨b, hb, hd⟩ := r.drop hlt
    have hb2 := u8_lt b
    have wb : IntKind.u64.wrap (b.toNat : Int) = (b.toNat : Int) := wrapu (by omega) (by omega)
    have w1 : IntKind.i64.wrap (x2 + 1) = ((i + 1 : Nat) : Int) := by rw [wrapi (by omega) (by omega)]; omega
    refine ⟨b, hb, fun e1 => ⟨?_, hsub⟩, fun e1 => ⟨by decide, fun e3 => ⟨?_, hsub⟩, fun e3 => ?_⟩⟩
    · rw [wb] at e1
      rw [r.bad hd e1]; rfl
    · rw [wb] at e1 e3
      have e3 : b.toNat < 128 := by have := of_decide_eq_true e3; omega
      have f := (r.fits e1).1
      rw [r.last hd e1 e3, hx, h1, add_acc r.acce h9 f hb2, w1, Nat.mod_eq_of_lt e3]; rfl
    · rw [wb] at e1 e3
      have e3 : ¬ b.toNat < 128 := by have := of_decide_eq_false e3; omega
      have f := (r.fits e1).1
      have f8 := (r.fits e1).2 e3
      rw [w1, hx, h1, add_acc r.acce h9 f hb2]
      rw [hi]
      refine ⟨⟨i + 1, _, ?_, r.next hlt hd e1 e3 _ _ rfl rfl⟩, show (10 - ((i + 1 : Nat) : Int)).toNat < (10 - (i : Int)).toNat by omega⟩
      have : 2 ^ (7 * (i + 1)) ≤ 2 ^ 63 := Nat.pow_le_pow_right (by decide) (by omega)
      have e63 : (2 : Nat) ^ 63 = 9223372036854775808 := by decide
      have e : ((2 ^ (7 * i) : Nat) : Int) * 128 = ((2 ^ (7 * (i + 1)) : Nat) : Int) := by rw [pow7]; omega
      rw [e]
      generalize 2 ^ (7 * (i + 1)) = P at this ⊢
      rw [e63] at this
      rw [wrapu (by omega) (by omega)]
  · have hge := of_decide_eq_false hge
    rw [r.stop hge]; rfl
theorem takeU_lt (s : List UInt8) : (takeU s).1 < 18446744073709551616 := by
  rcases h : takeU s with ⟨m, k, e⟩
  by_cases he : e = 0
  · subst he; exact (takeU_some h).1
  · have := (takeU_err h he).1; show m < _; omega
theorem t74 (s : ByteArray) (H : Heap) : Tr Try.prog 74 #[.string s] H (fun v H' => v = resI (takeI s.data.toList) ∧ Sub H H') := by
  apply v74; unfold F74
  refine ⟨_, _, _, t68 s H, by decide, ?_, Sub.refl _⟩
  rw [zag_bits (takeU_lt _)]; rfl
theorem t75 (s : ByteArray) (H : Heap) : Tr Try.prog 75 #[.string s] H (fun v H' => v = resI (takeI s.data.toList) ∧ Sub H H') := by
  apply v75; unfold F75
  have hm := takeU_lt s.data.toList
  have e1 : ((takeU s.data.toList).1 : Int).tmod 2 = (((takeU s.data.toList).1 % 2 : Nat) : Int) := by rw [Int.tmod_eq_emod_of_nonneg (by omega)]; omega
  have e2 : IntKind.u64.wrap (((takeU s.data.toList).1 : Int).tdiv 2) = (((takeU s.data.toList).1 / 2 : Nat) : Int) := by rw [Int.tdiv_eq_ediv_of_nonneg (by omega), wrapu (by omega) (by omega)]; omega
  refine ⟨_, _, _, t70 s H, by decide, fun h => ⟨by decide, ?_, Sub.refl _⟩, fun h => ⟨by decide, ?_, Sub.refl _⟩⟩
  · rw [e1] at h
    have h : (takeU s.data.toList).1 % 2 = 1 := by have := beq_iff_eq.1 h; omega
    rw [e2, wrapi (x := (((takeU s.data.toList).1 / 2 : Nat) : Int)) (by omega) (by omega), wrapi (x := 0 - (((takeU s.data.toList).1 / 2 : Nat) : Int)) (by omega) (by omega), wrapi (by omega) (by omega)]
    unfold resI takeI zag; rw [if_pos h]; simp
  · rw [e1] at h
    have h : ¬ (takeU s.data.toList).1 % 2 = 1 := by
      intro h'; rw [h'] at h; cases h
    rw [e2, wrapi (x := (((takeU s.data.toList).1 / 2 : Nat) : Int)) (by omega) (by omega)]
    unfold resI takeI zag; rw [if_neg h]
end Go.Proofs.Ytanahoejlnmfiaa
