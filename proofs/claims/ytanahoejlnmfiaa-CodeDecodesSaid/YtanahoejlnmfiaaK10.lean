/- Code: the readers of one number, the program's and the document's. Conditions: the reader lies in a block of its own, its place within the text. -/
import Derived.Test.YtanahoejlnmfiaaK9
import Derived.Test.YtanahoejlnmfiaaCd
import Derived.Test.YtanahoejlnmfiaaV5
set_option maxRecDepth 100000
namespace Go.Ax

def rdCell (T : TypeId) (s : ByteArray) (r : Rd) : Obj := .cells #[.string s, .int .i64 (r.pos : Nat), .int .i64 (r.err : Nat)] T (0, 0)
theorem at_fld {H : Heap} {b : Nat} {c : Array Value} {T : TypeId} {fz : Nat × Nat} {k : Nat} {v : Value} (h : H b = some (.cells c T fz)) (hv : c[k]? = some v) : At H ((⟨b, 0, none⟩ : Addr).add k) [v] := by
  have e := Heap.upd_eq h
  rw [← e]; exact at_new1 hv
/-- Where the reader stands, written out. -/
structure RdAt (H : Heap) (T : TypeId) (b : Nat) (s : ByteArray) (r : Rd) : Prop where
  at_ : H b = some (rdCell T s r)
  pos : r.pos ≤ s.size
  size : s.size ≤ 9223372036854775807
theorem RdAt.err {H : Heap} {T : TypeId} {b : Nat} {s : ByteArray} {r : Rd} (h : RdAt H T b s r) : At H ((⟨b, 0, none⟩ : Addr).add 2) [.int .i64 (r.err : Nat)] := at_fld h.at_ rfl
theorem RdAt.pos_ {H : Heap} {T : TypeId} {b : Nat} {s : ByteArray} {r : Rd} (h : RdAt H T b s r) : At H ((⟨b, 0, none⟩ : Addr).add 1) [.int .i64 (r.pos : Nat)] := at_fld h.at_ rfl
theorem RdAt.str {H : Heap} {T : TypeId} {b : Nat} {s : ByteArray} {r : Rd} (h : RdAt H T b s r) : At H ((⟨b, 0, none⟩ : Addr).add 0) [.string s] := at_fld h.at_ rfl
/-- a store of the error -/
theorem RdAt.setErr {H : Heap} {T : TypeId} {b : Nat} {s : ByteArray} {r : Rd} (h : RdAt H T b s r) (e : Nat) {Q : Heap → Prop} (k : Q (H.upd b (rdCell T s ⟨r.pos, e⟩))) :
    ∃ (c : Array Value) (T' : TypeId), H ((⟨b, 0, none⟩ : Addr).add 2).block = some (.cells c T' (0, 0)) ∧ ((⟨b, 0, none⟩ : Addr).add 2).spot = none ∧ ((⟨b, 0, none⟩ : Addr).add 2).off + [Value.int .i64 (e : Nat)].length ≤ c.size ∧
      ∀ H1, H1 = H.upd ((⟨b, 0, none⟩ : Addr).add 2).block (.cells (splice c ((⟨b, 0, none⟩ : Addr).add 2).off [.int .i64 (e : Nat)]) T' (0, 0)) → Q H1 :=
  ⟨_, _, h.at_, rfl, Nat.le_refl 3, fun H1 e1 => by subst e1; exact k⟩
theorem RdAt.setPos {H : Heap} {T : TypeId} {b : Nat} {s : ByteArray} {r : Rd} (h : RdAt H T b s r) (x : Int) (p : Nat) (hx : x = p) {Q : Heap → Prop} (k : Q (H.upd b (rdCell T s ⟨p, r.err⟩))) :
    ∃ (c : Array Value) (T' : TypeId), H ((⟨b, 0, none⟩ : Addr).add 1).block = some (.cells c T' (0, 0)) ∧ ((⟨b, 0, none⟩ : Addr).add 1).spot = none ∧ ((⟨b, 0, none⟩ : Addr).add 1).off + [Value.int .i64 x].length ≤ c.size ∧
      ∀ H1, H1 = H.upd ((⟨b, 0, none⟩ : Addr).add 1).block (.cells (splice c ((⟨b, 0, none⟩ : Addr).add 1).off [.int .i64 x]) T' (0, 0)) → Q H1 := by
  subst hx
  exact ⟨_, _, h.at_, rfl, Nat.le_of_ble_eq_true rfl, fun H1 e1 => by subst e1; exact k⟩
theorem RdAt.same {H : Heap} {T : TypeId} {b : Nat} {s : ByteArray} {r : Rd} (h : RdAt H T b s r) : H = H.upd b (rdCell T s r) := (Heap.upd_eq h.at_).symm
theorem RdAt.upd {H : Heap} {T : TypeId} {b : Nat} {s : ByteArray} {r r' : Rd} (h : RdAt H T b s r) (hp : r'.pos ≤ s.size) : RdAt (H.upd b (rdCell T s r')) T b s r' := ⟨Heap.upd_same, hp, h.size⟩
theorem RdAt.sub {H H1 : Heap} {T : TypeId} {b : Nat} {s : ByteArray} {r : Rd} (h : RdAt H T b s r) (k : Sub H H1) : RdAt H1 T b s r := ⟨k.sub _ _ h.at_, h.pos, h.size⟩
/-- the readers of one number, in their cases -/
theorem rdU_err {s : List UInt8} {lim : Nat} {r : Rd} (h : r.err ≠ 0) : rdU s lim r = (0, r) := by unfold rdU; rw [if_pos h]
theorem rdI_err {s : List UInt8} {r : Rd} (h : r.err ≠ 0) : rdI s r = (0, r) := by unfold rdI; rw [if_pos h]
theorem eta_rd {r : Rd} (h : r.err = 0) : r = ⟨r.pos, 0⟩ := by cases r; simp at h; subst h; rfl
theorem Reads.pos_le {α : Type} {s : List UInt8} {f : Rd → α × Rd} {enc : α → List UInt8} {good : α → Prop} (h : Reads s f enc good) {r : Rd} (hp : r.pos ≤ s.length) : (f r).2.pos ≤ s.length := by
  by_cases e : r.err = 0
  · rw [eta_rd e]; exact (h.range r.pos hp).2
  · rw [h.stay r e]; exact hp
end Go.Ax
namespace Go.Proofs.Ytanahoejlnmfiaa
open Go.Ax

theorem takeU_pos {s : ByteArray} {p m k : Nat} (hp : p ≤ s.size) (h : takeU (s.data.toList.drop p) = (m, k, 0)) : p + k ≤ s.size := by
  obtain ⟨_, hk, t, ht⟩ := takeU_some h
  have := drop_len (by rw [← size_list]; exact hp) ht
  rw [← size_list] at this; omega
theorem t58 {H : Heap} {b : Nat} {s : ByteArray} {r : Rd} (h : RdAt H 90 b s r) {lim : Nat} (hl : lim ≤ 9223372036854775807) :
    Tr Try.prog 58 #[.pointer (some ⟨b, 0, none⟩), .int .i64 lim] H (fun v H' => v = .int .i64 (rdU s.data.toList lim r).1 ∧ H' = H.upd b (rdCell 90 s (rdU s.data.toList lim r).2)) := by
  have hp := h.pos; have hs := h.size
  apply v58; unfold F58
  refine ⟨_, rfl, _, h.err, fun e => ?_, fun e => ?_⟩
  · have e : r.err ≠ 0 := by simpa using e
    rw [rdU_err e]; exact ⟨rfl, h.same⟩
  · have e : r.err = 0 := by simpa using e
    have tt := t68 (s.extract ((r.pos : Int).toNat) s.size) H
    rw [drop_list, Int.toNat_natCast] at tt
    refine ⟨_, rfl, s, h.str, _, rfl, _, h.pos_, ⟨by omega, by omega⟩, ?_⟩
    rw [Int.toNat_natCast]
    unfold rdU
    rw [if_neg (by rw [e]; simp)]
    rcases ht : takeU (s.data.toList.drop r.pos) with ⟨m, k, er⟩
    rw [ht] at tt
    simp only
    refine ⟨_, _, _, tt, ?_⟩
    rw [wrapu (x := (lim : Int)) (by omega) (by omega)]
    simp only
    refine ⟨fun q => ct (by decide) ⟨_, rfl, ?_⟩, fun q => ⟨fun q2 => ⟨_, rfl, ?_⟩, fun q2 => ?_⟩⟩
    · simp at q
      rw [if_neg (by rw [q.1]; simp), if_pos (by omega)]
      exact h.setErr 3 ⟨rfl, rfl⟩
    · have q2 : er ≠ 0 := by simpa using q2
      rw [if_pos q2]
      exact h.setErr er ⟨rfl, rfl⟩
    · have q2 : er = 0 := by simpa using q2
      subst q2
      simp at q
      have hk := takeU_pos hp ht
      rw [if_neg (by simp), if_neg (by omega)]
      refine ⟨_, rfl, _, h.pos_, _, rfl, h.setPos _ (r.pos + k) (by rw [wrapi (by omega) (by omega)]; omega) ⟨?_, by rw [e]⟩⟩
      rw [wrapi (by omega) (by omega)]
theorem t61 {H : Heap} {b : Nat} {s : ByteArray} {r : Rd} (h : RdAt H 95 b s r) {lim : Nat} (hl : lim ≤ 9223372036854775807) :
    Tr Try.prog 61 #[.pointer (some ⟨b, 0, none⟩), .int .u64 lim] H (fun v H' => v = .int .i64 (rdU s.data.toList lim r).1 ∧ H' = H.upd b (rdCell 95 s (rdU s.data.toList lim r).2)) := by
  have hp := h.pos; have hs := h.size
  apply v61; unfold F61
  refine ⟨_, rfl, _, h.err, fun e => ?_, fun e => ?_⟩
  · have e : r.err ≠ 0 := by simpa using e
    rw [rdU_err e]; exact ⟨rfl, h.same⟩
  · have e : r.err = 0 := by simpa using e
    have tt := t70 (s.extract ((r.pos : Int).toNat) s.size) H
    rw [drop_list, Int.toNat_natCast] at tt
    refine ⟨_, rfl, s, h.str, _, rfl, _, h.pos_, ⟨by omega, by omega⟩, ?_⟩
    rw [Int.toNat_natCast]
    unfold rdU
    rw [if_neg (by rw [e]; simp)]
    rcases ht : takeU (s.data.toList.drop r.pos) with ⟨m, k, er⟩
    rw [ht] at tt
    simp only
    refine ⟨_, _, _, tt, fun q => ⟨_, rfl, ?_⟩, fun q => ⟨fun q2 => ⟨_, rfl, ?_⟩, fun q2 => ?_⟩⟩
    · have q : er ≠ 0 := by simpa using q
      rw [if_pos q]
      exact h.setErr er ⟨rfl, rfl⟩
    · have q : er = 0 := by simpa using q
      simp at q2
      rw [if_neg (by rw [q]; simp), if_pos (by omega)]
      exact h.setErr 3 ⟨rfl, rfl⟩
    · have q : er = 0 := by simpa using q
      subst q
      simp at q2
      have hk := takeU_pos hp ht
      rw [if_neg (by simp), if_neg (by omega)]
      refine ⟨_, rfl, _, h.pos_, _, rfl, h.setPos _ (r.pos + k) (by simp only; rw [wrapi (by omega) (by omega)]; omega) ⟨?_, by rw [e]⟩⟩
      rw [wrapi (by omega) (by omega)]
theorem t69 {H : Heap} {b : Nat} {s : ByteArray} {r : Rd} (h : RdAt H 90 b s r) :
    Tr Try.prog 69 #[.pointer (some ⟨b, 0, none⟩)] H (fun v H' => v = .int .i64 (rdI s.data.toList r).1 ∧ H' = H.upd b (rdCell 90 s (rdI s.data.toList r).2)) := by
  have hp := h.pos; have hs := h.size
  apply v69; unfold F69
  refine ⟨_, rfl, _, h.err, fun e => ?_, fun e => ?_⟩
  · have e : r.err ≠ 0 := by simpa using e
    rw [rdI_err e]; exact ⟨rfl, h.same⟩
  · have e : r.err = 0 := by simpa using e
    have tt := t74 (s.extract ((r.pos : Int).toNat) s.size) H
    rw [drop_list, Int.toNat_natCast] at tt
    refine ⟨_, rfl, s, h.str, _, rfl, _, h.pos_, ⟨by omega, by omega⟩, ?_⟩
    rw [Int.toNat_natCast]
    unfold rdI
    rw [if_neg (by rw [e]; simp)]
    unfold takeI at tt ⊢
    rcases ht : takeU (s.data.toList.drop r.pos) with ⟨m, k, er⟩
    rw [ht] at tt
    simp only
    refine ⟨_, _, _, tt, fun q => ⟨_, rfl, ?_⟩, fun q => ?_⟩
    · have q : er ≠ 0 := by simpa using q
      rw [if_pos q]
      exact h.setErr er ⟨rfl, rfl⟩
    · have q : er = 0 := by simpa using q
      subst q
      have hk := takeU_pos hp ht
      rw [if_neg (by simp)]
      exact ⟨_, rfl, _, h.pos_, _, rfl, h.setPos _ (r.pos + k) (by simp only; rw [wrapi (by omega) (by omega)]; omega) ⟨rfl, by rw [e]⟩⟩
theorem t71 {H : Heap} {b : Nat} {s : ByteArray} {r : Rd} (h : RdAt H 95 b s r) :
    Tr Try.prog 71 #[.pointer (some ⟨b, 0, none⟩)] H (fun v H' => v = .int .i64 (rdI s.data.toList r).1 ∧ H' = H.upd b (rdCell 95 s (rdI s.data.toList r).2)) := by
  have hp := h.pos; have hs := h.size
  apply v71; unfold F71
  refine ⟨_, rfl, _, h.err, fun e => ?_, fun e => ?_⟩
  · have e : r.err ≠ 0 := by simpa using e
    rw [rdI_err e]; exact ⟨rfl, h.same⟩
  · have e : r.err = 0 := by simpa using e
    have tt := t75 (s.extract ((r.pos : Int).toNat) s.size) H
    rw [drop_list, Int.toNat_natCast] at tt
    refine ⟨_, rfl, s, h.str, _, rfl, _, h.pos_, ⟨by omega, by omega⟩, ?_⟩
    rw [Int.toNat_natCast]
    unfold rdI
    rw [if_neg (by rw [e]; simp)]
    unfold takeI at tt ⊢
    rcases ht : takeU (s.data.toList.drop r.pos) with ⟨m, k, er⟩
    rw [ht] at tt
    simp only
    refine ⟨_, _, _, tt, fun q => ⟨_, rfl, ?_⟩, fun q => ?_⟩
    · have q : er ≠ 0 := by simpa using q
      rw [if_pos q]
      exact h.setErr er ⟨rfl, rfl⟩
    · have q : er = 0 := by simpa using q
      subst q
      have hk := takeU_pos hp ht
      rw [if_neg (by simp)]
      exact ⟨_, rfl, _, h.pos_, _, rfl, h.setPos _ (r.pos + k) (by simp only; rw [wrapi (by omega) (by omega)]; omega) ⟨rfl, by rw [e]⟩⟩
end Go.Proofs.Ytanahoejlnmfiaa
