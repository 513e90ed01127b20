/- Grammar: the law GrammarBegins: what a list's beginnings answer. Conditions: the list in memory, each event well formed, its length within its capacity. -/
import Derived.Test.YtbojjcmhdklhbaaG9
set_option maxRecDepth 100000
namespace Go.Proofs.Ytbojjcmhdklhbaa
open Go.Ax Go.RowKit

theorem standG_take : ∀ (l pre : List Ev) (m : Nat), standG pre (l.take m) = min m (standG pre l)
  | [], pre, m => by simp [standG]
  | x :: l, pre, 0 => by simp [standG]
  | x :: l, pre, m + 1 => by
    rw [List.take_succ_cons]
    unfold standG
    split
    · rw [standG_take l (pre ++ [x]) m]; omega
    · simp
theorem stand_take (l : List Ev) (m : Nat) : stand (l.take m) = min m (stand l) := standG_take l [] m
theorem standG_may : ∀ (l pre : List Ev) (k : Nat) (x : Ev), k < standG pre l → l[k]? = some x → mayP (pre ++ l.take k) x = true
  | [], pre, k, x, h, _ => by simp [standG] at h
  | y :: l, pre, k, x, h, hx => by
    unfold standG at h
    split at h
    · rename_i hm
      cases k with
      | zero => simp at hx; subst hx; simpa using hm
      | succ k =>
        have := standG_may l (pre ++ [y]) k x (by omega) (by simpa using hx)
        simpa using this
    · omega
theorem over_not {pre : List Ev} {e : Ev} (h : mayP pre e = true) : overP pre = false := by
  rcases List.eq_nil_or_concat pre with rfl | ⟨p, x, rfl⟩
  · rfl
  · rw [List.concat_eq_append] at *
    rw [overP_snoc]
    rw [may_ne (by simp), lastP_snoc] at h
    cases hc : closeM x.kind with
    | false => rfl
    | true =>
      rw [hc] at h
      split at h
      · cases h
      · rw [if_pos (by simp)] at h; cases h
theorem evs_pre {H : Heap} {A : Option Addr} {l : List Ev} {m : Nat} (h : HasEvs H A l.length l) (hm : m ≤ l.length) (c : Nat) :
    HasEvs H (if c = 0 then A else Option.map (fun x => x.add (0 * 9)) A) (m - 0) (l.take m) := by
  have e : (if c = 0 then A else Option.map (fun x => x.add (0 * 9)) A) = A := by
    split
    · rfl
    · cases A with
      | none => rfl
      | some a => simp [Addr.add]
  rw [e]
  refine ⟨by rw [len_take hm]; rfl, fun i x hx => h.at_ i x ?_⟩
  have := get_lt hx
  rw [len_take hm] at this
  rw [get_take this] at hx; exact hx
def ckT (l : List Ev) : Int := if stand l < l.length then 52 else 0
def ckN (l : List Ev) : Int := if stand l < l.length then ((stand l : Nat) : Int) else 0
theorem check_tn (l : List Ev) : checkV l = .tuple #[.int .i64 (ckT l), .int .i64 (ckN l)] := by unfold checkV ckT ckN; split <;> rfl
theorem bg {l : List Ev} (hw : ∀ x ∈ l, x.Wf) (hb : l.length * 72 ≤ 140737488355328) {H : Heap} {A : Option Addr} {c : Nat} (h : HasEvs H A l.length l) (hcap : l.length ≤ c) {m : Nat} (hm : m ≤ l.length) (S : Int) (hS : S = stand l) {P1 P2 Nx : Prop} (hx : Nx) :
    ((0 : Int) ≤ m ∧ (m : Int) ≤ c) ∧ ∃ x3 x4 : Int, (Tr Try.prog 34 #[.slice (if c = 0 then A else Option.map (fun x => x.add (0 * 9)) A) ((m : Int).toNat - 0) (c - 0)] H fun v H' => v = .tuple #[.int .i64 x3, .int .i64 x4] ∧ Sub H H') ∧
    ((decide ((m : Int) ≤ S) && x3 != 0 || decide ((m : Int) > S) && (x3 != 52 || x4 != S)) = true → P1) ∧
    ((decide ((m : Int) ≤ S) && x3 != 0 || decide ((m : Int) > S) && (x3 != 52 || x4 != S)) = false →
      ((0 : Int) ≤ m ∧ (m : Int) ≤ c) ∧ ∃ x5 x6 : Int, (Tr Try.prog 38 #[.slice (if c = 0 then A else Option.map (fun x => x.add (0 * 9)) A) ((m : Int).toNat - 0) (c - 0)] H fun v H' => v = .tuple #[.int .i64 x5, .int .i64 x6] ∧ Sub H H') ∧
      ((decide ((m : Int) ≤ S) && (x6 != 0 || decide (x5 ≥ 0) && x5 != IntKind.i64.wrap ((m : Int) - 1) || decide (x5 ≥ 0) && decide ((m : Int) < S))) = true → P2) ∧
      ((decide ((m : Int) ≤ S) && (x6 != 0 || decide (x5 ≥ 0) && x5 != IntKind.i64.wrap ((m : Int) - 1) || decide (x5 ≥ 0) && decide ((m : Int) < S))) = false → Nx)) := by
  subst hS
  have hwt : ∀ x ∈ l.take m, x.Wf := fun x hx => hw x (List.mem_of_mem_take hx)
  have hlt := len_take hm
  have hE := evs_pre h hm c
  have hst := stand_take l m
  have hsl := stand_le l
  rw [wrapi (by omega) (by omega)]
  refine ⟨⟨by omega, by omega⟩, ckT (l.take m), ckN (l.take m), by have := t34 (c := c - 0) hwt (by omega) hE; rw [check_tn] at this; exact this, fun q => absurd q ?_, fun _ => ⟨⟨by omega, by omega⟩, _, _, t38 (c := c - 0) hwt (by omega) hE, fun q => absurd q ?_, fun _ => hx⟩⟩
  · unfold ckT ckN
    rw [hlt, hst]
    by_cases hms : m ≤ stand l
    · rw [Nat.min_eq_left hms, if_neg (by omega)]
      have : decide ((m : Int) > (stand l : Nat)) = false := decide_eq_false (by omega)
      rw [this]; simp
    · rw [Nat.min_eq_right (by omega), if_pos (by omega), if_pos (by omega)]
      have : decide ((m : Int) ≤ (stand l : Nat)) = false := decide_eq_false (by omega)
      rw [this]; simp
  · by_cases hms : m ≤ stand l
    · have hc : closeI (l.take m) = if overP (l.take m) = true then ((m : Int) - 1, 0) else (-1, 0) := by
        unfold closeI; rw [hlt, hst, Nat.min_eq_left hms, if_neg (by omega)]
      rw [hc]
      split
      · rename_i ho
        have hme : ¬ (m : Int) < (stand l : Nat) := by
          intro hlt2
          obtain ⟨x, hx⟩ := get_some (l := l) (i := m) (by omega)
          have hms2 : m < standG [] l := by have q : m < stand l := (by omega); exact q
          have := over_not (standG_may l [] m x hms2 hx)
          rw [List.nil_append, ho] at this; cases this
        have : decide ((m : Int) < (stand l : Nat)) = false := decide_eq_false hme
        simp
        intros; omega
      · simp
    · have : decide ((m : Int) ≤ (stand l : Nat)) = false := decide_eq_false (by omega)
      rw [this]; simp
structure RBg (l : List Ev) (H : Heap) (i : Int) (H1 : Heap) : Prop where
  heap : H1 = H
  k : ∃ m : Nat, i = m ∧ m ≤ l.length + 1
theorem t11 {l : List Ev} (hw : ∀ x ∈ l, x.Wf) (hb : l.length * 72 ≤ 140737488355328) {H : Heap} {A : Option Addr} {n c : Nat} (h : HasEvs H A n l) (hcap : n ≤ c) : Tr Try.prog 11 #[.slice A n c] H (fun v H' => v = .bool true ∧ Sub H H') := by
  have hn := h.len; subst hn
  apply v11; unfold F11
  have hsl := stand_le l
  refine ⟨_, t33 H, ckT l, ckN l, by have := t34 (c := c) hw hb h; rw [check_tn] at this; exact this, fun q => ⟨fun q1 => absurd q1 ?_, fun _ => ?_⟩, fun q => ⟨fun q1 => absurd q1 ?_, fun _ => ?_⟩⟩
  · have hs : stand l < l.length := by
      by_cases hs : stand l < l.length
      · exact hs
      · unfold ckT at q; rw [if_neg hs] at q; simp at q
    unfold ckN; rw [if_pos hs]
    simp; omega
  · have hs : stand l < l.length := by
      by_cases hs : stand l < l.length
      · exact hs
      · unfold ckT at q; rw [if_neg hs] at q; simp at q
    have hS : ckN l = stand l := by unfold ckN; rw [if_pos hs]
    refine ⟨RBg l H, fun i _ => (l.length + 1 - i).toNat, ⟨rfl, 0, rfl, by omega⟩, fun i H1 r => ?_⟩
    have hH := r.heap; subst hH
    obtain ⟨m, rfl, hm⟩ := r.k
    refine ⟨fun hle => ?_, fun _ => ⟨rfl, Sub.refl _⟩⟩
    have hle := of_decide_eq_true hle
    refine bg hw hb h hcap (by omega) (ckN l) hS ?_
    rw [wrapi (by omega) (by omega)]
    refine ⟨⟨rfl, m + 1, by omega, by omega⟩, ?_⟩
    show (l.length + 1 - ((m : Int) + 1)).toNat < (l.length + 1 - (m : Int)).toNat
    omega
  · simp
  · have hs : ¬ stand l < l.length := by
      intro hs; unfold ckT at q; rw [if_pos hs] at q; simp at q
    have hS : (l.length : Int) = stand l := by omega
    refine ⟨RBg l H, fun i _ => (l.length + 1 - i).toNat, ⟨rfl, 0, rfl, by omega⟩, fun i H1 r => ?_⟩
    have hH := r.heap; subst hH
    obtain ⟨m, rfl, hm⟩ := r.k
    refine ⟨fun hle => ?_, fun _ => ⟨rfl, Sub.refl _⟩⟩
    have hle := of_decide_eq_true hle
    refine bg hw hb h hcap (by omega) (l.length : Int) hS ?_
    rw [wrapi (by omega) (by omega)]
    refine ⟨⟨rfl, m + 1, by omega, by omega⟩, ?_⟩
    show (l.length + 1 - ((m : Int) + 1)).toNat < (l.length + 1 - (m : Int)).toNat
    omega
theorem cap_of {P : Program} {W : World} {t e : TypeId} (ht : P.underlying t = some (.slice e)) {H : Type} {enc : TypeId × Value → H} {b0 : Nat} {spare : Nat → Bool} {held : Bool} {d : DataW H} {p : List MemPlace} {A : Option Addr} {n c : Nat}
    (h : DataW.Trod enc P W b0 spare held t (.slice A n c) d p) : n ≤ c := by
  have f := fit_of_Trod 1 h
  unfold Fit at f
  rw [ht] at f
  obtain ⟨A', n', c', e1, h1, h2, h3, h4⟩ := f
  simp [Value.cells] at e1
  obtain ⟨rfl, rfl, rfl⟩ := e1
  exact h1
end Go.Proofs.Ytbojjcmhdklhbaa
