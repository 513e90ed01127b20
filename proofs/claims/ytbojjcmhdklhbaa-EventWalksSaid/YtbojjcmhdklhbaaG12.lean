/- Grammar: the law GrammarNames, its walk. Conditions: the list in memory, each event well formed. -/
import Derived.Test.YtbojjcmhdklhbaaG11
set_option maxRecDepth 100000
namespace Go.Proofs.Ytbojjcmhdklhbaa
open Go.Ax Go.RowKit

structure RN1 (l : List Ev) (H : Heap) (b0 : Nat) (x : Int) (Hc : Heap) : Prop where
  out : ∃ m : Nat, x = m ∧ m ≤ (openN l).length ∧ Sub H Hc ∧ ∃ cs : Array Value, Hc b0 = some (.cells cs 4 (0, 0)) ∧ cs.size = l.length ∧ ∀ j, j < l.length → cs[j]? = some (.bool (decide (j ∈ (openN l).take m)))
theorem made_get {n j : Nat} (h : j < n) : (madeCells (Value.bool false).cells (n * 1))[j]? = some (.bool false) := by
  have : ∀ i : Nat, ((Value.bool false).cells[i % (Value.bool false).cells.size]!) = .bool false := fun i => by
    have e : (Value.bool false).cells = #[.bool false] := rfl
    rw [e]
    have : i % (#[Value.bool false] : Array Value).size = 0 := by simp [Nat.mod_one]
    rw [this]; rfl
  unfold madeCells
  rw [Array.getElem?_map]
  have hr : (Array.range (n * 1))[j]? = some j := by simp [h]
  rw [hr]
  simp only [Option.map_some, this]
theorem addr_i (b0 i : Nat) : (⟨b0, 0, none⟩ : Addr).add ((i : Int).toNat * 1) = ⟨b0, i, none⟩ := by rw [addr_add]; simp
theorem t12 {l : List Ev} (hw : ∀ x ∈ l, x.Wf) (hb : l.length * 72 ≤ 140737488355328) {H : Heap} {A : Option Addr} {n c : Nat} (h : HasEvs H A n l) : Tr Try.prog 12 #[.slice A n c] H (fun v H' => v = .bool true ∧ Sub H H') := by
  have hn := h.len; subst hn
  apply v12; unfold F12
  refine ⟨_, t33 H, (t36 hw hb h).mono fun v H1 => ?_⟩
  rintro ⟨A1, n1, c1, rfl, i1, s1⟩
  refine ⟨_, _, _, _, rfl, fun q => ⟨rfl, s1⟩, fun q => ?_⟩
  have hs' : ¬ stand l < l.length := by
    intro hs; rw [if_pos hs] at q; simp at q
  have hs : stand l = l.length := by have := stand_le l; omega
  rw [if_neg hs'] at i1
  have hol := openN_len l
  refine smMono (sm_make (T := 66) (e := 4) (sz := 1) (by_ := 1) Try.underlying66 (by kernel_rfl) l.length (by omega) (by omega) H1) fun v H2 => ?_
  rintro ⟨b0, z, hz, rfl, hn0, e2⟩
  have hz' : (Try.prog.info? 4).bind (·.zero) = some (.bool false) := by kernel_rfl
  rw [hz'] at hz
  cases hz
  have s2 : Sub H1 H2 := by subst e2; exact Sub.upd_new hn0
  have hnl : n1 = (openN l).length := by have := i1.len; simpa [openG] using this
  subst hnl
  refine ⟨_, _, _, rfl, RN1 l H1 b0, fun i _ => ((openN l).length - i).toNat, ⟨0, rfl, by omega, s2, _, by subst e2; exact Heap.upd_same, by rw [size_madeCells]; omega, fun j hj => by rw [made_get hj]; simp⟩, fun x1 Hc r => ?_⟩
  obtain ⟨m, rfl, hm, sc, cs, hcb, hcs, hcv⟩ := r.out
  refine ⟨fun hlt => ?_, fun hge => ?_⟩
  · have hlt := of_decide_eq_true hlt
    obtain ⟨i, hi⟩ := get_some (l := openN l) (i := m) (by omega)
    have hi2 : (openG l)[m]? = some (i : Int) := by simp [openG, hi]
    have hil : i < l.length := by
      have := List.mem_of_getElem? hi
      unfold openN at this
      rw [List.mem_filter, List.mem_range] at this
      exact this.1
    obtain ⟨a, ha, hat⟩ := i1.at_ m _ hi2
    refine ⟨a, ⟨ha, by omega, by omega⟩, (i : Int), hat.sub sc, a, fun _ => ⟨ha, by omega, by omega⟩, (i : Int), fun _ => hat.sub sc, fun q => absurd q (by simp; omega), fun _ => ⟨a, ⟨ha, by omega, by omega⟩, (i : Int), hat.sub sc, ⟨b0, 0, none⟩, ⟨rfl, by omega, by omega⟩, cs, 4, ?_, ?_, ?_, fun H4 e4 => ?_⟩⟩
    · rw [show (⟨b0, 0, none⟩ : Addr).add ((i : Int).toNat * nat_lit 1) = ⟨b0, i, none⟩ from addr_i b0 i]; exact hcb
    · rw [show (⟨b0, 0, none⟩ : Addr).add ((i : Int).toNat * nat_lit 1) = ⟨b0, i, none⟩ from addr_i b0 i]
    · rw [show (⟨b0, 0, none⟩ : Addr).add ((i : Int).toNat * nat_lit 1) = ⟨b0, i, none⟩ from addr_i b0 i]
      show i + 1 ≤ cs.size
      omega
    · rw [show (⟨b0, 0, none⟩ : Addr).add ((i : Int).toNat * nat_lit 1) = ⟨b0, i, none⟩ from addr_i b0 i] at e4
      have e4 : H4 = Hc.upd b0 (.cells (splice cs i [.bool true]) 4 (0, 0)) := e4
      have hfit : i + [Value.bool true].length ≤ cs.size := by show i + 1 ≤ cs.size; omega
      rw [wrapi (by omega) (by omega)]
      refine ⟨⟨m + 1, by omega, by omega, by rw [e4]; exact sub_upd_none sc _ hn0, _, by rw [e4]; exact Heap.upd_same, by rw [splice_size hfit]; exact hcs, fun j hj => ?_⟩, ?_⟩
      · rw [splice_get hfit, take_snoc hi]
        by_cases h1 : j < i
        · rw [if_pos h1, hcv j hj]
          have : j ≠ i := by omega
          simp [this]
        · rw [if_neg h1]
          by_cases h2 : j = i
          · subst h2
            rw [if_pos (by simp)]
            simp
          · rw [if_neg (by simp; omega), hcv j hj]
            simp [h2]
      · show ((openN l).length - ((m : Int) + 1)).toNat < ((openN l).length - (m : Int)).toNat
        omega
  · have hge := of_decide_eq_false hge
    have hml : m = (openN l).length := by omega
    subst hml
    have hcv : ∀ j, j < l.length → cs[j]? = some (.bool (decide (j ∈ openN l))) := fun j hj => by have := hcv j hj; rw [List.take_length] at this; exact this
    refine ⟨fun i Hx => Hx = Hc ∧ ∃ k : Nat, i = k ∧ k ≤ l.length, fun i _ => (l.length - i).toNat, ⟨rfl, 0, rfl, by omega⟩, fun x5 Hx r5 => ?_⟩
    obtain ⟨hHx, k, rfl, hk⟩ := r5
    subst hHx
    refine ⟨fun hlt => ?_, fun _ => ⟨rfl, s1.trans sc⟩⟩
    have hlt := of_decide_eq_true hlt
    have hkl : k < l.length := by omega
    obtain ⟨x, hx⟩ := get_some (l := l) (i := k) hkl
    obtain ⟨a, ha, hat⟩ := h.at_ k x hx
    have hat := hat.sub (s1.trans sc)
    have hat2 := at_one 2 hat (v := .int .i64 x.kind) rfl
    rw [wrapi (x := (k : Int) + 1) (by omega) (by omega)]
    refine ⟨fun x6 x7 Hy => Hy = Hx ∧ ∃ j : Nat, x7 = j ∧ j ≤ l.length ∧ x6 = (cnt l x.kind (k + 1) j : Nat), fun _ x7 _ => (l.length - x7).toNat, ⟨rfl, 0, rfl, by omega, by simp [cnt]⟩, fun x6 x7 Hy r6 => ?_⟩
    obtain ⟨hHy, j, rfl, hj, rfl⟩ := r6
    subst hHy
    have hcm := cnt_le_m l x.kind (k + 1) j
    refine ⟨fun hlt7 => ?_, fun hge7 => ?_⟩
    · have hlt7 := of_decide_eq_true hlt7
      have hjl : j < l.length := by omega
      obtain ⟨y, hy⟩ := get_some (l := l) (i := j) hjl
      obtain ⟨a', ha', hay⟩ := h.at_ j y hy
      have hay := hay.sub (s1.trans sc)
      have hcs2 := cnt_succ hy x.kind (k + 1)
      rw [wrapi (x := (j : Int) + 1) (by omega) (by omega), wrapi (x := ((cnt l x.kind (k + 1) j : Nat) : Int) + 1) (by omega) (by omega)]
      refine ⟨a', ⟨ha', by omega, by omega⟩, y.kind, at_one 2 hay rfl, a, ⟨ha, by omega, by omega⟩, x.kind, hat2, a', ⟨ha', by omega, by omega⟩, y.a, at_one 3 hay rfl, fun p => ?_, fun p => ?_⟩
      · have p : endP x.kind (k + 1) y = true := p
        rw [if_pos p] at hcs2
        exact ⟨⟨rfl, j + 1, by omega, by omega, by rw [hcs2]; omega⟩, by show (l.length - ((j : Int) + 1)).toNat < (l.length - (j : Int)).toNat; omega⟩
      · have p : endP x.kind (k + 1) y = false := p
        rw [if_neg (by rw [p]; simp)] at hcs2
        exact ⟨⟨rfl, j + 1, by omega, by omega, by rw [hcs2]; omega⟩, by show (l.length - ((j : Int) + 1)).toNat < (l.length - (j : Int)).toNat; omega⟩
    · have hge7 := of_decide_eq_false hge7
      have hjl : j = l.length := by omega
      subst hjl
      have h1 := cnt_one hs x.kind (k + 1) l.length (Nat.le_refl _)
      have hd : decide (((cnt l x.kind (k + 1) l.length : Nat) : Int) > 1) = false := decide_eq_false (by omega)
      refine ⟨a, ⟨ha, by omega, by omega⟩, x.kind, hat2, a, fun _ => ⟨ha, by omega, by omega⟩, x.kind, fun _ => hat2, a, fun _ => ⟨ha, by omega, by omega⟩, x.kind, fun _ => hat2, ⟨b0, 0, none⟩, fun _ => ⟨rfl, by omega, by omega⟩, decide (k ∈ openN l), fun _ => ?_, fun q => absurd q ?_, fun _ => ⟨⟨rfl, k + 1, by omega, by omega⟩, by show (l.length - ((k : Int) + 1)).toNat < (l.length - (k : Int)).toNat; omega⟩⟩
      · rw [show ((k : Int).toNat * nat_lit 1) = k from by show (k : Int).toNat * 1 = k; omega]
        exact at_fld k hcb (hcv k hkl)
      · rw [open_cnt hx, hd]; simp
end Go.Proofs.Ytbojjcmhdklhbaa
