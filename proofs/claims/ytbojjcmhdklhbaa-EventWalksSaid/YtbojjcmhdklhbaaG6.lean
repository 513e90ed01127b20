/- Grammar: the iterator of event.Of: it yields the events whose kind is asked, with their places. Conditions: the list and the kinds in memory. -/
import Derived.Test.YtbojjcmhdklhbaaG5
import Derived.RangeFuncBox
import Derived.RangeFuncLeaves
import Derived.Shelf.Abstract
import Derived.WalkKit
import Derived.OwnWalkIn
import Derived.TacticsInMore
import Derived.LoopNIn
import Derived.LoopIn
set_option maxRecDepth 100000
namespace Go.Proofs.Ytbojjcmhdklhbaa
open Go.Ax Go.RowKit Go.Shelf
attribute [local go_sem] Oper.semAt_some

def ofK (ks : List Int) (x : Ev) : Bool := hasM ks x.kind
/-- the places, below k, of the events that are asked for -/
def ofU (l : List Ev) (ks : List Int) (k : Nat) : List (Fin l.length) := ((List.finRange l.length).take k).filter fun i => hasM ks (l[i]).kind
theorem ofU_succ {l : List Ev} {ks : List Int} {k : Nat} {x : Ev} (hk : k < l.length) (hx : l[k]? = some x) : ofU l ks (k + 1) = ofU l ks k ++ (if hasM ks x.kind = true then [⟨k, hk⟩] else []) := by
  unfold ofU
  have h1 : (List.finRange l.length)[k]? = some ⟨k, hk⟩ := by simp [hk]
  rw [List.take_add_one, h1, List.filter_append]
  have : l[k] = x := by rw [List.getElem?_eq_getElem hk] at hx; simpa using hx
  simp only [Option.toList_some, List.filter_cons, List.filter_nil, Fin.getElem_fin, this]
theorem ofU_lt {l : List Ev} {ks : List Int} {k : Nat} {x : Ev} (hk : k < l.length) (hx : l[k]? = some x) (h : hasM ks x.kind = true) : (ofU l ks k).length < (ofU l ks l.length).length := by
  have h1 : (ofU l ks (k + 1)).length = (ofU l ks k).length + 1 := by rw [ofU_succ hk hx, if_pos h]; simp
  have h2 : ∀ j, (ofU l ks (k + 1)).length ≤ (ofU l ks (k + 1 + j)).length := by
    intro j
    unfold ofU
    have : ((List.finRange l.length).take (k + 1)) = ((List.finRange l.length).take (k + 1 + j)).take (k + 1) := by rw [List.take_take, Nat.min_eq_left (by omega)]
    rw [this]
    exact ((List.take_sublist _ _).filter _).length_le
  have := h2 (l.length - (k + 1))
  rw [show k + 1 + (l.length - (k + 1)) = l.length by omega] at this
  omega
theorem holds_alloc {H : Heap} {w : World} (h : Holds H w) (o : Obj) : Holds H (w.alloc o) := fun b o' e => by
  have hb := heap_lt (h b o' e)
  have := h b o' e
  show (w.heap.push o)[b]? = some o'
  rw [Array.getElem?_push_lt hb]
  rw [Array.getElem?_eq_getElem hb] at this
  exact this
theorem grown_alloc {H : Heap} {w : World} (h : Holds H w) (o : Obj) : w.grownBy (w.alloc o) none ∧ Holds H (w.alloc o) ∧ (w.alloc o).heap[w.heap.size]? = some o := by
  refine ⟨⟨rfl, rfl, rfl, ?_, fun i hi _ => ?_⟩, holds_alloc h o, ?_⟩
  · show w.heap.size ≤ (w.heap.push o).size
    rw [Array.size_push]; omega
  · show (w.heap.push o)[i]? = w.heap[i]?
    rw [Array.getElem?_push_lt hi, Array.getElem?_eq_getElem hi]
  · show (w.heap.push o)[w.heap.size]? = some o
    exact Array.getElem?_push_size
theorem grown_keeps {H H' : Heap} {w w' : World} {o : Obj} (h : Holds H w) (k : Keeps H (w.alloc o) H' w') (s : Sub H H') : w.grownBy w' none ∧ Holds H w' ∧ w'.heap[w.heap.size]? = some o := by
  obtain ⟨⟨a1, a2, a3, a4, a5⟩, b2, b3⟩ := grown_alloc h o
  have hlt : w.heap.size < (w.alloc o).heap.size := by
    show w.heap.size < (w.heap.push o).size
    rw [Array.size_push]; omega
  have hn : H w.heap.size = none := by
    cases hh : H w.heap.size with
    | none => rfl
    | some o' => have := heap_lt (h _ _ hh); omega
  refine ⟨⟨?_, ?_, ?_, Nat.le_trans a4 k.size, fun i hi hr => ?_⟩, k.holds.sub s, (k.old _ hlt hn).1.trans b3⟩
  · first | exact k.os.trans a1 | exact k.tape.trans a1 | exact k.output.trans a1
  · first | exact k.os.trans a2 | exact k.tape.trans a2 | exact k.output.trans a2
  · first | exact k.os.trans a3 | exact k.tape.trans a3 | exact k.output.trans a3
  · cases hh : H i with
    | none => exact (k.old i (by omega) hh).1.trans (a5 i hi hr)
    | some o' => rw [k.holds.sub s i o' hh, h i o' hh]
theorem boxc {w : World} {b : Nat} {c : Array Value} {T : TypeId} (h : w.heap[b]? = some (.cells c T (0, 0))) (j : Nat) (v : Value) (hv : c[j]? = some v) : w.cell? ⟨b, j, none⟩ = some v := by
  simp [World.cell?, h, hv]
theorem of1_in (n : Nat) (hn : 1 ≤ n) (lb : Nat) {HI : Heap} {B1 B2 : Nat} {A Bk : Option Addr} {cap kn kc : Nat} {T1 T2 : TypeId} {l : List Ev} {ks : List Int}
    (h1 : HI B1 = some (.cells #[.slice A l.length cap] T1 (0, 0))) (h2 : HI B2 = some (.cells #[.slice Bk kn kc] T2 (0, 0))) (hE : HasEvs HI A l.length l) (hK : HasI HI Bk kn ks) (hb : l.length ≤ 100000000000000000) (hkb : ks.length ≤ 9223372036854775807)
    (J Jx : List (Fin l.length) → World → Prop) (W : World) (hW : Holds HI W) (hJ : AbidesFrom W.heap.size J)
    (hY : ∀ pre (x : Fin l.length) W1, J pre W1 → pre.length < (ofU l ks l.length).length → YieldAt Fence.wide (n - 1) Try.prog lb #[.int .i64 (x.1 : Int), ((l[x.1]?).getD Ev.zero).val] W1 fun e W' =>
      (e = .returned (.bool true) ∧ J (pre ++ [x]) W' ∧ (Holds HI W1 → Holds HI W')) ∨ (e = .returned (.bool false) ∧ Jx (pre ++ [x]) W'))
    (h0 : J [] W) :
    CallsIn Fence.wide n Try.prog 54 #[.func (.yield lb) #[] #[], .pointer (some ⟨B1, 0, none⟩), .pointer (some ⟨B2, 0, none⟩)] W fun e W' => (∃ v, e = .returned v) ∧
      ((∃ xs, xs = ofU l ks l.length ∧ J xs W') ∨ (∃ pre, (∃ j, pre = ofU l ks j) ∧ Jx pre W')) := by
  refine callsIn_of_wp Try.func54 rfl trivial ?_ rfl
  simp only [Try.ntmps54, List.size_toArray, List.length_cons, List.length_nil, Nat.reduceAdd, Nat.reduceSub, Array.replicate_succ, Array.replicate_zero, List.push_toArray, List.append_toArray, List.nil_append, List.cons_append]
  have c1 : W.cell? ⟨B1, 0, none⟩ = some (.slice A l.length cap) := (at_fld (k := 0) h1 rfl).cell hW 0 _ rfl
  gi_wp2
  gi_loopw [8] (fun i wr => ∃ k : Nat, k ≤ l.length ∧ i = .int .i64 k ∧ J (ofU l ks k) wr ∧ Holds HI wr)
    (fun i _ => l.length - (intOf i).toNat)
  case atStart => exact ⟨0, Nat.zero_le _, rfl, h0, hW⟩
  case round =>
    obtain ⟨k, hk, rfl, hJs, hH⟩ := hrel
    by_cases hlt : k < l.length
    · obtain ⟨x, hx⟩ := get_some (l := l) (i := k) hlt
      obtain ⟨⟨ab, ao, asp⟩, ha, hat⟩ := hE.at_ k x hx
      obtain rfl : asp = none := by
        obtain ⟨x0, hx0⟩ := get_some (l := l) (i := 0) (by omega)
        obtain ⟨a0, ha0, hat0⟩ := hE.at_ 0 x0 hx0
        rw [ha] at ha0; cases ha0
        obtain ⟨_, _, _, _, q, _⟩ := hat0.out
        simpa [Addr.add] using q
      subst ha
      have hcell : ∀ j v, x.cells[j]? = some v → wr.cell? ⟨ab, ao + k * 9 + j, none⟩ = some v := fun j v hv => by
        have := hat.cell hH j v hv
        rw [addr_add, addr_add] at this; exact this
      have hc0 : wr.cell? ⟨ab, ao + k * 9, none⟩ = some (.int .i64 x.id) := hcell 0 _ rfl
      have hc1 := hcell 1 _ rfl
      have hc2 := hcell 2 _ rfl
      have hc3 := hcell 3 _ rfl
      have hc4 := hcell 4 _ rfl
      have hc5 := hcell 5 _ rfl
      have hc6 := hcell 6 _ rfl
      have hc7 := hcell 7 _ rfl
      have hc8 := hcell 8 _ rfl
      have c2 : wr.cell? ⟨B2, 0, none⟩ = some (.slice Bk kn kc) := (at_fld (k := 0) h2 rfl).cell hH 0 _ rfl
      have l2 : B2 < wr.heap.size := heap_lt (hH _ _ h2)
      clear hat hcell
      gi_wp2
      · refine ⟨trivial, callsIn_wide.2 (((t55 hkb hK x.kind).run _ (holds_alloc hH _)).mono ?_)⟩
        rintro e w1 ⟨v, H', rfl, hkp, rfl, hs⟩
        obtain ⟨g1, g2, g3⟩ := grown_keeps hH hkp hs
        have hin0 : hasM ks x.kind = ks.contains x.kind := by
          unfold hasM
          have : ks.length ≠ 0 := by have := hK.len; omega
          have : ((ks.length : Int) == 0) = false := by rw [beq_eq_false_iff_ne]; omega
          rw [this, Bool.or_false]
        clear hkp
        cases hin : ks.contains x.kind with
        | false =>
          rw [hin] at hin0
          gi_wp2
          go_roundw
          case rel => exact ⟨k + 1, by omega, by simp, by rw [ofU_succ hlt hx, if_neg (by rw [hin0]; simp), List.append_nil]; exact hJ _ _ _ none hJs g1 (by simp), g2⟩
          case measure => simp [intOf]; omega
        | true =>
          rw [hin] at hin0
          have hin := hin0
          have hlx : (l[(⟨k, hlt⟩ : Fin l.length).1]?).getD Ev.zero = x := by show (l[k]?).getD Ev.zero = x; rw [hx]; rfl
          have hlen : (ofU l ks k).length < (ofU l ks l.length).length := ofU_lt hlt hx hin
          obtain ⟨fn, tmps, assign, body, hy, hR⟩ := hY _ ⟨k, hlt⟩ w1 (hJ _ _ _ none hJs g1 (by simp)) hlen
          rw [hlx] at hy
          have hy : (Instr.yield lb #[.int .i64 (k : Int), .agg #[.int .i64 x.id, .int .i64 x.time, .int .i64 x.kind, .int .i64 x.a, .int .i64 x.b, .int .i64 x.c, .int .i64 x.d, .int .i64 x.e, .int .i64 x.f]]).run Try.prog w1 = .ok (.round lb fn tmps assign body) w1 := hy
          have d0 := boxc g3 0 _ rfl
          have d1 := boxc g3 1 _ rfl
          have d2 := boxc g3 2 _ rfl
          have d3 := boxc g3 3 _ rfl
          have d4 := boxc g3 4 _ rfl
          have d5 := boxc g3 5 _ rfl
          have d6 := boxc g3 6 _ rfl
          have d7 := boxc g3 7 _ rfl
          have d8 := boxc g3 8 _ rfl
          clear hc0 hc1 hc2 hc3 hc4 hc5 hc6 hc7 hc8
          gi_wp2
          refine hR.mono ?_
          rintro e W3 (⟨rfl, hJ3, hk3⟩ | ⟨rfl, hJx3⟩)
          · gi_wp2
            go_roundw
            case rel => exact ⟨k + 1, by omega, by simp, by rw [ofU_succ hlt hx, if_pos hin]; exact hJ3, hk3 g2⟩
            case measure => simp [intOf]; omega
          · gi_wp2
            refine bodyPost_ret (results_none rfl _ _ _) rfl ?_
            exact ⟨⟨_, rfl⟩, .inr ⟨_, ⟨k + 1, by rw [ofU_succ hlt hx, if_pos hin]⟩, hJx3⟩⟩
      · refine ⟨trivial, ?_⟩
        have hin : hasM ks x.kind = true := by
          unfold hasM
          have : ks.length = 0 := by have := hK.len; omega
          simp [this]
        obtain ⟨g1, g2, g3⟩ := grown_alloc hH (.cells #[.int .i64 x.id, .int .i64 x.time, .int .i64 x.kind, .int .i64 x.a, .int .i64 x.b, .int .i64 x.c, .int .i64 x.d, .int .i64 x.e, .int .i64 x.f] 23)
        generalize hw1 : wr.alloc (.cells #[.int .i64 x.id, .int .i64 x.time, .int .i64 x.kind, .int .i64 x.a, .int .i64 x.b, .int .i64 x.c, .int .i64 x.d, .int .i64 x.e, .int .i64 x.f] 23) = w1 at g1 g2 g3 ⊢
        clear hw1
        have hlx : (l[(⟨k, hlt⟩ : Fin l.length).1]?).getD Ev.zero = x := by show (l[k]?).getD Ev.zero = x; rw [hx]; rfl
        have hlen : (ofU l ks k).length < (ofU l ks l.length).length := ofU_lt hlt hx hin
        obtain ⟨fn, tmps, assign, body, hy, hR⟩ := hY _ ⟨k, hlt⟩ w1 (hJ _ _ _ none hJs g1 (by simp)) hlen
        rw [hlx] at hy
        have hy : (Instr.yield lb #[.int .i64 (k : Int), .agg #[.int .i64 x.id, .int .i64 x.time, .int .i64 x.kind, .int .i64 x.a, .int .i64 x.b, .int .i64 x.c, .int .i64 x.d, .int .i64 x.e, .int .i64 x.f]]).run Try.prog w1 = .ok (.round lb fn tmps assign body) w1 := hy
        have d0 := boxc g3 0 _ rfl
        have d1 := boxc g3 1 _ rfl
        have d2 := boxc g3 2 _ rfl
        have d3 := boxc g3 3 _ rfl
        have d4 := boxc g3 4 _ rfl
        have d5 := boxc g3 5 _ rfl
        have d6 := boxc g3 6 _ rfl
        have d7 := boxc g3 7 _ rfl
        have d8 := boxc g3 8 _ rfl
        clear hc0 hc1 hc2 hc3 hc4 hc5 hc6 hc7 hc8
        gi_wp2
        refine hR.mono ?_
        rintro e W3 (⟨rfl, hJ3, hk3⟩ | ⟨rfl, hJx3⟩)
        · gi_wp2
          go_roundw
          case rel => exact ⟨k + 1, by omega, by simp, by rw [ofU_succ hlt hx, if_pos hin]; exact hJ3, hk3 g2⟩
          case measure => simp [intOf]; omega
        · gi_wp2
          refine bodyPost_ret (results_none rfl _ _ _) rfl ?_
          exact ⟨⟨_, rfl⟩, .inr ⟨_, ⟨k + 1, by rw [ofU_succ hlt hx, if_pos hin]⟩, hJx3⟩⟩
    · obtain rfl : k = l.length := by omega
      gi_wp2
      go_end0
      exact ⟨⟨_, rfl⟩, .inl ⟨_, rfl, hJs⟩⟩
def evE (l : List Ev) (i : Nat) : Int × Int × Int × Int × Int × Int × Int × Int × Int × Int × PUnit := ((i : Int), ((l[i]?).getD Ev.zero).id, ((l[i]?).getD Ev.zero).time, ((l[i]?).getD Ev.zero).kind, ((l[i]?).getD Ev.zero).a, ((l[i]?).getD Ev.zero).b, ((l[i]?).getD Ev.zero).c, ((l[i]?).getD Ev.zero).d, ((l[i]?).getD Ev.zero).e, ((l[i]?).getD Ev.zero).f, ())
def ofY (l : List Ev) (ks : List Int) : List Nat := (ofU l ks l.length).map (·.1)
theorem ofU_pre (l : List Ev) (ks : List Int) (j : Nat) : List.IsPrefix ((ofU l ks j).map (·.1)) (ofY l ks) := by
  unfold ofY
  refine List.IsPrefix.map _ ?_
  unfold ofU
  refine List.IsPrefix.filter _ ?_
  have h1 : (List.finRange l.length).take l.length = List.finRange l.length := by rw [List.take_of_length_le]; simp
  rw [h1]
  exact List.take_prefix _ _
theorem it54 {HI : Heap} {B1 B2 : Nat} {A Bk : Option Addr} {cap kn kc : Nat} {T1 T2 : TypeId} {l : List Ev} {ks : List Int}
    (h1 : HI B1 = some (.cells #[.slice A l.length cap] T1 (0, 0))) (h2 : HI B2 = some (.cells #[.slice Bk kn kc] T2 (0, 0))) (hE : HasEvs HI A l.length l) (hK : HasI HI Bk kn ks) (hb : l.length ≤ 100000000000000000) (hkb : ks.length ≤ 9223372036854775807) :
    It Try.prog 54 [.pointer (some ⟨B1, 0, none⟩), .pointer (some ⟨B2, 0, none⟩)] HI l.length
      (fun i => [Value.int .i64 (evE l i).1, Value.agg #[Value.int .i64 (evE l i).2.1, Value.int .i64 (evE l i).2.2.1, Value.int .i64 (evE l i).2.2.2.1, Value.int .i64 (evE l i).2.2.2.2.1, Value.int .i64 (evE l i).2.2.2.2.2.1,
        Value.int .i64 (evE l i).2.2.2.2.2.2.1, Value.int .i64 (evE l i).2.2.2.2.2.2.2.1, Value.int .i64 (evE l i).2.2.2.2.2.2.2.2.1, Value.int .i64 (evE l i).2.2.2.2.2.2.2.2.2.1]]) (ofY l ks) := by
  refine ⟨fun n w hn hw => fun lb J Jx W hB hJ _ hY h0 => ?_⟩
  have hW : Holds HI W := fun b o e => (hB.block b (heap_lt (hw b o e))).trans (hw b o e)
  have hlen : (ofY l ks).length = (ofU l ks l.length).length := by simp [ofY]
  rw [hlen] at hY
  refine (of1_in n hn lb h1 h2 hE hK hb hkb J Jx W hW hJ hY h0).mono ?_
  rintro e W' ⟨he, ⟨xs, rfl, hj⟩ | ⟨pre, ⟨j, rfl⟩, hj⟩⟩
  · exact ⟨he, .inl ⟨_, rfl, hj⟩⟩
  · exact ⟨he, .inr ⟨_, ofU_pre l ks j, hj⟩⟩
end Go.Proofs.Ytbojjcmhdklhbaa
