/- Ax, second part: the soundness of the abstract walk: if the formula 'vcFn' of a function holds, the call keeps its contract ('Tr'). Conditions: none beyond those of each lemma. -/
import Derived.Test.YtanahoejlnmfiaaAx
namespace Go.Ax
open Go.RowKit

def BRel (bs : List Nat) : AV → Value → Prop
  | .v x, y => y = x
  | .bl b, y => y = .bool b
  | .loc i off, y => ∃ b, bs[i]? = some b ∧ y = .pointer (some ⟨b, off, none⟩)
  | .lsl i off n c, y => ∃ b, bs[i]? = some b ∧ y = .slice (some ⟨b, off, none⟩) n c
  | .ifs _ _ _ _, _ => True
  | .any, _ => True
def SRel (bs : List Nat) (tm : Array Value) (ep : Nat) : AV → Value → Prop
  | .ifs e s w x, y => e = ep → (tm.getD s undef = .bool w → BRel bs x y) ∧ (tm.getD s undef ≠ .bool w → y = undef)
  | x, y => BRel bs x y

/-- the blocks that a range over a function laid for its rounds' deferred calls: at the return they are taken, and hold none -/
def dfs (ds : List Nat) : List Deferred := ds.map fun D => { target := .collected D, args := #[] }
structure FC (ds : List Nat) (p : Pro) (z : Nat → Value) (bs : List Nat) (S : AS) (a : Act) : Prop where
  size : a.tmps.size = p.n
  defers : a.defers = dfs ds
  slots : ∀ t, SRel bs a.tmps S.ep (look S.fr t) (a.tmps.getD t undef)
  eps : ∀ t e s w x, look S.fr t = .ifs e s w x → e ≤ S.ep ∧ (e = S.ep → hasN S.gs s = true)
  zs : ∀ t, p.ok t = false → a.tmps.getD t undef = z t
  okn : ∀ t, p.ok t = true → t < p.n

/-- Of the boxes that are older than a loop: the cells that may not turn, and the sizes. -/
structure ZB where
  cell : Nat → Nat → Option Value
  len : Nat → Option Nat
  bb : List Nat

structure WC (ds : List Nat) (p : Pro) (zb : ZB) (H0 : Heap) (w0 : World) (bs : List Nat) (bx : List (List AV)) (H : Heap) (w : World) : Prop where
  blen : bs.length = bx.length
  nodup : bs.Nodup
  boxes : ∀ (i : Nat) (b : Nat) (cs : List AV), bs[i]? = some b → bx[i]? = some cs → (w0.heap.size ≤ b ∨ b ∈ zb.bb) ∧ H b = none ∧ ∃ c T, w.heap[b]? = some (.cells c T (0, 0)) ∧ c.size = cs.length ∧
    (∀ (j : Nat) x, cs[j]? = some x → ∃ y, c[j]? = some y ∧ BRel bs x y) ∧ (∀ j, j < c.size → p.okb i j = false → c[j]? = zb.cell i j) ∧ (∀ m, zb.len i = some m → c.size = m)
  okf : ∀ i j, bx.length ≤ i → p.okb i j = true
  lnf : ∀ i, bx.length ≤ i → zb.len i = none
  keeps : Keeps H0 w0 H w
  dq : ∀ D ∈ ds, w0.heap.size ≤ D ∧ H D = none ∧ w.heap[D]? = some (.deferred (some []))
  dn : ds.Nodup
  bk : ∀ b ∈ zb.bb, (H0 b).isSome = true

theorem ob_of {G : Option Bool} {q : Prop} (hG : ∀ g, G = some g → g = true) (h : ob G q) : q := by
  cases G with
  | none => exact h
  | some g => exact h (hG g rfl)

theorem hasN_iff : ∀ (l : List Nat) (t : Nat), hasN l t = true ↔ t ∈ l
  | [], t => by simp [hasN]
  | k :: l, t => by
    simp only [hasN]
    cases hk : Nat.beq k t with
    | true => have := Nat.eq_of_beq_eq_true hk; subst this; simp
    | false =>
      have hne : k ≠ t := fun e => by subst e; simp at hk
      simp only [hasN_iff l t, List.mem_cons]
      exact ⟨.inr, fun h => h.resolve_left (fun e => hne e.symm)⟩

theorem hasG_mem : ∀ (l : List (Nat × Bool)) (s : Nat) (w : Bool), hasG l s w = true → (s, w) ∈ l
  | [], s, w, h => by simp [hasG] at h
  | q :: l, s, w, h => by
    simp only [hasG] at h
    cases hk : Nat.beq q.1 s && bq q.2 w with
    | true =>
      rw [Bool.and_eq_true] at hk
      have h1 := Nat.eq_of_beq_eq_true hk.1
      have h2 : q.2 = w := by
        have := hk.2
        cases hq : q.2 <;> cases w <;> simp_all [bq]
      obtain ⟨q1, q2⟩ := q
      simp only at h1 h2
      subst h1; subst h2
      simp
    | false =>
      rw [hk] at h
      exact List.mem_cons_of_mem _ (hasG_mem l s w h)

theorem look_put (S : AS) (d : Nat) (x : AV) (t : Nat) : look ((d, x) :: S.fr) t = if d = t then x else look S.fr t := by
  simp only [look]
  cases hk : Nat.beq d t with
  | true => have := Nat.eq_of_beq_eq_true hk; subst this; simp
  | false => rw [if_neg (fun e => by subst e; simp at hk)]

theorem SRel.brel {bs : List Nat} {tm : Array Value} {ep : Nat} {x : AV} {y : Value} (h : SRel bs tm ep x y) : BRel bs x y := by
  cases x <;> first | exact h | trivial

section
variable {ds : List Nat} {p : Pro} {z : Nat → Value} {bs : List Nat} {S : AS} {a : Act}

theorem pe_sound (_hF : FC ds p z bs S a) {anc : List (Nat × Bool)} (ha : ∀ q ∈ anc, a.tmps.getD q.1 undef = .bool q.2) {x : AV} {y : Value} (h : SRel bs a.tmps S.ep x y) :
    BRel bs (pe S anc x) y := by
  cases x with
  | ifs e s w x =>
    simp only [pe]
    cases hk : Nat.beq e S.ep && hasG anc s w with
    | true =>
      rw [Bool.and_eq_true] at hk
      exact (h (Nat.eq_of_beq_eq_true hk.1)).1 (ha _ (hasG_mem _ _ _ hk.2))
    | false => trivial
  | _ => exact h

theorem evA_sound (hF : FC ds p z bs S a) {anc : List (Nat × Bool)} (ha : ∀ q ∈ anc, a.tmps.getD q.1 undef = .bool q.2) (x : Operand) : BRel bs (evA S anc x) (a.eval x) := by
  cases x with
  | tmp t => exact pe_sound hF ha (hF.slots t)
  | const v => rfl
  | global g => rfl
  | func f => rfl

theorem undef_ne_bool {w : Bool} : undef ≠ .bool w := by unfold undef; intro h; cases h

theorem ancs_sound (hF : FC ds p z bs S a) : ∀ (f s : Nat) (w : Bool), a.tmps.getD s undef = .bool w → ∀ q ∈ ancs S f s w, a.tmps.getD q.1 undef = .bool q.2
  | 0, s, w, h, q, hq => by simp [ancs] at hq; subst hq; exact h
  | f + 1, s, w, h, q, hq => by
    simp only [ancs, List.mem_cons] at hq
    rcases hq with rfl | hq
    · exact h
    · have hs := hF.slots s
      cases hl : look S.fr s with
      | ifs e s' w' x =>
        rw [hl] at hq hs
        cases he : Nat.beq e S.ep with
        | true =>
          simp only [he] at hq
          have hs' := hs (Nat.eq_of_beq_eq_true he)
          have : a.tmps.getD s' undef = .bool w' := by
            refine Classical.byContradiction fun hn => ?_
            have := hs'.2 hn
            rw [h] at this
            exact undef_ne_bool this.symm
          exact ancs_sound hF f s' w' this q hq
        | false => simp only [he] at hq; cases hq
      | _ => rw [hl] at hq; cases hq

theorem asB_some {x : AV} {b : Bool} {y : Value} (h : asB x = some b) (hy : BRel bs x y) : y = .bool b := by
  cases x with
  | v x => cases x <;> simp [asB] at h; subst h; exact hy
  | bl c => simp [asB] at h; subst h; exact hy
  | _ => simp [asB] at h

theorem bq_of {w g : Bool} (h : Value.bool g = .bool w) : bq w g = true := by
  injection h with h; subst h; cases g <;> rfl

theorem gB_sound (hF : FC ds p z bs S a) : ∀ (f s : Nat) (w : Bool) (g : Bool), gB S f s w = some g → a.tmps.getD s undef = .bool w → g = true
  | 0, s, w, g, h, _ => by simp [gB] at h
  | f + 1, s, w, g, h, hw => by
    have hs := hF.slots s
    simp only [gB] at h
    cases hl : look S.fr s with
    | v x =>
      rw [hl] at h hs
      have hs : a.tmps.getD s undef = x := hs
      cases x <;> simp at h
      subst h
      exact bq_of (hs.symm.trans hw)
    | bl b =>
      rw [hl] at h hs
      have hs : a.tmps.getD s undef = .bool b := hs
      simp at h
      subst h
      exact bq_of (hs.symm.trans hw)
    | ifs e s' w' x =>
      rw [hl] at h hs
      cases he : Nat.beq e S.ep with
      | false => simp [he] at h
      | true =>
        simp only [he] at h
        have hs' := hs (Nat.eq_of_beq_eq_true he)
        have h1 : a.tmps.getD s' undef = .bool w' := by
          refine Classical.byContradiction fun hn => ?_
          have := hs'.2 hn
          rw [hw] at this
          exact undef_ne_bool this.symm
        have h2 := hs'.1 h1
        cases hb : asB x with
        | none => simp [hb] at h
        | some g0 =>
          simp only [hb] at h
          have h3 := asB_some hb h2
          cases hg : gB S f s' w' with
          | none => simp [hg] at h
          | some h0 =>
            simp only [hg, Option.some.injEq] at h
            subst h
            rw [gB_sound hF f s' w' h0 hg h1, bq_of (h3.symm.trans hw)]
            rfl
    | _ => rw [hl] at h; simp at h

theorem evAll_sound (hF : FC ds p z bs S a) {anc : List (Nat × Bool)} (ha : ∀ q ∈ anc, a.tmps.getD q.1 undef = .bool q.2) : ∀ (l : List Operand) (vs : List Value), allVals (evAll S anc l) = some vs → l.map a.eval = vs
  | [], vs, h => by simp [evAll, allVals] at h; simp [h]
  | x :: l, vs, h => by
    have hx := evA_sound hF ha x
    simp only [evAll, allVals] at h
    cases hv : evA S anc x with
    | v y =>
      rw [hv] at h hx
      cases hr : allVals (evAll S anc l) with
      | none => simp [hr] at h
      | some r => simp [hr] at h; subst h; simp only [List.map_cons, evAll_sound hF ha l r hr]; rw [show a.eval x = y from hx]
    | bl b =>
      rw [hv] at h hx
      cases hr : allVals (evAll S anc l) with
      | none => simp [hr] at h
      | some r => simp [hr] at h; subst h; simp only [List.map_cons, evAll_sound hF ha l r hr]; rw [show a.eval x = .bool b from hx]
    | _ => rw [hv] at h; simp at h
end

/-! ### operators -/
section
variable {P : Program} {bs : List Nat} {G : Option Bool}

theorem kk_of {k k' : IntKind} {q : Prop} (h : kk k k' q) : k = k' ∧ q := by
  unfold kk at h
  cases hk : kb k k' with
  | true => rw [hk] at h; exact ⟨kb_eq hk, h⟩
  | false => rw [hk] at h; exact h.elim

/-- What an operation that leaves memory alone yields. -/
def Yl (P : Program) (bs : List Nat) (s : Sem Value) (K : AV → Prop) : Prop := ∃ x v, BRel bs x v ∧ K x ∧ ∀ w, s.run P w = .ok v w
theorem Yl.mk {s : Sem Value} {K : AV → Prop} (v : Value) (hk : K (.v v)) (hr : ∀ w, s.run P w = .ok v w) : Yl P bs s K := ⟨.v v, v, rfl, hk, hr⟩

theorem binInt_sound (hG : ∀ g, G = some g → g = true) {op : BinOp} {t : TypeId} {k k' : IntKind} {x y : Int} {K : AV → Prop} (h : binInt G op k x k' y K) :
    Yl P bs (binOp op t (.int k x) (.int k' y)) K := by
  cases op <;> simp only [binInt] at h
  case shl =>
    have h0 := ob_of hG h.1
    exact .mk _ h.2 fun w => by simp [binOp, Op.shift, shAmt, show ¬ y < 0 by omega]
  case shr =>
    have h0 := ob_of hG h.1
    exact .mk _ h.2 fun w => by simp [binOp, Op.shift, shAmt, show ¬ y < 0 by omega]
  all_goals (obtain ⟨rfl, h2⟩ := kk_of h; clear h)
  case quo =>
    have h0 := ob_of hG h2.1
    exact .mk _ h2.2 fun w => by simp [binOp, Op.intDiv, h0]
  case rem =>
    have h0 := ob_of hG h2.1
    exact .mk _ h2.2 fun w => by simp [binOp, Op.intDiv, h0]
  all_goals exact .mk _ h2 fun w => by simp [binOp, Op.intArith, Op.intBits, Op.intCmp, bitsI]

theorem eqF_sound (xs ys : Array Value) : ∀ (d : Nat) (fs : List Field) (r : Bool), eqF P xs.toList ys.toList fs = some r → ∀ w, (Op.eqFields (d + 1) xs ys fs).run P w = .ok r w
  | d, [], r, h, w => by simp [eqF] at h; subst h; simp [Op.eqFields]
  | d, f :: fs, r, h, w => by
    simp only [eqF] at h
    cases hn : f.name == "_" with
    | true => simp [hn] at h
    | false =>
      simp only [hn] at h
      have hne : f.name ≠ "_" := by simpa using hn
      rw [nthO_eq, nthO_eq] at h
      simp only [Op.eqFields, hne, ne_eq, not_false_eq_true, if_true]
      have part_one : ∀ (zs : Array Value) (v : Value), zs.toList[f.offset]? = some v → aggT P f.type = false → (P.underlying f.type).isSome → ∀ w, (part f.type zs f.offset).run P w = .ok v w := by
        intro zs v hv ha hs w
        have hv' : zs[f.offset]? = some v := by simpa using hv
        obtain ⟨d, hd⟩ := Option.isSome_iff_exists.1 hs
        have hag : (isAgg f.type).run P w = .ok false w := by
          unfold aggT at ha
          rw [hd] at ha
          cases d <;> simp_all [isAgg, run_underlying hd]
        simp [part, hag, hv']
      split at h
      · rename_i k a k' b kt hx hy ht
        split at h
        · rename_i hkb
          have hk := kb_eq hkb
          subst hk
          split at h
          · rename_i r' hr
            simp only [Option.some.injEq] at h
            have e1 := part_one xs _ hx (by simp [aggT, ht]) (by simp [ht]) w
            have e2 := part_one ys _ hy (by simp [aggT, ht]) (by simp [ht]) w
            have e3 := run_equalIn_int (P := P) w d f.type k kt a b ht
            simp only [Sem.run_bind, e1, e2, e3, Result.andThen_ok]
            have ih := eqF_sound xs ys d fs r' hr w
            cases hab : a == b
            · simp [hab] at h; subst h; simp
            · simp [hab] at h; subst h; simp [ih]
          · cases h
        · cases h
      · rename_i a b hx hy ht
        split at h
        · rename_i r' hr
          simp only [Option.some.injEq] at h
          have e1 := part_one xs _ hx (by simp [aggT, ht]) (by simp [ht]) w
          have e2 := part_one ys _ hy (by simp [aggT, ht]) (by simp [ht]) w
          have e3 := run_equalIn_bool' (P := P) w d f.type a b ht
          simp only [Sem.run_bind, e1, e2, e3, Result.andThen_ok]
          have ih := eqF_sound xs ys d fs r' hr w
          cases hab : a == b
          · simp [hab] at h; subst h; simp
          · simp [hab] at h; subst h; simp [ih]
        · cases h
      · rename_i a b hx hy ht
        split at h
        · rename_i r' hr
          simp only [Option.some.injEq] at h
          have e1 := part_one xs _ hx (by simp [aggT, ht]) (by simp [ht]) w
          have e2 := part_one ys _ hy (by simp [aggT, ht]) (by simp [ht]) w
          have e3 := run_equalIn_string (P := P) w d f.type a b ht
          simp only [Sem.run_bind, e1, e2, e3, Result.andThen_ok]
          have ih := eqF_sound xs ys d fs r' hr w
          cases hab : beqS a b
          · simp [hab] at h; subst h; unfold beqS at hab; simp [hab]
          · simp [hab] at h; subst h; unfold beqS at hab; simp [hab, ih]
        · cases h
      · cases h

theorem eqAgg_sound {t : TypeId} {xs ys : Array Value} {r : Bool} (h : eqAgg P t xs ys = some r) :
    P.eqGuardType P.depth t = false ∧ ∀ w, (Op.equalIn 10000 t (.agg xs) (.agg ys)).run P w = .ok r w := by
  unfold eqAgg at h
  split at h
  · rename_i fs ht
    split at h
    · rename_i h1 h2
      refine ⟨h2, fun w => ?_⟩
      have hf : P.fieldsOf t = fs := by simp [Program.fieldsOf, ht]
      rw [run_equalIn_struct w 9999 t xs ys (by rw [hf]; exact ht) h1, hf]
      exact eqF_sound xs ys 9998 fs.toList r h w
    · cases h
  · cases h

theorem eqIn_ptr (w : World) (d : Nat) {t e : TypeId} (q : Option Addr) (h : P.underlying t = some (.pointer e)) : (Op.equalIn (d + 1) t (.pointer q) (.pointer none)).run P w = .ok q.isNone w := by
  cases q <;> simp [Op.equalIn, run_underlying h]
theorem eqIn_sl (w : World) (d : Nat) {t e : TypeId} (A : Option Addr) (n c n' c' : Nat) (h : P.underlying t = some (.slice e)) : (Op.equalIn (d + 1) t (.slice A n c) (.slice none n' c')).run P w = .ok A.isNone w := by
  cases A <;> simp [Op.equalIn, run_underlying h]
theorem run_eql_ptr (w : World) {t e : TypeId} (q : Option Addr) (h : P.underlying t = some (.pointer e)) : (binOp .eql t (.pointer q) (.pointer none)).run P w = .ok (.bool q.isNone) w := by
  simp only [binOp]
  simp [Op.equal, Op.maxDepth, eqIn_ptr w 9999 q h]
theorem run_neq_ptr (w : World) {t e : TypeId} (q : Option Addr) (h : P.underlying t = some (.pointer e)) : (binOp .neq t (.pointer q) (.pointer none)).run P w = .ok (.bool (!q.isNone)) w := by
  simp only [binOp]
  simp [Op.equal, Op.maxDepth, eqIn_ptr w 9999 q h]
theorem run_eql_sl (w : World) {t e : TypeId} (A : Option Addr) (n c n' c' : Nat) (h : P.underlying t = some (.slice e)) : (binOp .eql t (.slice A n c) (.slice none n' c')).run P w = .ok (.bool A.isNone) w := by
  simp only [binOp]
  simp [Op.equal, Op.maxDepth, eqIn_sl w 9999 A n c n' c' h]
theorem run_neq_sl (w : World) {t e : TypeId} (A : Option Addr) (n c n' c' : Nat) (h : P.underlying t = some (.slice e)) : (binOp .neq t (.slice A n c) (.slice none n' c')).run P w = .ok (.bool (!A.isNone)) w := by
  simp only [binOp]
  simp [Op.equal, Op.maxDepth, eqIn_sl w 9999 A n c n' c' h]
theorem guard_ptr (w : World) (op : BinOp) (t : TypeId) (ox oy : Operand) (q q' : Option Addr) : (eqGuard op t ox oy (.pointer q) (.pointer q')).run P w = .ok () w := by
  cases op <;> simp [eqGuard]
theorem guard_sl (w : World) (op : BinOp) (t : TypeId) (ox oy : Operand) (A A' : Option Addr) (n c n' c' : Nat) : (eqGuard op t ox oy (.slice A n c) (.slice A' n' c')).run P w = .ok () w := by
  cases op <;> simp [eqGuard]
theorem guard_bool (w : World) (op : BinOp) (t : TypeId) (ox oy : Operand) (a b : Bool) : (eqGuard op t ox oy (.bool a) (.bool b)).run P w = .ok () w := by
  cases op <;> simp [eqGuard]

theorem binA_sound (hG : ∀ g, G = some g → g = true) {op : BinOp} {t : TypeId} {x y : AV} {vx vy : Value} {ox oy : Operand} (hx : BRel bs x vx) (hy : BRel bs y vy) {K : AV → Prop} (h : binA P G op t x y K) :
    Yl P bs (do eqGuard op t ox oy vx vy; binOp op t vx vy) K := by
  unfold binA at h
  split at h
  · rename_i k a k' b
    rw [show vx = .int k a from hx, show vy = .int k' b from hy]
    obtain ⟨x, v, h1, h2, h3⟩ := binInt_sound (P := P) (bs := bs) (t := t) hG h
    exact ⟨x, v, h1, h2, fun w => by
      have : (eqGuard op t ox oy (.int k a) (.int k' b)).run P w = .ok () w := by cases op <;> simp [eqGuard]
      simp [Sem.run_bind, this, h3]⟩
  · rename_i a b
    rw [show vx = .string a from hx, show vy = .string b from hy]
    cases op <;> simp only at h
    case add =>
      have h0 := ob_of hG h.1
      exact .mk _ h.2 fun w => by
        have := run_string_add_sum (P := P) (w := w) a b h0
        simp [eqGuard, binOp, this]
    case eql => exact .mk _ h fun w => by simp [eqGuard, binOp, Op.stringOp, beqS]
    case neq => exact .mk _ h fun w => by simp [eqGuard, binOp, Op.stringOp, beqS]
    case lss => exact .mk _ h fun w => by simp [eqGuard, binOp, Op.stringOp]
    all_goals exact h.elim
  · rename_i q
    rw [show vx = .pointer q from hx, show vy = .pointer none from hy]
    split at h
    · rename_i hp
      have hu : ∃ e, P.underlying t = some (.pointer e) := by
        unfold isPtrT at hp
        split at hp
        · exact ⟨_, by assumption⟩
        · cases hp
      obtain ⟨e, hu⟩ := hu
      cases op <;> simp only at h
      case eql => exact .mk _ h fun w => by simp only [Sem.run_bind, guard_ptr, Result.andThen_ok, run_eql_ptr w q hu]
      case neq => exact .mk _ h fun w => by simp only [Sem.run_bind, guard_ptr, Result.andThen_ok, run_neq_ptr w q hu]
      all_goals exact h.elim
    · exact h.elim
  · rename_i A n c n' c'
    rw [show vx = .slice A n c from hx, show vy = .slice none n' c' from hy]
    split at h
    · rename_i hp
      have hu : ∃ e, P.underlying t = some (.slice e) := by
        unfold isSlT at hp
        split at hp
        · exact ⟨_, by assumption⟩
        · cases hp
      obtain ⟨e, hu⟩ := hu
      cases op <;> simp only at h
      case eql => exact .mk _ h fun w => by simp only [Sem.run_bind, guard_sl, Result.andThen_ok, run_eql_sl w A n c n' c' hu]
      case neq => exact .mk _ h fun w => by simp only [Sem.run_bind, guard_sl, Result.andThen_ok, run_neq_sl w A n c n' c' hu]
      all_goals exact h.elim
    · exact h.elim
  · rename_i xs ys
    rw [show vx = .agg xs from hx, show vy = .agg ys from hy]
    split at h
    · rename_i b hb
      obtain ⟨h1, h2⟩ := eqAgg_sound hb
      exact .mk _ h fun w => by
        have e1 := run_eqGuard_agg (P := P) w .eql t ox oy xs ys h1
        have e2 := run_eql_struct (P := P) w t xs ys
        simp only [Sem.run_bind, e1, Result.andThen_ok, e2, h2]
    · rename_i b hb
      obtain ⟨h1, h2⟩ := eqAgg_sound hb
      exact .mk _ h fun w => by
        have e1 := run_eqGuard_agg (P := P) w .neq t ox oy xs ys h1
        have e2 := run_neq_struct (P := P) w t xs ys
        simp only [Sem.run_bind, e1, Result.andThen_ok, e2, h2]
    · exact h.elim
  · split at h
    · rename_i a b ha hb ht
      rw [asB_some ha hx, asB_some hb hy]
      have hu : P.underlying t = some .bool := by
        unfold isBoolT at ht
        split at ht
        · assumption
        · cases ht
      cases op <;> simp only at h
      case eql => exact .mk _ h fun w => by simp only [Sem.run_bind, guard_bool, Result.andThen_ok, run_eql_bool w t a b hu]
      case neq => exact .mk _ h fun w => by simp only [Sem.run_bind, guard_bool, Result.andThen_ok, run_neq_bool w t a b hu]
      all_goals exact h.elim
    · exact h.elim
end
end Go.Ax
