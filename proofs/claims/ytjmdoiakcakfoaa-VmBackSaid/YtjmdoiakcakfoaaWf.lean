/- Lemmas that the claim needs, in order. Conditions: those of each lemma. -/
import Derived.Test.YtjmdoiakcakfoaaWe
set_option maxRecDepth 100000
namespace Go.Proofs.Ytjmdoiakcakfoaa
open Go.Ax
structure ActM where
  (kind:Int) (e:Ev) (time value name:Int)
def ActM.cells (a:ActM):List Value:=[.int .i64 a.kind] ++ a.e.cells ++ [.int .i64 a.time,.int .i64 a.value,.int .i64 a.name]
def fix7 (e:Ev):Ev:=if e.kind = 18 then { e with b:=7 } else e
structure LS where
  (s:VS) (h:List Ev) (now:Int)
def LS.next (L:LS) (a:ActM):Ev:={ a.e with id:=(L.h.length:Int) + 1,time:=L.now }
def LS.clock (L:LS) (a:ActM):Int:=if (decide (a.time > L.now) && decide (a.time ≤ 1099511627776)) = true then a.time else L.now
def LS.step (p:Prg) (L:LS) (a:ActM):LS :=
  if a.kind = 1 then
    (if stand (L.h ++ [L.next a]) < (L.h ++ [L.next a]).length then L else
     if (L.s.apply (L.next a)).1 = 0 then ⟨(L.s.apply (L.next a)).2,L.h ++ [L.next a],L.now⟩ else ⟨(L.s.apply (L.next a)).2,L.h,L.now⟩)
  else if a.kind = 2 then
    (if (L.s.Task p (L.clock a) a.value).1.2 ≠ 0 then ⟨(L.s.Task p (L.clock a) a.value).2,L.h,L.clock a⟩ else
     ⟨(L.s.Task p (L.clock a) a.value).2,(L.h ++ (L.s.Task p (L.clock a) a.value).1.1).map fix7,L.clock a⟩)
  else L
def LS.init:LS:=⟨VS.init,[],0⟩
def liveAll (p:Prg) (l:List ActM):LS:=l.foldl (LS.step p) LS.init
structure LInv (p:Prg) (L:LS):Prop where
  inv:Inv p L.s
  x:L.s.expect = none
  c:L.s.count = L.h.length
theorem emit0_md (s:VS) (e:Ev):((s.emit0 e).2.made.length:Int) - (s.emit0 e).2.count = s.made.length - s.count:=by
  have k:=emits s e
  generalize s.emit0 e = q at k ⊢
  cases k with
  | live=>show ((s.made ++ [e]).length:Int) - (s.count + 1) = _; rw [List.length_append,List.length_singleton]; omega
  | none=>rfl
  | other=>rfl
  | same w l hx hm=>show ((s.made ++ [w]).length:Int) - (s.count + 1) = _; rw [List.length_append,List.length_singleton]; omega
theorem FStep.md {p:Prg} {b:Bool} {s s':VS} (q:FStep p b s s'):(s'.made.length:Int) - s'.count = s.made.length - s.count:=by
  cases q with
  | emit e ho hc =>
    unfold VS.emit; split
    · exact emit0_md s _
    · exact emit0_md s _
  | fails c ho=>exact emit0_md s _
  | done i v k=>rcases setDone_cases s i v k with e | ⟨f,_,_,_,e⟩ <;> rw [e]
  | mark i=>rcases mark_cases s i with e | ⟨c,hc,e⟩ <;> rw [e]
  | _=>rfl
theorem FSteps.md {p:Prg} {b:Bool} {s s':VS} (q:FSteps p b s s'):(s'.made.length:Int) - s'.count = s.made.length - s.count:=by
  induction q with
  | refl=>rfl
  | tail _ k ih=>exact k.md.trans ih
theorem Task_count {p:Prg} (ok:Okp p) {s:VS} (iv:Inv p s) {now draw:Int} (h:s.taskE now = 0):((s.Task p now draw).1.1.length:Int) = (s.Task p now draw).2.count - s.count:=by
  have e:=Task_eq s p now draw
  rw [if_neg (by rw [h]; simp)] at e
  rw [e]
  have:=(task_steps ok (ready_inv iv draw) (ready_tasks h draw) now).md
  show (((s.ready_ draw).task p now).made.length:Int) = ((s.ready_ draw).task p now).count - s.count
  have e1:(((s.ready_ draw).begin_ now).made.length:Int) = 1:=rfl
  have e2:((s.ready_ draw).begin_ now).count = s.count + 1:=rfl
  rw [e1,e2] at this
  omega
theorem Task_ok {s:VS} {p:Prg} {now draw:Int}:(s.Task p now draw).1.2 = s.taskE now:=by
  rw [Task_eq]
  split
  · rfl
  · rename_i h; exact (Decidable.not_not.1 h).symm
theorem Task_no {s:VS} {p:Prg} {now draw:Int} (h:(s.Task p now draw).1.2 ≠ 0):(s.Task p now draw).2 = s:=by
  rw [Task_ok] at h
  rw [Task_eq,if_pos h]
theorem apply_cases (s:VS) (e:Ev):((s.apply e).1 ≠ 0 ∧ (s.apply e).2 = s) ∨ ((s.apply e).1 = 0 ∧ s.over = false ∧ s.refuses e = false ∧ (s.apply e).2 = s.counted.applied e):=by
  unfold VS.apply
  split
  · exact .inl ⟨by show (46:Int) ≠ 0; decide,rfl⟩
  · rename_i ho
    split
    · exact .inl ⟨by show (54:Int) ≠ 0; decide,rfl⟩
    · rename_i hr
      exact .inr ⟨rfl,by simpa using ho,by simpa using hr,rfl⟩
theorem setDone_count (s:VS) (i v k:Int):(s.setDone i v k).count = s.count ∧ (s.setDone i v k).expect = s.expect:=by
  rcases setDone_cases s i v k with e | ⟨f,_,_,_,e⟩ <;> rw [e] <;> exact ⟨rfl,rfl⟩
theorem applied_count (s:VS) (e:Ev):(s.applied e).count = s.count ∧ (s.applied e).expect = s.expect:=by
  have c:∀ {P:Prop} [Decidable P] {x y:VS},(x.count = s.count ∧ x.expect = s.expect) → (y.count = s.count ∧ y.expect = s.expect) → ((if P then x else y).count = s.count ∧ (if P then x else y).expect = s.expect):=fun h1 h2=>by split; exact h1; exact h2
  unfold VS.applied
  exact c ⟨rfl,rfl⟩ (c ⟨rfl,rfl⟩ (c ⟨rfl,rfl⟩ (c ⟨rfl,rfl⟩ (c (setDone_count s _ _ _) (c (setDone_count s _ _ _) (c (setDone_count s _ _ _) (c (setDone_count s _ _ _) (c (setDone_count s _ _ _) (c ⟨rfl,rfl⟩ ⟨rfl,rfl⟩)))))))))
theorem LInv.init (p:Prg):LInv p LS.init:=⟨init_inv p,rfl,rfl⟩
theorem LInv.step {p:Prg} (ok:Okp p) {L:LS} (h:LInv p L) (a:ActM):LInv p (L.step p a):=by
  unfold LS.step
  split
  · split
    · exact h
    · rcases apply_cases L.s (L.next a) with ⟨e1,e2⟩ | ⟨e1,ho,hr,e2⟩
      · rw [if_neg e1,e2]; exact h
      · rw [if_pos e1]
        refine ⟨apply_inv ok h.inv h.x,?_,?_⟩
        · show (L.s.apply (L.next a)).2.expect = none
          rw [e2,(applied_count _ _).2]; exact h.x
        · show (L.s.apply (L.next a)).2.count = ((L.h ++ [L.next a]).length:Int)
          rw [e2,(applied_count _ _).1,List.length_append,List.length_singleton]
          have:=h.c
          show L.s.count + 1 = _
          omega
  · split
    · split
      · rename_i he
        rw [Task_no he]; exact ⟨h.inv,h.x,h.c⟩
      · rename_i he
        have ht:L.s.taskE (L.clock a) = 0:=by rw [← Task_ok]; exact Decidable.not_not.1 he
        have hc:=Task_count ok h.inv (draw:=a.value) ht
        refine ⟨Task_inv ok h.inv _ _,Task_expect ok h.inv h.x _ _,?_⟩
        show (L.s.Task p (L.clock a) a.value).2.count = (((L.h ++ (L.s.Task p (L.clock a) a.value).1.1).map fix7).length:Int)
        rw [List.length_map,List.length_append]
        have:=h.c
        omega
    · exact h
theorem liveAll_snoc (p:Prg) (l:List ActM) (a:ActM):liveAll p (l ++ [a]) = (liveAll p l).step p a:=by unfold liveAll; rw [List.foldl_append]; rfl
theorem LInv.all {p:Prg} (ok:Okp p) (l:List ActM):LInv p (liveAll p l):=by
  have:∀ (l:List ActM) (L:LS),LInv p L → LInv p (l.foldl (LS.step p) L):=fun l=>by
    induction l with
    | nil=>exact fun L h=>h
    | cons a l ih=>exact fun L h=>ih _ (h.step ok a)
  exact this l _ (LInv.init p)
structure HasActs (H:Heap) (A:Option Addr) (n:Nat) (l:List ActM):Prop where
  len:n = l.length
  big:n ≤ 9223372036854775807
  src:Src H A (l.flatMap ActM.cells)
theorem HasActs.sub {H H':Heap} {A:Option Addr} {n:Nat} {l:List ActM} (h:HasActs H A n l) (k:Sub H H'):HasActs H' A n l:=⟨h.len,h.big,src_sub h.src k⟩
theorem HasActs.at_ {H:Heap} {A:Option Addr} {n:Nat} {l:List ActM} (h:HasActs H A n l) {i:Nat} {x:ActM} (hx:l[i]? = some x):∃ a,A = some a ∧ At H (a.add (i * 13)) x.cells:=src_elem (cells:=ActM.cells) (sz:=13) (fun _=>rfl) (by decide) h.src i x hx
def fixTo (j:Nat) (l:List Ev):List Ev:=(l.take j).map fix7 ++ l.drop j
theorem fixTo_len (j:Nat) (l:List Ev):(fixTo j l).length = l.length:=by
  unfold fixTo; rw [List.length_append,List.length_map,← List.length_append,List.take_append_drop]
theorem fixTo_get {j:Nat} {l:List Ev} {x:Ev} (h:l[j]? = some x):(fixTo j l)[j]? = some x:=by
  unfold fixTo
  have hj:=get_lt h
  have hl:((l.take j).map fix7).length = j:=by rw [List.length_map,List.length_take]; omega
  rw [List.getElem?_append_right (by omega),hl,Nat.sub_self,List.getElem?_drop]
  exact h
theorem fixTo_next {j:Nat} {l:List Ev} {x:Ev} (h:l[j]? = some x):fixTo (j + 1) l = (fixTo j l).set j (fix7 x):=by
  have hj:=get_lt h
  have hl:((l.take j).map fix7).length = j:=by rw [List.length_map,List.length_take]; omega
  have hd:l.drop j = x :: l.drop (j + 1):=(List.drop_eq_getElem_cons hj).trans (by rw [List.getElem?_eq_getElem hj] at h; injection h with h; rw [h])
  unfold fixTo
  rw [List.set_append_right _ _ (by omega),hl,Nat.sub_self,hd,List.set_cons_zero,List.take_add_one,h]
  simp
theorem fixTo_all (l:List Ev):fixTo l.length l = l.map fix7:=by unfold fixTo; simp
theorem fixTo_zero (l:List Ev):fixTo 0 l = l:=by unfold fixTo; simp
theorem set_same {α:Type} {l:List α} {i:Nat} {x:α} (h:l[i]? = some x):l.set i x = l:=by
  apply List.ext_getElem?
  intro j
  rw [List.getElem?_set]
  by_cases hj:i = j
  · subst hj; rw [if_pos rfl,if_pos (get_lt h),h]
  · rw [if_neg hj]
theorem check_one {l:List Ev}:(checkV l = .tuple #[.int .i64 52,.int .i64 (stand l:Nat)] ∧ stand l < l.length) ∨ (checkV l = .tuple #[.int .i64 0,.int .i64 0] ∧ ¬ stand l < l.length):=by
  unfold checkV
  split
  · rename_i h; exact .inl ⟨rfl,h⟩
  · rename_i h; exact .inr ⟨rfl,h⟩
section
variable {p:Prg} {G0 G H:Heap} {m:Nat} {pf po:SlH} {ex:Value} {s:VS}
structure RFix (p:Prg) (G0:Heap) (m:Nat) (pf po:SlH) (ex:Value) (s:VS) (q:SlH) (l:List Ev) (x:Int) (H1:Heap):Prop where
  out:∃ (j:Nat) (G:Heap),x = j ∧ j ≤ l.length ∧ VMP p G H1 m pf po ex s ∧ Hand G0 G q 9 ((fixTo j l).flatMap Ev.cells)
theorem VMP.fixes {q : SlH} {l : List Ev} (w : VMP p G H m pf po ex s) (hd : Hand G0 G q 9 (l.flatMap Ev.cells)) (hl : l.length ≤ 1000) {K : Heap → Prop} (k : ∀ G' H', VMP p G' H' m pf po ex s → Hand G0 G' q 9 ((l.map fix7).flatMap Ev.cells) → K H') :
    ∃ (Rel1:Int → Heap → Prop) (mu1:Int → Heap → Nat),Rel1 0 H ∧ ∀ (x:Int) (H2:Heap),Rel1 x H2 →
      (decide (x < (q.n:Int)) = true → ∃ a6:Addr,(q.A = some a6 ∧ (0:Int) ≤ x ∧ x < (q.n:Int)) ∧ ∃ y:Int,At H2 ((a6.add (x.toNat * 9)).add 2) [.int .i64 y] ∧
        ((y == 18) = true → ∃ a7:Addr,(q.A = some a7 ∧ (0:Int) ≤ x ∧ x < (q.n:Int)) ∧ Wr H2 ((a7.add (x.toNat * 9)).add 4) (.int .i64 7) fun H1=>Rel1 (IntKind.i64.wrap (x + 1)) H1 ∧ mu1 (IntKind.i64.wrap (x + 1)) H1 < mu1 x H2) ∧
        ((y == 18) = false → Rel1 (IntKind.i64.wrap (x + 1)) H2 ∧ mu1 (IntKind.i64.wrap (x + 1)) H2 < mu1 x H2)) ∧
      (decide (x < (q.n:Int)) = false → K H2):=by
  have hn:=hd.len
  refine ⟨RFix p G0 m pf po ex s q l,fun x _=>((l.length:Int) - x).toNat,⟨0,G,rfl,Nat.zero_le _,w,by rw [fixTo_zero]; exact hd⟩,fun x H2 r=>?_⟩
  obtain ⟨j,G1,rfl,hj,w1,hd1⟩:=r.out
  have hw:IntKind.i64.wrap ((j:Int) + 1) = ((j + 1:Nat):Int):=by rw [wrapi (by omega) (by omega)]; rfl
  rw [hw]
  refine ⟨fun hlt=>?_,fun hge=>?_⟩
  · have hlt:(j:Int) < (q.n:Int):=of_decide_eq_true hlt
    obtain ⟨x,hx⟩:=get_some (l:=l) (i:=j) (by omega)
    have hx1:=fixTo_get hx
    have hnx:=fixTo_next hx
    obtain ⟨a,ha,hat⟩:=src_elem (cells:=Ev.cells) (sz:=9) (fun _=>rfl) (by decide) (src_sub hd1.sl.src w1.gh) j x hx1
    have dec:((l.length:Int) - ((j + 1:Nat):Int)).toNat < ((l.length:Int) - (j:Int)).toNat:=by omega
    refine ⟨a,⟨ha,by omega,hlt⟩,x.kind,at_one 2 hat rfl,fun e=>⟨a,⟨ha,by omega,hlt⟩,?_⟩,fun e=>⟨⟨j + 1,G1,rfl,by omega,w1,?_⟩,dec⟩⟩
    · have e:x.kind = 18:=by simpa using e
      rw [add_add]
      refine w1.put hd1 ha (k:=(j:Int).toNat * 9 + 4) ?_ fun G2 H3 w2 hd2=>⟨⟨j + 1,G2,rfl,by omega,w2,?_⟩,dec⟩
      · rw [flat_size (cells:=Ev.cells) (sz:=9) (fun _=>rfl),fixTo_len]; omega
      · have hjt:(j:Int).toNat = j:=by omega
        rw [hjt,flat_set (cells:=Ev.cells) (sz:=9) (fun _=>rfl) (fixTo j l) j x { x with b:=7 } 4 (.int .i64 7) hx1 (by decide) rfl] at hd2
        rw [hnx]
        have:fix7 x = { x with b:=7 }:=by unfold fix7; rw [if_pos e]
        rw [this]; exact hd2
    · have e:x.kind ≠ 18:=by simpa using e
      have:fix7 x = x:=by unfold fix7; rw [if_neg e]
      rw [hnx,this,set_same hx1]; exact hd1
  · have hge:¬ (j:Int) < (q.n:Int):=of_decide_eq_false hge
    have:j = l.length:=by omega
    rw [this,fixTo_all] at hd1
    exact k G1 H2 w1 hd1
structure RLive (p:Prg) (H0:Heap) (m:Nat) (pf po:SlH) (l:List ActM) (A:Option Addr) (n c:Nat) (x1 x2:Int) (H1:Heap):Prop where
  out:∃ (k:Nat) (G:Heap),x2 = k ∧ k ≤ l.length ∧ VMP p G H1 m pf po .nilFunc (liveAll p (l.take k)).s ∧ Hand H0 G ⟨A,n,c⟩ 9 ((liveAll p (l.take k)).h.flatMap Ev.cells) ∧ x1 = (liveAll p (l.take k)).now
structure LiveR (p:Prg) (H0:Heap) (l:List ActM) (v:Value) (H':Heap):Prop where
  out:∃ m pf po A n c G,v = .tuple #[.pointer (some ⟨m,0,none⟩),.slice A n c,.bool true] ∧ VMP p G H' m pf po .nilFunc (liveAll p l).s ∧ Hand H0 G ⟨A,n,c⟩ 9 ((liveAll p l).h.flatMap Ev.cells)
theorem t18 {H : Heap} {fA oA : Option Addr} {fn fc on oc : Nat} (ok : Okp p) (hp : HasP H fA fn oA on p) {lA : Option Addr} {ln lc : Nat} {l : List ActM} (ha : HasActs H lA ln l) :
    Tr Try.prog 18 #[.agg #[.slice fA fn fc,.slice oA on oc],.slice lA ln lc] H fun v H'=>LiveR p H l v H':=by
  have hln:=ha.len
  have hbig:=ha.big
  apply v18; unfold F18
  refine (t25 hp).mono fun v H1 hr=>?_
  rcases hr with ⟨hn,-⟩ | ⟨-,m,pf,po,hv,s1,w⟩
  · exact absurd (ok_check ok) (fun e=>hn (by rw [e]))
  refine ⟨some ⟨m,0,none⟩,0,hv,fun e=>absurd e (by simp),fun _=>⟨RLive p H m pf po l,fun _ _ _ _ x _=>((l.length:Int) - x).toNat,⟨0,H,rfl,Nat.zero_le _,w,Hand.nil (Sub.refl _) 9,rfl⟩,fun A n c x1 x2 H2 r=>?_⟩⟩
  obtain ⟨k,G,rfl,hk,w2,hd,rfl⟩:=r.out
  have li:=LInv.all ok (l.take k)
  have hc:=li.c
  have hc0:=li.inv.c0
  have hlen:n = (liveAll p (l.take k)).h.length:=hd.len
  generalize hL:liveAll p (l.take k) = L at *
  refine ⟨fun hlt=>?_,fun hge=>?_⟩
  · have hlt:(k:Int) < (ln:Int):=of_decide_eq_true hlt
    obtain ⟨a,hak⟩:=get_some (l:=l) (i:=k) (by omega)
    have hnext:liveAll p (l.take (k + 1)) = L.step p a:=by rw [List.take_add_one,hak,Option.toList_some,liveAll_snoc,hL]
    obtain ⟨ad,had,hat0⟩:=ha.at_ hak
    have hw:IntKind.i64.wrap ((k:Int) + 1) = ((k + 1:Nat):Int):=by rw [wrapi (by omega) (by omega)]; rfl
    have hwn:IntKind.i64.wrap ((n:Int) + 1) = (L.h.length:Int) + 1:=by rw [wrapi (by omega) (by omega),hlen]
    have dec:((l.length:Int) - ((k + 1:Nat):Int)).toNat < ((l.length:Int) - (k:Int)).toNat:=by omega
    have bd:lA = some ad ∧ (0:Int) ≤ (k:Int) ∧ (k:Int) < (ln:Int):=⟨had,by omega,hlt⟩
    have hat:At H2 (ad.add (k * 13)) a.cells:=hat0.sub (hd.g.trans w2.gh)
    have e10:At H2 ((ad.add (k * 13)).add 10) [.int .i64 a.time]:=at_one 10 hat rfl
    have e11:At H2 ((ad.add (k * 13)).add 11) [.int .i64 a.value]:=at_one 11 hat rfl
    have next : ∀ {A' : Option Addr} {n' c' : Nat} {G' H' : Heap} {nw : Int}, VMP p G' H' m pf po .nilFunc (L.step p a).s → Hand H G' ⟨A', n', c'⟩ 9 ((L.step p a).h.flatMap Ev.cells) → nw = (L.step p a).now →
        RLive p H m pf po l A' n' c' nw ((k + 1:Nat):Int) H' ∧ ((l.length:Int) - ((k + 1:Nat):Int)).toNat < ((l.length:Int) - (k:Int)).toNat:=fun w' hd' e=>⟨⟨k + 1,_,rfl,by omega,by rw [hnext]; exact w',by rw [hnext]; exact hd',by rw [hnext]; exact e⟩,dec⟩
    rw [hw,hwn]
    refine ⟨ad,bd,a.kind,at_one 0 hat rfl,fun e1=>⟨ad,bd,_,_,_,_,_,_,_,_,_,at_take 9 (at_drop 1 hat),?_⟩,fun e1=>⟨fun e2=>?_,fun e2=>?_⟩⟩
    · have e1:a.kind = 1:=by simpa using e1
      have hst : L.step p a = (if stand (L.h ++ [L.next a]) < (L.h ++ [L.next a]).length then L else
         if (L.s.apply (L.next a)).1 = 0 then ⟨(L.s.apply (L.next a)).2,L.h ++ [L.next a],L.now⟩ else ⟨(L.s.apply (L.next a)).2,L.h,L.now⟩):=by unfold LS.step; rw [if_pos e1]
      have hcl:(L.h.flatMap Ev.cells).length = n * 9:=by rw [flat_size (cells:=Ev.cells) (sz:=9) (fun _=>rfl),hlen]
      refine w2.copy (src_sub hd.sl.src w2.gh) hcl (evs_one _) (by show (0 + n) * 72 ≤ _; omega) (by show 0 + n ≤ _; omega) fun A1 c1 G1 H3 w3 hd3=>?_
      refine w3.push hd3 (new:=(L.next a).cells) (k:=1) rfl (ev_one _) (by show (0 + n + 1) * 72 ≤ _; omega) (by show 0 + n + 1 ≤ _; omega) fun A2 c2 G2 H4 w4 hd4=>?_
      have hd4:Hand G G2 ⟨A2,0 + n + 1,c2⟩ 9 ((L.h ++ [L.next a]).flatMap Ev.cells):=by rw [List.flatMap_append,List.flatMap_singleton]; exact hd4
      have hlx:(L.h ++ [L.next a]).length ≤ 257:=by rw [List.length_append,List.length_singleton]; omega
      have he:=(hand_evs hd4.sl).sub w4.gh
      have gc:=t21 (c:=c2) (by omega) he
      rcases check_one (l:=L.h ++ [L.next a]) with ⟨cv,hs⟩ | ⟨cv,hs⟩
      · rw [cv] at gc
        refine ⟨_,_,gc,fun _=>?_,fun e=>absurd e (by simp)⟩
        rw [if_pos hs] at hst
        exact next (by rw [hst]; exact w4) (by rw [hst]; exact hd.sub hd4.g) (by rw [hst])
      · rw [cv] at gc
        refine ⟨_,_,gc,fun e=>absurd e (by simp),fun _=>?_⟩
        rw [if_neg hs] at hst
        obtain ⟨sl4,F4,st4,v4,p4⟩:=w4.out
        refine (t12 ok v4 p4 li.inv (L.next a)).mono fun v H5 ⟨hv5,w5⟩=>⟨_,hv5,fun e=>?_,fun e=>?_⟩
        · rw [if_pos (by simpa using e)] at hst
          exact next (by rw [hst]; exact w5) (by rw [hst]; exact hd4.low hd.g) (by rw [hst])
        · rw [if_neg (by simpa using e)] at hst
          exact next (by rw [hst]; exact w5) (by rw [hst]; exact hd.sub hd4.g) (by rw [hst])
    · have e1:a.kind ≠ 1:=by simpa using e1
      have e2:a.kind = 2:=by simpa using e2
      have hst : L.step p a = (if (L.s.Task p (L.clock a) a.value).1.2 ≠ 0 then ⟨(L.s.Task p (L.clock a) a.value).2, L.h, L.clock a⟩ else
         ⟨(L.s.Task p (L.clock a) a.value).2,(L.h ++ (L.s.Task p (L.clock a) a.value).1.1).map fix7,L.clock a⟩):=by unfold LS.step; rw [if_neg e1,if_pos e2]
      obtain ⟨sl2,F2,st2,v2,p2⟩:=w2.out
      have task : ∀ now : Int, now = L.clock a → Tr Try.prog 13 #[.pointer (some ⟨m, 0, none⟩), .int .i64 now, .int .i64 a.value] H2 fun v4 H'5 => ∃ (A1 : Option Addr) (n1 c1 : Nat) (x20 : Int), v4 = .tuple #[.slice A1 n1 c1, .int .i64 x20] ∧
          ((x20 != 0) = true → RLive p H m pf po l A n c now ((k + 1:Nat):Int) H'5 ∧ ((l.length:Int) - ((k + 1:Nat):Int)).toNat < ((l.length:Int) - (k:Int)).toNat) ∧
          ((x20 != 0) = false → appS 23 9 72 H'5 A n c A1 n1 fun A2 n2 c2 H6=>∃ (Rel1:Int → Heap → Prop) (mu1:Int → Heap → Nat),Rel1 0 H6 ∧ ∀ (x:Int) (H2:Heap),Rel1 x H2 →
            (decide (x < (n2:Int)) = true → ∃ a6:Addr,(A2 = some a6 ∧ (0:Int) ≤ x ∧ x < (n2:Int)) ∧ ∃ y:Int,At H2 ((a6.add (x.toNat * 9)).add 2) [.int .i64 y] ∧
              ((y == 18) = true → ∃ a7:Addr,(A2 = some a7 ∧ (0:Int) ≤ x ∧ x < (n2:Int)) ∧ Wr H2 ((a7.add (x.toNat * 9)).add 4) (.int .i64 7) fun H1=>Rel1 (IntKind.i64.wrap (x + 1)) H1 ∧ mu1 (IntKind.i64.wrap (x + 1)) H1 < mu1 x H2) ∧
              ((y == 18) = false → Rel1 (IntKind.i64.wrap (x + 1)) H2 ∧ mu1 (IntKind.i64.wrap (x + 1)) H2 < mu1 x H2)) ∧
            (decide (x < (n2:Int)) = false → RLive p H m pf po l A2 n2 c2 now ((k + 1:Nat):Int) H2 ∧ ((l.length:Int) - ((k + 1:Nat):Int)).toNat < ((l.length:Int) - (k:Int)).toNat)):=by
        intro now hnow
        rw [hnow]
        refine (t13 ok v2 p2 li.inv li.x (L.clock a) a.value).mono fun v H5 r5=>?_
        obtain ⟨A1,n1,c1,G5,hv5,s5,hn1,src5,w5⟩:=r5.out
        have hd5:=hd.sub s5
        refine ⟨A1,n1,c1,_,hv5,fun e=>?_,fun e=>?_⟩
        · rw [if_pos (by simpa using e)] at hst
          exact next (by rw [hst]; exact w5) (by rw [hst]; exact hd5) (by rw [hst])
        · have e0:(L.s.Task p (L.clock a) a.value).1.2 = 0:=by simpa using e
          rw [if_neg (by rw [e0]; simp)] at hst
          have ht:L.s.taskE (L.clock a) = 0:=by rw [← Task_ok]; exact e0
          have hcnt:=Task_count ok li.inv (draw:=a.value) ht
          have hcc:=(Task_inv ok li.inv (L.clock a) a.value).c0
          have hml:((L.s.Task p (L.clock a) a.value).1.1.flatMap Ev.cells).length = n1 * 9:=by rw [flat_size (cells:=Ev.cells) (sz:=9) (fun _=>rfl),hn1]
          refine ⟨⟨_,src_sub src5 w5.gh,hml,?_⟩⟩
          refine w5.push hd5 (k:=n1) hml (evs_one _) (by show (n + n1) * 72 ≤ _; omega) (by show n + n1 ≤ _; omega) fun A2 c2 G6 H6 w6 hd6=>?_
          have hd6:Hand H G6 ⟨A2,n + n1,c2⟩ 9 ((L.h ++ (L.s.Task p (L.clock a) a.value).1.1).flatMap Ev.cells):=by rw [List.flatMap_append]; exact hd6
          refine w6.fixes hd6 (by rw [List.length_append]; omega) fun G7 H7 w7 hd7=>?_
          exact next (by rw [hst]; exact w7) (by rw [hst]; exact hd7) (by rw [hst])
      refine ⟨ad,bd,a.time,e10,ad,fun _=>bd,a.time,fun _=>e10,fun e3=>⟨ad,bd,a.time,e10,ad,bd,a.value,e11,?_⟩,fun e3=>⟨ad,bd,a.value,e11,?_⟩⟩
      · have hcl:L.clock a = a.time:=by unfold LS.clock; rw [if_pos e3]
        exact task a.time hcl.symm
      · have hcl:L.clock a = L.now:=by unfold LS.clock; rw [if_neg (by rw [e3]; simp)]
        exact task L.now hcl.symm
    · have e1:a.kind ≠ 1:=by simpa using e1
      have e2:a.kind ≠ 2:=by simpa using e2
      have hst:L.step p a = L:=by unfold LS.step; rw [if_neg e1,if_neg e2]
      exact next (by rw [hst]; exact w2) (by rw [hst]; exact hd) (by rw [hst])
  · have hge:¬ (k:Int) < (ln:Int):=of_decide_eq_false hge
    have hkl:l.take k = l:=List.take_of_length_le (by omega)
    rw [hkl] at hL
    subst hL
    exact ⟨m,pf,po,A,n,c,G,rfl,w2,hd⟩
end
end Go.Proofs.Ytjmdoiakcakfoaa
set_option maxRecDepth 100000
namespace Go.Proofs.Ytjmdoiakcakfoaa
open Go.Ax
structure TM (c0 now:Int) (s:VS):Prop where
  x:s.expect = none
  nw:s.now = now
  len:s.count = c0 + s.made.length
  first:s.made[0]? = some ⟨c0 + 1,now,2,c0,0,0,0,0,0⟩
  row:∀ (i:Nat) (x:Ev),s.made[i]? = some x → x.id = c0 + 1 + i ∧ x.time = now ∧ (i ≠ 0 → cmdM x.kind = true)
  open_:s.over = false → ∀ (i:Nat) (x:Ev),s.made[i]? = some x → closeM x.kind = false
  shut:s.over = true → ∃ x,s.made.getLast? = some x ∧ closeM x.kind = true ∧ ∀ (i:Nat) (y:Ev),s.made[i]? = some y → i + 1 < s.made.length → closeM y.kind = false
theorem snoc_get {α:Type} {l:List α} {x y:α} {i:Nat} (h:(l ++ [x])[i]? = some y):(i < l.length ∧ l[i]? = some y) ∨ (i = l.length ∧ y = x):=by
  by_cases hi:i < l.length
  · rw [List.getElem?_append_left hi] at h; exact .inl ⟨hi,h⟩
  · have hl:=get_lt h
    rw [List.length_append,List.length_singleton] at hl
    have:i = l.length:=by omega
    subst this
    rw [List.getElem?_append_right (Nat.le_refl _),Nat.sub_self] at h
    cases h; exact .inr ⟨rfl,rfl⟩
theorem TM.push {c0 now:Int} {s:VS} (t:TM c0 now s) (ho:s.over = false) {e:Ev} (h1:e.id = s.count + 1) (h2:e.time = s.now) (h3:cmdM e.kind = true):TM c0 now (s.push e):=by
  have hlen:=t.len
  have hpos:0 < s.made.length:=get_lt t.first
  have hml:(s.made ++ [e]).length = s.made.length + 1:=by simp
  refine ⟨t.x,t.nw,by show s.count + 1 = c0 + ((s.made ++ [e]).length:Int); rw [hml]; omega,?_,fun i x hx=>?_,fun hov i x hx=>?_,fun hov=>⟨e,by show (s.made ++ [e]).getLast? = some e; simp,?_,fun i y hy hi=>?_⟩⟩
  · show (s.made ++ [e])[0]? = _
    rw [List.getElem?_append_left hpos]; exact t.first
  · rcases snoc_get (show (s.made ++ [e])[i]? = some x from hx) with ⟨-,q⟩ | ⟨q,rfl⟩
    · exact t.row i x q
    · exact ⟨by omega,h2.trans t.nw,fun _=>h3⟩
  · have hc : closeM e.kind = false := by
      cases hc:closeM e.kind with
      | false=>rfl
      | true =>
        have:(if closeM e.kind = true then true else s.over) = false:=hov
        rw [if_pos hc] at this; cases this
    rcases snoc_get (show (s.made ++ [e])[i]? = some x from hx) with ⟨-,q⟩ | ⟨q,rfl⟩
    · exact t.open_ ho i x q
    · exact hc
  · cases hc:closeM e.kind with
    | true=>rfl
    | false =>
      have:(if closeM e.kind = true then true else s.over) = true:=hov
      rw [if_neg (by rw [hc]; simp),ho] at this; cases this
  · rcases snoc_get (show (s.made ++ [e])[i]? = some y from hy) with ⟨-,q⟩ | ⟨q,rfl⟩
    · exact t.open_ ho i y q
    · have:i + 1 < (s.made ++ [y]).length:=hi
      rw [hml] at this; omega
theorem TM.emit0 {c0 now:Int} {s:VS} (t:TM c0 now s) (ho:s.over = false) {e:Ev} (h1:e.id = s.count + 1) (h2:e.time = s.now) (h3:cmdM e.kind = true):TM c0 now (s.emit0 e).2:=by
  have:(s.emit0 e).2 = s.push e:=by unfold VS.emit0; rw [t.x]
  rw [this]; exact t.push ho h1 h2 h3
theorem TM.congr {c0 now:Int} {s s':VS} (t:TM c0 now s) (e1:s'.expect = s.expect) (e2:s'.now = s.now) (e3:s'.count = s.count) (e4:s'.made = s.made) (e5:s'.over = s.over):TM c0 now s' :=
  ⟨e1.trans t.x,e2.trans t.nw,by rw [e3,e4]; exact t.len,by rw [e4]; exact t.first,by rw [e4]; exact t.row,by rw [e4,e5]; exact t.open_,by rw [e4,e5]; exact t.shut⟩
theorem FStep.tm {p:Prg} {b:Bool} {s s':VS} {c0 now:Int} (q:FStep p b s s') (t:TM c0 now s):TM c0 now s':=by
  cases q with
  | emit e ho hc =>
    unfold VS.emit; split
    · exact t.emit0 ho rfl rfl rfl
    · exact t.emit0 ho rfl rfl hc
  | fails c ho=>exact t.emit0 ho rfl rfl rfl
  | done i v k=>rcases setDone_cases s i v k with e | ⟨f,_,_,_,e⟩ <;> rw [e]; exact t; exact t.congr rfl rfl rfl rfl rfl
  | mark i=>rcases mark_cases s i with e | ⟨c,hc,e⟩ <;> rw [e]; exact t; exact t.congr rfl rfl rfl rfl rfl
  | _=>exact t.congr rfl rfl rfl rfl rfl
theorem FSteps.tm {p:Prg} {b:Bool} {s s':VS} {c0 now:Int} (q:FSteps p b s s') (t:TM c0 now s):TM c0 now s':=by
  induction q with
  | refl=>exact t
  | tail _ k ih=>exact k.tm ih
theorem begin_tm {s:VS} (hx:s.expect = none) (ho:s.over = false) (now:Int):TM s.count now (s.begin_ now):=by
  refine ⟨hx,rfl,rfl,rfl,fun i x hi=>?_,fun _ i x hi=>?_,fun h=>?_⟩
  · have hi:[(⟨s.count + 1,now,2,s.count,0,0,0,0,0⟩:Ev)][i]? = some x:=hi
    cases i with
    | zero=>cases hi; exact ⟨by show s.count + 1 = s.count + 1 + ((0:Nat):Int); omega,rfl,fun h=>absurd rfl h⟩
    | succ i=>cases hi
  · have hi:[(⟨s.count + 1,now,2,s.count,0,0,0,0,0⟩:Ev)][i]? = some x:=hi
    cases i with
    | zero=>cases hi; rfl
    | succ i=>cases hi
  · have:s.over = true:=h
    rw [ho] at this; cases this
theorem Task_tm {p:Prg} (ok:Okp p) {s:VS} (iv:Inv p s) {now draw:Int} (h:s.taskE now = 0):(s.Task p now draw).1.1 = (s.Task p now draw).2.made ∧ TM s.count now (s.Task p now draw).2:=by
  have e:=Task_eq s p now draw
  rw [if_neg (by rw [h]; simp)] at e
  rw [e]
  have tk:=ready_tasks h draw
  exact ⟨rfl,(task_steps ok (ready_inv iv draw) tk now).tm (begin_tm (s:=s.ready_ draw) rfl tk.ho now)⟩
def sentM (n:Nat) (h:List Ev):List Int:=(h.filter fun e=>e.kind == 19 && e.a == (n:Int)).map Ev.b
theorem sent_app (n:Nat) (a b:List Ev):sentM n (a ++ b) = sentM n a ++ sentM n b:=by unfold sentM; rw [List.filter_append,List.map_append]
theorem sent_none {n:Nat} {l:List Ev} (h:∀ x ∈ l,x.kind ≠ 19):sentM n l = []:=by
  unfold sentM
  have:l.filter (fun e=>e.kind == 19 && e.a == (n:Int)) = []:=by
    rw [List.filter_eq_nil_iff]
    intro x hx
    have:=h x hx
    simp [this]
  rw [this]; rfl
def SigOk (s:VS) (h:List Ev):Prop:=∀ n:Nat,n < 8 → ∃ pre,sentM n h = pre ++ s.signals[n]?.getD []
theorem setDone_sig (s:VS) (i v k:Int):(s.setDone i v k).signals = s.signals:=by
  rcases setDone_cases s i v k with e | ⟨f,_,_,_,e⟩ <;> rw [e]
theorem applied_sig (s:VS) (e:Ev) (h:e.kind ≠ 19):(s.applied e).signals = s.signals:=by
  have c:∀ {P:Prop} [Decidable P] {x y:VS},x.signals = s.signals → y.signals = s.signals → (if P then x else y).signals = s.signals:=fun h1 h2=>by split; exact h1; exact h2
  unfold VS.applied
  rw [if_neg h]
  exact c rfl (c rfl (c rfl (c (setDone_sig s _ _ _) (c (setDone_sig s _ _ _) (c (setDone_sig s _ _ _) (c (setDone_sig s _ _ _) (c (setDone_sig s _ _ _) (c rfl rfl))))))))
theorem SigOk.applied {p:Prg} {s:VS} (iv:Inv p s) {h:List Ev} (k:SigOk s h) {e:Ev} (hv:validM e = true):SigOk (s.counted.applied e) (h ++ [e]):=by
  intro n hn
  obtain ⟨pre,hp⟩:=k n hn
  rw [sent_app,hp]
  by_cases h19:e.kind = 19
  · have ha:=valid_19 hv h19
    obtain ⟨l,hl⟩:=get_some (l:=s.counted.signals) (i:=e.a.toNat) (by have:=iv.sg8; show e.a.toNat < s.signals.length; omega)
    have hea:e.a = (e.a.toNat:Int):=by omega
    have hap:s.counted.applied e = s.counted.signal (e.a.toNat:Int) e.b:=by
      rw [← hea]; unfold VS.applied; rw [if_neg (by omega),if_pos h19]
    rw [hap,signal_eq hl]
    show ∃ q,pre ++ s.signals[n]?.getD [] ++ sentM n [e] = q ++ (s.signals.set e.a.toNat (l ++ [e.b]))[n]?.getD []
    have hl:s.signals[e.a.toNat]? = some l:=hl
    rw [List.getElem?_set]
    by_cases hna:e.a.toNat = n
    · have hs : sentM n [e] = [e.b] := by
        unfold sentM
        rw [List.filter_cons,if_pos (by rw [h19]; simp; omega)]; rfl
      rw [if_pos hna,if_pos (get_lt hl),hs,← hna,hl]
      exact ⟨pre,by simp⟩
    · have hs : sentM n [e] = [] := by
        unfold sentM
        rw [List.filter_cons,if_neg (by rw [h19]; simp; omega)]; rfl
      rw [if_neg hna,hs]
      exact ⟨pre,by simp⟩
  · rw [sent_none (l:=[e]) (fun y hy=>by rw [List.mem_singleton] at hy; subst hy; exact h19),applied_sig _ _ h19]
    exact ⟨pre,by simp; rfl⟩
end Go.Proofs.Ytjmdoiakcakfoaa
set_option maxRecDepth 100000
namespace Go.Proofs.Ytjmdoiakcakfoaa
open Go.Ax
def Gram (h:List Ev):Prop:=∀ (j:Nat) (x:Ev),h[j]? = some x → mayP (h.take j) x = true
theorem gram_stand {h:List Ev} (g:Gram h):stand h = h.length:=stand_spec (fun j _ x hx=>g j x hx) (Nat.le_refl _) (fun x hx=>by rw [List.getElem?_eq_none (Nat.le_refl _)] at hx; cases hx)
theorem standG_all:∀ (l pre:List Ev),¬ standG pre l < l.length → ∀ (j:Nat) (x:Ev),l[j]? = some x → mayP (pre ++ l.take j) x = true
  | [],_,_,j,x,hx=>by cases hx
  | y :: l,pre,h,j,x,hx=>by
    unfold standG at h
    by_cases hm:mayP pre y = true
    · rw [if_pos hm,List.length_cons] at h
      cases j with
      | zero=>cases hx; simpa using hm
      | succ j =>
        have:=standG_all l (pre ++ [y]) (by omega) j x (by simpa using hx)
        simpa using this
    · rw [if_neg hm,List.length_cons] at h
      exact absurd (Nat.succ_pos _) h
theorem gram_of {h:List Ev} (hs:¬ stand h < h.length):Gram h:=fun j x hx=>by
  have:=standG_all h [] hs j x hx
  simpa using this
theorem gram_snoc {h:List Ev} {e:Ev} (g:Gram h) (m:mayP h e = true):Gram (h ++ [e]):=fun j x hx=>by
  rcases snoc_get hx with ⟨hj,q⟩ | ⟨hj,rfl⟩
  · rw [List.take_append_of_le_length (by omega)]; exact g j x q
  · rw [hj,List.take_left]; exact m
theorem may_names {pre:List Ev} {e:Ev} (h:mayP pre e = true) (hp:pre ≠ []):namesP pre e = true:=by
  unfold mayP at h
  split at h
  · cases h
  · split at h
    · cases h
    · split at h
      · cases h
      · exact h
theorem may_head {pre:List Ev} {e:Ev} (h:mayP pre e = true):validM e = true ∧ e.id = pre.length + 1 ∧ ((e.kind = 1) ↔ pre = []):=by
  unfold mayP at h
  split at h
  · cases h
  · rename_i hx
    simp only [Bool.or_eq_true,not_or,Bool.not_eq_true,Bool.and_eq_false_iff] at hx
    obtain ⟨⟨⟨h1,h2⟩,h3⟩,h4⟩:=hx
    refine ⟨by simpa using h1,by simpa using h2,fun hk=>?_,fun hp=>?_⟩
    · rcases h3 with h3 | h3
      · rw [hk] at h3; cases h3
      · have:(pre.length:Int) = 0:=by simpa using h3
        exact List.length_eq_zero_iff.1 (by omega)
    · rcases h4 with h4 | h4
      · simpa using h4
      · subst hp; cases h4
theorem may_of {pre : List Ev} {e : Ev} (hp : pre ≠ []) (hv : validM e = true) (hid : e.id = pre.length + 1) (hk : e.kind ≠ 1) (ht : (lastP pre).time ≤ e.time) (hc : closeM (lastP pre).kind = false) (h2 : e.kind = 2 → e.a = pre.length)
    (hcm:cmdM e.kind = true → ((lastP pre).kind = 2 ∨ cmdM (lastP pre).kind = true) ∧ e.time = (lastP pre).time) (hn:namesP pre e = true):mayP pre e = true:=by
  have hpl:(pre.length:Int) ≠ 0:=fun h=>hp (List.length_eq_zero_iff.1 (by omega))
  unfold mayP
  rw [if_neg,if_neg hp,if_neg,if_neg]
  · exact hn
  · simp only [Bool.and_eq_true,Bool.or_eq_true,not_and,not_or]
    intro h1
    obtain ⟨q1,q2⟩:=hcm h1.1
    refine ⟨fun h=>?_,by simpa using q2⟩
    rcases q1 with q1 | q1
    · rw [q1] at h; simp at h
    · rw [q1]; simp
  · simp only [Bool.or_eq_true,not_or,Bool.not_eq_true,Bool.and_eq_true,not_and]
    exact ⟨⟨by simpa using ht,hc⟩,fun h=>by have:=h2 (by simpa using h); simpa using this⟩
  · simp only [Bool.or_eq_true,not_or,Bool.not_eq_true]
    refine ⟨⟨⟨by simpa using hv,by simpa using hid⟩,?_⟩,?_⟩
    · have:(e.kind == 1) = false:=by simpa using hk
      rw [this]; rfl
    · have:((pre.length:Int) == 0) = false:=by simpa using hpl
      rw [this,Bool.and_false]
theorem anyP_get {h:List Ev} {id:Int} {ks:List Int} (a:anyP h id ks = true):∃ (j:Nat) (x:Ev),h[j]? = some x ∧ ks.contains x.kind = true ∧ x.a = id:=by
  unfold anyP at a
  rw [List.any_eq_true] at a
  obtain ⟨x,hx,q⟩:=a
  obtain ⟨j,hj⟩:=List.getElem?_of_mem hx
  rw [Bool.and_eq_true] at q
  exact ⟨j,x,hj,q.1,by simpa using q.2⟩
theorem isP_mono {h:List Ev} {id k:Int} (a:isP h id k = true) (x:Ev):isP (h ++ [x]) id k = true:=by
  obtain ⟨h1,h2,y,hy,hk⟩:=isP_some a
  unfold isP
  rw [List.getElem?_append_left (get_lt hy),hy]
  simp only [List.length_append,List.length_singleton]
  have:decide (id ≥ 1) = true:=by simpa using h1
  rw [this]
  simp [hk]; omega
theorem isP_last (h:List Ev) (x:Ev):isP (h ++ [x]) (h.length + 1) x.kind = true:=by
  unfold isP
  have e:((h.length:Int) + 1 - 1).toNat = h.length:=by omega
  rw [e,List.getElem?_append_right (Nat.le_refl _),Nat.sub_self]
  simp
  omega
def namers:List Int:=[6,7,8,12,13,14,22,23,24,25,26,27,28]
theorem names_is {pre:List Ev} {e:Ev} (h:namesP pre e = true) (hk:namers.contains e.kind = true):∃ k,isP pre e.a k = true:=by
  unfold namesP at h
  split at h
  · simp at h; exact ⟨_,h.1⟩
  · split at h
    · simp at h; exact ⟨_,h.1⟩
    · split at h
      · simp at h; exact ⟨_,h.1.1⟩
      · split at h
        · simp at h; exact ⟨_,h.1⟩
        · split at h
          · simp at h; exact ⟨_,h.1.1⟩
          · split at h
            · simp at h; exact ⟨_,h.1⟩
            · split at h
              · exact ⟨_,h⟩
              · split at h
                · simp at h; exact ⟨_,h.1⟩
                · split at h
                  · simp at h; exact ⟨_,h.1⟩
                  · split at h
                    · simp at h; exact ⟨_,h.1.1⟩
                    · exfalso
                      simp [namers] at hk
                      omega
theorem named_lt {h:List Ev} (g:Gram h) {id:Int} {ks:List Int} (hks:∀ k,ks.contains k = true → namers.contains k = true) (a:anyP h id ks = true):1 ≤ id ∧ id < h.length:=by
  obtain ⟨j,x,hx,hk,rfl⟩:=anyP_get a
  have hj:=get_lt hx
  have m:=g j x hx
  have hp:h.take j ≠ []:=fun e=>by
    have:=(may_head m).2.2.2 e
    have:=hks _ hk
    simp [namers] at this
    omega
  obtain ⟨k,hi⟩:=names_is (may_names m hp) (hks _ hk)
  obtain ⟨h1,h2,-⟩:=isP_some hi
  rw [List.length_take] at h2
  exact ⟨h1,by omega⟩
theorem named_none {h:List Ev} (g:Gram h) {id:Int} {ks:List Int} (hks:∀ k,ks.contains k = true → namers.contains k = true) (hid:(h.length:Int) ≤ id):anyP h id ks = false:=by
  cases a:anyP h id ks with
  | false=>rfl
  | true=>have:=named_lt g hks a; omega
theorem answered_accepted {h:List Ev} (g:Gram h) {id:Int} (a:anyP h id [14] = true):anyP h id [12] = true:=by
  obtain ⟨j,x,hx,hk,rfl⟩:=anyP_get a
  have hk:x.kind = 14:=by simpa using hk
  have m:=g j x hx
  have hp:h.take j ≠ []:=fun e=>by have:=(may_head m).2.2.2 e; omega
  have n:=may_names m hp
  unfold namesP at n
  rw [if_neg (by omega),if_neg (by omega),if_neg (by omega),if_neg (by omega),if_neg (by omega),if_neg (by omega),if_neg (by omega),if_neg (by omega),if_neg (by omega),if_pos hk] at n
  simp at n
  have:=anyP_take (l:=h) (m:=j) (k:=h.length) (by have:=get_lt hx; omega) n.1.2
  rw [List.take_length] at this
  exact this
theorem any_sub {h:List Ev} {id:Int} {ks ls:List Int} (hs:∀ k,ks.contains k = true → ls.contains k = true) (a:anyP h id ls = false):anyP h id ks = false:=by
  cases b:anyP h id ks with
  | false=>rfl
  | true =>
    obtain ⟨j,x,hx,hk,rfl⟩:=anyP_get b
    have:anyP h x.a ls = true:=by
      unfold anyP
      rw [List.any_eq_true]
      exact ⟨x,List.mem_of_getElem? hx,by rw [hs _ hk]; simp⟩
    rw [a] at this; cases this
structure GO (H:List Ev) (s:VS) (pd:List Nat) (pu:List Ev) (dx:Option Nat):Prop where
  fe:∀ (i:Nat) (f:Fut),s.futures[i]? = some f → f.event ≠ 0 → isP H f.event f.kind = true ∧ (f.kind = 3 ∨ f.kind = 4 ∨ f.kind = 5)
  f0:∀ (i:Nat) (f:Fut),s.futures[i]? = some f → f.event = 0 → f.done = true ∨ f.kind = 0
  fu:∀ (i j:Nat) (f g:Fut),s.futures[i]? = some f → s.futures[j]? = some g → f.event = g.event → f.event ≠ 0 → i = j
  f3:∀ (i:Nat) (f:Fut),s.futures[i]? = some f → f.event ≠ 0 → f.done = false → f.kind = 3 → anyP H f.event [6,22,23,24] = false
  f4:∀ (i:Nat) (f:Fut),s.futures[i]? = some f → f.event ≠ 0 → f.done = false → f.kind = 4 → anyP H f.event [7,25] = false
  f5:∀ (i:Nat) (f:Fut),s.futures[i]? = some f → f.event ≠ 0 → f.done = false → f.kind = 5 → anyP H f.event [27,28] = false
  f8:∀ (i:Nat) (f:Fut),s.futures[i]? = some f → f.event ≠ 0 → f.done = false → f.kind = 5 → (s.cancelled f.scope = false ∨ i ∈ pd) → anyP H f.event [8] = false
  fz:∀ (i:Nat) (f:Fut),s.futures[i]? = some f → f.done = false → (f.kind = 3 ∨ f.kind = 4) → s.cancelled f.scope = false ∨ i ∈ pd
  ua:∀ u ∈ pu,isP H u.id 21 = true ∧ anyP H u.id [12,13] = false
  ud:pu.Pairwise fun a b=>a.id ≠ b.id
  ta:∀ (i:Nat) (t:Thr),s.threads[i]? = some t → t.update ≠ 0 → isP H t.update 21 = true ∧ anyP H t.update [12] = true ∧ (some i ≠ dx → anyP H t.update [14] = false)
  tu:∀ (i j:Nat) (t u:Thr),s.threads[i]? = some t → s.threads[j]? = some u → t.update = u.update → t.update ≠ 0 → i = j
theorem GO.congr {H:List Ev} {s s':VS} {pd:List Nat} {pu:List Ev} {dx:Option Nat} (g:GO H s pd pu dx) (e1:s'.futures = s.futures) (e2:s'.scopes = s.scopes) (e3:s'.threads = s.threads):GO H s' pd pu dx:=by
  have c:=keepE_canc e2
  exact ⟨by rw [e1]; exact g.fe,by rw [e1]; exact g.f0,by rw [e1]; exact g.fu,by rw [e1]; exact g.f3,by rw [e1]; exact g.f4,by rw [e1]; exact g.f5,by rw [e1]; simp only [c]; exact g.f8,by rw [e1]; simp only [c]; exact g.fz,g.ua,g.ud,by rw [e3]; exact g.ta,by rw [e3]; exact g.tu⟩
theorem any_snoc_no {H:List Ev} {x:Ev} {id:Int} {ks:List Int} (a:anyP H id ks = false) (n:ks.contains x.kind = true → x.a ≠ id):anyP (H ++ [x]) id ks = false:=by
  rw [anyP_snoc,a,Bool.false_or]
  cases hk:ks.contains x.kind with
  | false=>rfl
  | true=>have:=n hk; simpa using this
theorem any_snoc_yes {H:List Ev} {x:Ev} {id:Int} {ks:List Int} (a:anyP H id ks = true):anyP (H ++ [x]) id ks = true:=by rw [anyP_snoc,a]; rfl
theorem GO.snoc {H : List Ev} {s : VS} {pd pd' : List Nat} {pu pu' : List Ev} {dx dx' : Option Nat} (g : GO H s pd pu dx) (x : Ev)
    (n3:∀ (i:Nat) (f:Fut),s.futures[i]? = some f → f.event ≠ 0 → f.done = false → f.kind = 3 → [6,22,23,24].contains x.kind = true → x.a ≠ f.event)
    (n4:∀ (i:Nat) (f:Fut),s.futures[i]? = some f → f.event ≠ 0 → f.done = false → f.kind = 4 → [7,25].contains x.kind = true → x.a ≠ f.event)
    (n5:∀ (i:Nat) (f:Fut),s.futures[i]? = some f → f.event ≠ 0 → f.done = false → f.kind = 5 → [27,28].contains x.kind = true → x.a ≠ f.event)
    (n8:∀ (i:Nat) (f:Fut),s.futures[i]? = some f → f.event ≠ 0 → f.done = false → f.kind = 5 → (s.cancelled f.scope = false ∨ i ∈ pd') → [8].contains x.kind = true → x.a ≠ f.event)
    (hp:∀ i ∈ pd',i ∈ pd) (hz:∀ (i:Nat) (f:Fut),s.futures[i]? = some f → f.done = false → (f.kind = 3 ∨ f.kind = 4) → s.cancelled f.scope = false ∨ i ∈ pd')
    (hu:∀ u ∈ pu',u ∈ pu) (hd:pu'.Pairwise fun a b=>a.id ≠ b.id) (nu:∀ u ∈ pu',[12,13].contains x.kind = true → x.a ≠ u.id)
    (hx:∀ i,some i ≠ dx' → some i ≠ dx) (nt:∀ (i:Nat) (t:Thr),s.threads[i]? = some t → t.update ≠ 0 → some i ≠ dx' → [14].contains x.kind = true → x.a ≠ t.update):GO (H ++ [x]) s pd' pu' dx':=by
  refine ⟨fun i f hf he=>⟨isP_mono (g.fe i f hf he).1 x,(g.fe i f hf he).2⟩,g.f0,g.fu,fun i f hf he hd hk=>any_snoc_no (g.f3 i f hf he hd hk) (n3 i f hf he hd hk),fun i f hf he hd hk=>any_snoc_no (g.f4 i f hf he hd hk) (n4 i f hf he hd hk),
    fun i f hf he hd hk=>any_snoc_no (g.f5 i f hf he hd hk) (n5 i f hf he hd hk),fun i f hf he hd hk hc=>any_snoc_no (g.f8 i f hf he hd hk (hc.imp id (hp i))) (n8 i f hf he hd hk hc),hz,
    fun u hu'=>⟨isP_mono (g.ua u (hu u hu')).1 x,any_snoc_no (g.ua u (hu u hu')).2 (nu u hu')⟩,hd,fun i t ht he=>?_,g.tu⟩
  obtain ⟨q1,q2,q3⟩:=g.ta i t ht he
  exact ⟨isP_mono q1 x,any_snoc_yes q2,fun h=>any_snoc_no (q3 (hx i h)) (nt i t ht he h)⟩
theorem GO.plain {H:List Ev} {s:VS} {pd:List Nat} {pu:List Ev} {dx:Option Nat} (g:GO H s pd pu dx) (x:Ev) (hk:namers.contains x.kind = false):GO (H ++ [x]) s pd pu dx:=by
  have no:∀ ks:List Int,(∀ k,ks.contains k = true → namers.contains k = true) → ks.contains x.kind = true → False:=fun ks h q=>by rw [h _ q] at hk; cases hk
  refine g.snoc x (fun _ _ _ _ _ _ q=>(no _ ?_ q).elim) (fun _ _ _ _ _ _ q=>(no _ ?_ q).elim) (fun _ _ _ _ _ _ q=>(no _ ?_ q).elim) (fun _ _ _ _ _ _ _ q=>(no _ ?_ q).elim) (fun _ h=>h) g.fz (fun _ h=>h) g.ud (fun _ _ q=>(no _ ?_ q).elim) (fun _ h=>h) (fun _ _ _ _ _ q=>(no _ ?_ q).elim)
  all_goals
    intro k hk
    simp [namers] at hk ⊢
    omega
end Go.Proofs.Ytjmdoiakcakfoaa
set_option maxRecDepth 100000
namespace Go.Proofs.Ytjmdoiakcakfoaa
open Go.Ax
theorem canc_mono {s s':VS} (hp:ScpOk s.scopes) (hp':ScpOk s'.scopes) (h:∀ (i:Nat) (c:Scp),s.scopes[i]? = some c → ∃ c',s'.scopes[i]? = some c' ∧ c'.parent = c.parent ∧ (c.cancelled = true → c'.cancelled = true)):∀ (n:Nat) (i:Int),i < n → i < s.scopes.length → s.cancelled i = true → s'.cancelled i = true
  | 0,i,h0,_,hc=>by rw [VS.cancelled_neg (by omega)] at hc; cases hc
  | n + 1,i,hi,hl,hc=>by
    by_cases hneg:i < 0
    · rw [VS.cancelled_neg hneg] at hc; cases hc
    · obtain ⟨k,rfl⟩:∃ k:Nat,i = k:=⟨i.toNat,by omega⟩
      obtain ⟨c,hcc⟩:=get_some (l:=s.scopes) (i:=k) (by omega)
      obtain ⟨c',hc',hpar,hcan⟩:=h k c hcc
      have hpr:=hp k c hcc
      rw [VS.cancelled_at hp hcc] at hc
      rw [VS.cancelled_at hp' hc']
      by_cases hcn:c.cancelled = true
      · rw [if_pos (hcan hcn)]
      · rw [if_neg hcn] at hc
        split
        · rfl
        · rw [hpar]
          exact canc_mono hp hp' h n c.parent (by omega) (by omega) hc
theorem canc_down {s s':VS} {p:Prg} (iv:Inv p s) (iv':Inv p s') (h:∀ (i:Nat) (c:Scp),s.scopes[i]? = some c → ∃ c',s'.scopes[i]? = some c' ∧ c'.parent = c.parent ∧ (c.cancelled = true → c'.cancelled = true)) {i:Int} (hi:i < s.scopes.length) (hc:s'.cancelled i = false):s.cancelled i = false:=by
  cases e:s.cancelled i with
  | false=>rfl
  | true=>rw [canc_mono iv.scp iv'.scp h (i.toNat + 1) i (by omega) hi e] at hc; cases hc
theorem canc_snoc {s:VS} {p:Prg} (iv:Inv p s) (x:Scp):∀ (n:Nat) (i:Int),i < n → i < s.scopes.length → ({ s with scopes:=s.scopes ++ [x] }:VS).cancG n i = s.cancG n i
  | 0,i,_,_=>rfl
  | n + 1,i,hi,hl=>by
    unfold VS.cancG
    by_cases hneg:i < 0
    · rw [if_pos hneg,if_pos hneg]
    · rw [if_neg hneg,if_neg hneg]
      have e:(s.scopes ++ [x])[i.toNat]? = s.scopes[i.toNat]?:=List.getElem?_append_left (by omega)
      show (match (s.scopes ++ [x])[i.toNat]? with | some c=>if c.cancelled = true then true else _ | none=>false) = _
      rw [e]
      cases hc:s.scopes[i.toNat]? with
      | none=>rfl
      | some c =>
        have:=iv.scp _ _ hc
        simp only
        rw [canc_snoc iv x n c.parent (by omega) (by omega)]
theorem canc_grown {s:VS} {p:Prg} (iv:Inv p s) {x:Scp} (hx:x.parent < s.scopes.length) {i:Int} (hi:i < s.scopes.length):({ s with scopes:=s.scopes ++ [x] }:VS).cancelled i = s.cancelled i:=by
  have e1:({ s with scopes:=s.scopes ++ [x] }:VS).cancelled i = ({ s with scopes:=s.scopes ++ [x] }:VS).cancG (s.scopes.length + 1 + 1) i:=by
    show ({ s with scopes:=s.scopes ++ [x] }:VS).cancG ((s.scopes ++ [x]).length + 1) i = _
    rw [List.length_append,List.length_singleton]
  have e2:=cancG_enough (s:={ s with scopes:=s.scopes ++ [x] }) (iv.scp.snoc hx) (s.scopes.length + 1) i (s.scopes.length + 1 + 1) (by omega) (by omega)
  rw [e1,e2]
  exact canc_snoc iv x _ i (by omega) hi
theorem GO.done {H:List Ev} {s:VS} {pd:List Nat} {pu:List Ev} {dx:Option Nat} (g:GO H s pd pu dx) (i v k:Int):GO H (s.setDone i v k) pd pu dx:=by
  rcases setDone_cases s i v k with e | ⟨f0,hf0,h0,hd0,e⟩
  · rw [e]; exact g
  · rw [e]
    have at_:∀ (j:Nat) (f:Fut),(s.futures.set i.toNat (f0.end_ v k))[j]? = some f → ∃ f',s.futures[j]? = some f' ∧ f'.kind = f.kind ∧ f'.event = f.event ∧ f'.scope = f.scope ∧ (f.done = false → f'.done = false) ∧ (f'.done = true → f.done = true):=fun j f hf=>by
      rw [List.getElem?_set] at hf
      by_cases hij:i.toNat = j
      · subst hij
        rw [if_pos rfl,if_pos (get_lt hf0)] at hf
        cases hf
        exact ⟨f0,hf0,rfl,rfl,rfl,fun h=>(by cases h),fun _=>rfl⟩
      · rw [if_neg hij] at hf
        exact ⟨f,hf,rfl,rfl,rfl,id,id⟩
    have cc:∀ x,({ s with futures:=s.futures.set i.toNat (f0.end_ v k) }:VS).cancelled x = s.cancelled x:=fun x=>keepE_canc (s:=s) (s':={ s with futures:=s.futures.set i.toNat (f0.end_ v k) }) rfl x
    refine ⟨fun j f hf he=>?_,fun j f hf he=>?_,fun a b f f2 hf hf2 he hn=>?_,fun j f hf he hd hk=>?_,fun j f hf he hd hk=>?_,fun j f hf he hd hk=>?_,fun j f hf he hd hk hc=>?_,fun j f hf hd hk=>?_,g.ua,g.ud,g.ta,g.tu⟩
    · obtain ⟨f',q1,q2,q3,q4,q5,-⟩:=at_ j f hf
      rw [← q2,← q3]; exact g.fe j f' q1 (by rw [q3]; exact he)
    · obtain ⟨f',q1,q2,q3,q4,q5,q6⟩:=at_ j f hf
      rcases g.f0 j f' q1 (by rw [q3]; exact he) with h | h
      · exact .inl (q6 h)
      · exact .inr (by rw [← q2]; exact h)
    · obtain ⟨f',q1,-,q3,-⟩:=at_ a f hf
      obtain ⟨f2',r1,-,r3,-⟩:=at_ b f2 hf2
      exact g.fu a b f' f2' q1 r1 (by rw [q3,r3]; exact he) (by rw [q3]; exact hn)
    · obtain ⟨f',q1,q2,q3,q4,q5,-⟩:=at_ j f hf
      rw [← q3]; exact g.f3 j f' q1 (by rw [q3]; exact he) (q5 hd) (by rw [q2]; exact hk)
    · obtain ⟨f',q1,q2,q3,q4,q5,-⟩:=at_ j f hf
      rw [← q3]; exact g.f4 j f' q1 (by rw [q3]; exact he) (q5 hd) (by rw [q2]; exact hk)
    · obtain ⟨f',q1,q2,q3,q4,q5,-⟩:=at_ j f hf
      rw [← q3]; exact g.f5 j f' q1 (by rw [q3]; exact he) (q5 hd) (by rw [q2]; exact hk)
    · obtain ⟨f',q1,q2,q3,q4,q5,-⟩:=at_ j f hf
      rw [cc] at hc
      rw [← q3]; exact g.f8 j f' q1 (by rw [q3]; exact he) (q5 hd) (by rw [q2]; exact hk) (by rw [q4]; exact hc)
    · obtain ⟨f',q1,q2,q3,q4,q5,-⟩:=at_ j f hf
      rw [cc,← q4]; exact g.fz j f' q1 (q5 hd) (by rw [q2]; exact hk)
theorem GO.fut {H : List Ev} {s : VS} {pd : List Nat} {pu : List Ev} {dx : Option Nat} (g : GO H s pd pu dx) (f : Fut) (h0 : f.event = 0 → f.done = true ∨ f.kind = 0)
    (he:f.event ≠ 0 → isP H f.event f.kind = true ∧ (f.kind = 3 ∨ f.kind = 4 ∨ f.kind = 5) ∧ (∀ ks:List Int,(∀ k,ks.contains k = true → namers.contains k = true) → anyP H f.event ks = false) ∧ (∀ (i:Nat) (f2:Fut),s.futures[i]? = some f2 → f2.event ≠ f.event) ∧ s.cancelled f.scope = false):GO H (s.fut f) pd pu dx:=by
  have cc:∀ x,(s.fut f).cancelled x = s.cancelled x:=fun x=>keepE_canc (s:=s) (s':=s.fut f) rfl x
  have at_:∀ (j:Nat) (x:Fut),(s.fut f).futures[j]? = some x → s.futures[j]? = some x ∨ (j = s.futures.length ∧ x = f):=fun j x hx=>by
    rcases snoc_get (show (s.futures ++ [f])[j]? = some x from hx) with ⟨-,q⟩ | q
    · exact .inl q
    · exact .inr q
  have nk:∀ ks:List Int,ks = [6,22,23,24] ∨ ks = [7,25] ∨ ks = [27,28] ∨ ks = [8] → ∀ k,ks.contains k = true → namers.contains k = true:=fun ks hks k hk=>by
    rcases hks with rfl | rfl | rfl | rfl <;> (simp [namers] at hk ⊢; omega)
  refine ⟨fun j x hx hn=>?_,fun j x hx hn=>?_,fun a b x y hx hy hxy hn=>?_,fun j x hx hn hd hk=>?_,fun j x hx hn hd hk=>?_,fun j x hx hn hd hk=>?_,fun j x hx hn hd hk hc=>?_,fun j x hx hd hk=>?_,g.ua,g.ud,g.ta,g.tu⟩
  · rcases at_ j x hx with q | ⟨-,rfl⟩
    · exact g.fe j x q hn
    · exact ⟨(he hn).1,(he hn).2.1⟩
  · rcases at_ j x hx with q | ⟨-,rfl⟩
    · exact g.f0 j x q hn
    · exact h0 hn
  · rcases at_ a x hx with q | ⟨qa,rfl⟩
    · rcases at_ b y hy with r | ⟨rb,rfl⟩
      · exact g.fu a b x y q r hxy hn
      · exact absurd hxy ((he (by rw [← hxy]; exact hn)).2.2.2.1 a x q)
    · rcases at_ b y hy with r | ⟨rb,rfl⟩
      · exact absurd hxy.symm ((he hn).2.2.2.1 b y r)
      · omega
  · rcases at_ j x hx with q | ⟨-,rfl⟩
    · exact g.f3 j x q hn hd hk
    · exact (he hn).2.2.1 _ (nk _ (.inl rfl))
  · rcases at_ j x hx with q | ⟨-,rfl⟩
    · exact g.f4 j x q hn hd hk
    · exact (he hn).2.2.1 _ (nk _ (.inr (.inl rfl)))
  · rcases at_ j x hx with q | ⟨-,rfl⟩
    · exact g.f5 j x q hn hd hk
    · exact (he hn).2.2.1 _ (nk _ (.inr (.inr (.inl rfl))))
  · rcases at_ j x hx with q | ⟨-,rfl⟩
    · rw [cc] at hc; exact g.f8 j x q hn hd hk hc
    · exact (he hn).2.2.1 _ (nk _ (.inr (.inr (.inr rfl))))
  · rcases at_ j x hx with q | ⟨-,rfl⟩
    · rw [cc]; exact g.fz j x q hd hk
    · rw [cc]
      by_cases hn:x.event = 0
      · rcases h0 hn with h | h
        · rw [h] at hd; cases hd
        · rcases hk with hk | hk <;> omega
      · exact .inl (he hn).2.2.2.2
theorem GO.scp {p:Prg} {H:List Ev} {s:VS} {pd:List Nat} {pu:List Ev} {dx:Option Nat} (g:GO H s pd pu dx) (iv:Inv p s) {x:Scp} (hx:x.parent < s.scopes.length):GO H { s with scopes:=s.scopes ++ [x] } pd pu dx:=by
  have cc:∀ (j:Nat) (f:Fut),s.futures[j]? = some f → ({ s with scopes:=s.scopes ++ [x] }:VS).cancelled f.scope = s.cancelled f.scope:=fun j f hf=>canc_grown iv hx (iv.futs f (List.mem_of_getElem? hf)).2.2
  exact ⟨g.fe,g.f0,g.fu,g.f3,g.f4,g.f5,fun j f hf he hd hk hc=>g.f8 j f hf he hd hk (by rw [cc j f hf] at hc; exact hc),fun j f hf hd hk=>by rw [cc j f hf]; exact g.fz j f hf hd hk,g.ua,g.ud,g.ta,g.tu⟩
theorem GO.mark {p:Prg} {H:List Ev} {s:VS} {pu:List Ev} {dx:Option Nat} (g:GO H s [] pu dx) (iv:Inv p s) (rm:Room s) (i:Int):GO H (s.mark i) s.hits pu dx:=by
  have st:FStep p false s (s.mark i):=.mark s i
  have iv':=(st.inv iv rm).1
  have hf:(s.mark i).futures = s.futures:=mark_futs s i
  have ht:(s.mark i).threads = s.threads:=by rcases mark_cases s i with e | ⟨c,-,e⟩ <;> rw [e]
  have dn:∀ (f:Fut) (j:Nat),s.futures[j]? = some f → (s.mark i).cancelled f.scope = false → s.cancelled f.scope = false:=fun f j hj hc=>canc_down iv iv' st.ext.scps (iv.futs f (List.mem_of_getElem? hj)).2.2 hc
  have hit:∀ (j:Nat) (f:Fut),s.futures[j]? = some f → (j ∈ s.hits ↔ (f.done = false ∧ s.cancelled f.scope = false)):=fun j f hj=>by
    unfold VS.hits VS.hitAt
    rw [List.mem_filter,List.mem_range,hj]
    simp [get_lt hj]
  refine ⟨by rw [hf]; exact g.fe,by rw [hf]; exact g.f0,by rw [hf]; exact g.fu,by rw [hf]; exact g.f3,by rw [hf]; exact g.f4,by rw [hf]; exact g.f5,fun j f hj he hd hk hc=>?_,fun j f hj hd hk=>?_,g.ua,g.ud,by rw [ht]; exact g.ta,by rw [ht]; exact g.tu⟩
  · rw [hf] at hj
    refine g.f8 j f hj he hd hk (.inl ?_)
    rcases hc with hc | hc
    · exact dn f j hj hc
    · exact ((hit j f hj).1 hc).2
  · rw [hf] at hj
    rcases g.fz j f hj hd hk with h | h
    · exact .inr ((hit j f hj).2 ⟨hd,h⟩)
    · cases h
theorem GO.thr {H : List Ev} {s : VS} {pd : List Nat} {pu : List Ev} {dx : Option Nat} (g : GO H s pd pu dx) (t : Thr) (hd : ∀ i, dx = some i → i < s.threads.length)
    (ht:t.update ≠ 0 → isP H t.update 21 = true ∧ anyP H t.update [12] = true ∧ anyP H t.update [14] = false ∧ ∀ (i:Nat) (u:Thr),s.threads[i]? = some u → u.update ≠ t.update):GO H (s.thread t) pd pu dx:=by
  have at_:∀ (j:Nat) (x:Thr),(s.thread t).threads[j]? = some x → s.threads[j]? = some x ∨ (j = s.threads.length ∧ x = t):=fun j x hx=>by
    rcases snoc_get (show (s.threads ++ [t])[j]? = some x from hx) with ⟨-,q⟩ | q
    · exact .inl q
    · exact .inr q
  have cc:∀ x,(s.thread t).cancelled x = s.cancelled x:=fun x=>keepE_canc (s:=s) (s':=s.thread t) rfl x
  refine ⟨g.fe,g.f0,g.fu,g.f3,g.f4,g.f5,by simp only [cc]; exact g.f8,by simp only [cc]; exact g.fz,g.ua,g.ud,fun j x hx hn=>?_,fun a b x y hx hy hxy hn=>?_⟩
  · rcases at_ j x hx with q | ⟨-,rfl⟩
    · exact g.ta j x q hn
    · exact ⟨(ht hn).1,(ht hn).2.1,fun _=>(ht hn).2.2.1⟩
  · rcases at_ a x hx with q | ⟨qa,rfl⟩
    · rcases at_ b y hy with r | ⟨rb,rfl⟩
      · exact g.tu a b x y q r hxy hn
      · exact absurd hxy ((ht (by rw [← hxy]; exact hn)).2.2.2 a x q)
    · rcases at_ b y hy with r | ⟨rb,rfl⟩
      · exact absurd hxy.symm ((ht hn).2.2.2 b y r)
      · omega
theorem GO.set {H:List Ev} {s:VS} {pd:List Nat} {pu:List Ev} {dx:Option Nat} (g:GO H s pd pu dx) {i:Nat} {t t':Thr} (ht:s.threads[i]? = some t) (e:t'.update = t.update):GO H { s with threads:=s.threads.set i t' } pd pu dx:=by
  have at_:∀ (j:Nat) (x:Thr),(s.threads.set i t')[j]? = some x → ∃ y,s.threads[j]? = some y ∧ y.update = x.update:=fun j x hx=>by
    rw [List.getElem?_set] at hx
    by_cases hij:i = j
    · subst hij
      rw [if_pos rfl,if_pos (get_lt ht)] at hx
      cases hx; exact ⟨t,ht,e.symm⟩
    · rw [if_neg hij] at hx; exact ⟨x,hx,rfl⟩
  have cc:∀ x,({ s with threads:=s.threads.set i t' }:VS).cancelled x = s.cancelled x:=fun x=>keepE_canc (s:=s) (s':={ s with threads:=s.threads.set i t' }) rfl x
  refine ⟨g.fe,g.f0,g.fu,g.f3,g.f4,g.f5,by simp only [cc]; exact g.f8,by simp only [cc]; exact g.fz,g.ua,g.ud,fun j x hx hn=>?_,fun a b x y hx hy hxy hn=>?_⟩
  · obtain ⟨y,hy,ey⟩:=at_ j x hx
    rw [← ey]; exact g.ta j y hy (by rw [ey]; exact hn)
  · obtain ⟨x',hx',ex⟩:=at_ a x hx
    obtain ⟨y',hy',ey⟩:=at_ b y hy
    exact g.tu a b x' y' hx' hy' (by rw [ex,ey]; exact hxy) (by rw [ex]; exact hn)
theorem GO.erase {H:List Ev} {s:VS} {pd:List Nat} {pu:List Ev} {i:Nat} (g:GO H s pd pu (some i)):GO H { s with threads:=s.threads.eraseIdx i } pd pu none:=by
  have at_:∀ (j:Nat) (x:Thr),(s.threads.eraseIdx i)[j]? = some x → ∃ k,k ≠ i ∧ s.threads[k]? = some x ∧ k = (if j < i then j else j + 1):=fun j x hx=>by
    rw [List.getElem?_eraseIdx] at hx
    split at hx
    · rename_i h; exact ⟨j,by omega,hx,by rw [if_pos h]⟩
    · rename_i h; exact ⟨j + 1,by omega,hx,by rw [if_neg h]⟩
  have cc:∀ x,({ s with threads:=s.threads.eraseIdx i }:VS).cancelled x = s.cancelled x:=fun x=>keepE_canc (s:=s) (s':={ s with threads:=s.threads.eraseIdx i }) rfl x
  refine ⟨g.fe,g.f0,g.fu,g.f3,g.f4,g.f5,by simp only [cc]; exact g.f8,by simp only [cc]; exact g.fz,g.ua,g.ud,fun j x hx hn=>?_,fun a b x y hx hy hxy hn=>?_⟩
  · obtain ⟨k,hk,hkx,-⟩:=at_ j x hx
    obtain ⟨q1,q2,q3⟩:=g.ta k x hkx hn
    exact ⟨q1,q2,fun _=>q3 (fun e=>hk (Option.some.inj e))⟩
  · obtain ⟨k,hk,hkx,e1⟩:=at_ a x hx
    obtain ⟨l,hl,hly,e2⟩:=at_ b y hy
    have:=g.tu k l x y hkx hly hxy hn
    split at e1 <;> split at e2 <;> omega
theorem GO.dx {H:List Ev} {s:VS} {pd:List Nat} {pu:List Ev} (g:GO H s pd pu none) (d:Option Nat):GO H s pd pu d :=
  ⟨g.fe,g.f0,g.fu,g.f3,g.f4,g.f5,g.f8,g.fz,g.ua,g.ud,fun i t ht hn=>⟨(g.ta i t ht hn).1,(g.ta i t ht hn).2.1,fun _=>(g.ta i t ht hn).2.2 (by simp)⟩,g.tu⟩
theorem GO.pu {H:List Ev} {s:VS} {pd:List Nat} {u:Ev} {pu:List Ev} {dx:Option Nat} (g:GO H s pd (u :: pu) dx):GO H s pd pu dx :=
  ⟨g.fe,g.f0,g.fu,g.f3,g.f4,g.f5,g.f8,g.fz,fun x hx=>g.ua x (List.mem_cons_of_mem _ hx),(List.pairwise_cons.1 g.ud).2,g.ta,g.tu⟩
end Go.Proofs.Ytjmdoiakcakfoaa
set_option maxRecDepth 100000
namespace Go.Proofs.Ytjmdoiakcakfoaa
open Go.Ax
theorem fix7_kind (x:Ev):(fix7 x).kind = x.kind:=by unfold fix7; split <;> rfl
theorem fix7_a (x:Ev):(fix7 x).a = x.a:=by unfold fix7; split <;> rfl
theorem fix7_id (x:Ev):(fix7 x).id = x.id:=by unfold fix7; split <;> rfl
theorem fix7_time (x:Ev):(fix7 x).time = x.time:=by unfold fix7; split <;> rfl
theorem fix7_ne {x:Ev} (h:x.kind ≠ 18):fix7 x = x:=by unfold fix7; rw [if_neg h]
def hist (h0:List Ev) (s:VS):List Ev:=h0 ++ s.made.map fix7
theorem hist_push (h0:List Ev) (s:VS) (e:Ev):hist h0 (s.push e) = hist h0 s ++ [fix7 e]:=by
  show h0 ++ (s.made ++ [e]).map fix7 = _
  unfold hist; rw [List.map_append,List.append_assoc]; rfl
structure GT (h0:List Ev) (now:Int) (s:VS):Prop where
  tm:TM h0.length now s
  n0:0 ≤ now ∧ now ≤ 1099511627776
  gram:Gram (hist h0 s)
structure GI (h0:List Ev) (now:Int) (s:VS) (pd:List Nat) (pu:List Ev) (dx:Option Nat):Prop extends GT h0 now s where
  go:s.over = false → GO (hist h0 s) s pd pu dx
theorem GT.congr {h0:List Ev} {now:Int} {s s':VS} (g:GT h0 now s) (e1:s'.expect = s.expect) (e2:s'.now = s.now) (e3:s'.count = s.count) (e4:s'.made = s.made) (e5:s'.over = s.over):GT h0 now s' :=
  ⟨g.tm.congr e1 e2 e3 e4 e5,g.n0,by unfold hist; rw [e4]; exact g.gram⟩
theorem GI.shut {h0:List Ev} {now:Int} {s:VS} (g:GT h0 now s) (ho:s.over = true) (pd:List Nat) (pu:List Ev) (dx:Option Nat):GI h0 now s pd pu dx:=⟨g,fun h=>by rw [ho] at h; cases h⟩
theorem GI.congr {h0 : List Ev} {now : Int} {s s' : VS} {pd pd' : List Nat} {pu pu' : List Ev} {dx dx' : Option Nat} (g : GI h0 now s pd pu dx) (e1 : s'.expect = s.expect) (e2 : s'.now = s.now) (e3 : s'.count = s.count) (e4 : s'.made = s.made) (e5 : s'.over = s.over)
    (hg:GO (hist h0 s) s pd pu dx → GO (hist h0 s) s' pd' pu' dx'):GI h0 now s' pd' pu' dx' :=
  have eh:hist h0 s' = hist h0 s:=by unfold hist; rw [e4]
  ⟨g.toGT.congr e1 e2 e3 e4 e5,fun h=>by rw [eh]; exact hg (g.go (by rw [← e5]; exact h))⟩
section
variable {h0:List Ev} {now:Int} {s:VS} {pd pd':List Nat} {pu pu':List Ev} {dx dx':Option Nat}
theorem GT.len (g:GT h0 now s):((hist h0 s).length:Int) = s.count:=by
  unfold hist; rw [List.length_append,List.length_map,g.tm.len]; omega
theorem GT.lastEv (g:GT h0 now s):∃ x l,s.made = l ++ [x] ∧ hist h0 s = (h0 ++ l.map fix7) ++ [fix7 x]:=by
  rcases List.eq_nil_or_concat s.made with h | ⟨l,x,h⟩
  · have:=g.tm.first; rw [h] at this; cases this
  · refine ⟨x,l,by rw [h]; simp,?_⟩
    unfold hist; rw [h]; simp
theorem GT.last (g:GT h0 now s):hist h0 s ≠ [] ∧ (lastP (hist h0 s)).time = now ∧ ((lastP (hist h0 s)).kind = 2 ∨ cmdM (lastP (hist h0 s)).kind = true) ∧ (s.over = false → closeM (lastP (hist h0 s)).kind = false):=by
  obtain ⟨x,l,hm,hh⟩:=g.lastEv
  have hx:s.made[l.length]? = some x:=by rw [hm]; simp
  rw [hh,lastP_snoc,fix7_time,fix7_kind]
  have r:=g.tm.row _ _ hx
  refine ⟨by simp,r.2.1,?_,fun ho=>g.tm.open_ ho _ _ hx⟩
  by_cases h:l.length = 0
  · left
    have:=g.tm.first
    rw [h] at hx; rw [hx] at this
    cases this; rfl
  · exact .inr (r.2.2 h)
theorem GT.push (g:GT h0 now s) (ho:s.over = false) {e:Ev} (h1:e.id = s.count + 1) (h2:e.time = s.now) (h3:cmdM e.kind = true) (hv:validM (fix7 e) = true) (hn:namesP (hist h0 s) (fix7 e) = true):GT h0 now (s.push e):=by
  refine ⟨g.tm.push ho h1 h2 h3,g.n0,?_⟩
  rw [hist_push]
  obtain ⟨l1,l2,l3,l4⟩:=g.last
  have hl:=g.len
  refine gram_snoc g.gram (may_of l1 hv ?_ ?_ ?_ (l4 ho) ?_ ?_ hn)
  · rw [fix7_id,h1,hl]
  · rw [fix7_kind]; intro h; rw [h] at h3; cases h3
  · rw [fix7_time,h2,g.tm.nw,l2]; exact Int.le_refl _
  · rw [fix7_kind]; intro h; rw [h] at h3; cases h3
  · intro _; refine ⟨l3,?_⟩; rw [fix7_time,h2,g.tm.nw,l2]
theorem GT.emit0 (g:GT h0 now s) (e:Ev):s.emit0 e = ((e.id,true),s.push e):=by unfold VS.emit0; rw [g.tm.x]
theorem valid_fail {id now c:Int} (h1:1 ≤ id ∧ id ≤ 256) (h2:0 ≤ now ∧ now ≤ 1099511627776):validM ⟨id,now,16,c,0,0,0,0,0⟩ = true:=by
  unfold validM headOk
  simp [numOk,fieldsM,tabF,spanM]
  omega
theorem GT.fails {p:Prg} (g:GT h0 now s) (iv:Inv p s) (rm:Room s) (ho:s.over = false) (c:Int):GT h0 now (s.fails c):=by
  unfold VS.fails
  rw [g.emit0]
  have hr:=rm g.tm.x ho
  have hc:=iv.c0
  refine g.push ho rfl rfl rfl ?_ rfl
  have hn:=g.tm.nw
  have:validM ⟨s.count + 1,s.now,16,c,0,0,0,0,0⟩ = true:=valid_fail ⟨by omega,by omega⟩ (by rw [hn]; exact g.n0)
  exact this
theorem GI.fails {p:Prg} (g:GT h0 now s) (iv:Inv p s) (rm:Room s) (ho:s.over = false) (c:Int) (pd:List Nat) (pu:List Ev) (dx:Option Nat):GI h0 now (s.fails c) pd pu dx:=.shut (g.fails iv rm ho c) (overF s c) _ _ _
theorem GT.emit {p : Prg} (g : GT h0 now s) (iv : Inv p s) (rm : Room s) (ho : s.over = false) {e : Ev} (hk : cmdM e.kind = true) (hv : ∀ id, 1 ≤ id → id ≤ 256 → validM (fix7 { e with id := id, time := now }) = true) (hn : namesP (hist h0 s) (fix7 (s.stamp e)) = true) :
    GT h0 now (s.emit e).2 ∧ ((s.emit e).1.2 = true → hist h0 (s.emit e).2 = hist h0 s ++ [fix7 (s.stamp e)]):=by
  unfold VS.emit
  split
  · exact ⟨g.fails iv rm ho _,fun h=>by cases h⟩
  · rw [g.emit0]
    have hr:=rm g.tm.x ho
    have hc:=iv.c0
    refine ⟨g.push ho rfl rfl hk ?_ hn,fun _=>hist_push _ _ _⟩
    have:=hv (s.count + 1) (by omega) (by omega)
    rw [← g.tm.nw] at this; exact this
theorem GI.emit {p : Prg} (g : GI h0 now s pd pu dx) (iv : Inv p s) (rm : Room s) (ho : s.over = false) {e : Ev} (hk : cmdM e.kind = true) (hv : ∀ id, 1 ≤ id → id ≤ 256 → validM (fix7 { e with id := id, time := now }) = true) (hn : namesP (hist h0 s) (fix7 (s.stamp e)) = true)
    (hg:closeM e.kind = false → GO (hist h0 s) s pd pu dx → GO (hist h0 s ++ [fix7 (s.stamp e)]) s pd' pu' dx'):GI h0 now (s.emit e).2 pd' pu' dx':=by
  have k:=g.toGT.emit iv rm ho hk hv hn
  have kp:=keepE s e
  refine ⟨k.1,fun hov=>?_⟩
  have hok:(s.emit e).1.2 = true:=by
    cases h:(s.emit e).1.2 with
    | true=>rfl
    | false=>rw [overE s e h] at hov; cases hov
  have hc:closeM e.kind = false:=by
    have:=goesE s e hok
    rw [hov] at this
    cases h:closeM e.kind with
    | false=>rfl
    | true=>rw [h] at this; cases this
  rw [k.2 hok]
  exact (hg hc (g.go ho)).congr kp.futures kp.scopes kp.threads
end
section
variable {id now a b c:Int}
theorem valid_3 (h1:1 ≤ id ∧ id ≤ 256) (h2:0 ≤ now ∧ now ≤ 1099511627776) (ha:0 ≤ a ∧ a < 8):validM ⟨id,now,3,a,b,0,0,0,0⟩ = true:=by
  unfold validM headOk; simp [numOk,fieldsM,tabF,spanM]; omega
theorem valid_4 (h1:1 ≤ id ∧ id ≤ 256) (h2:0 ≤ now ∧ now ≤ 1099511627776) (ha:0 ≤ a):validM ⟨id,now,4,a,0,0,0,0,0⟩ = true:=by
  unfold validM headOk; simp [numOk,fieldsM,tabF,spanM]; omega
theorem valid_5 (h1:1 ≤ id ∧ id ≤ 256) (h2:0 ≤ now ∧ now ≤ 1099511627776) (ha:0 ≤ a ∧ a < 8):validM ⟨id,now,5,a,b,0,0,0,0⟩ = true:=by
  unfold validM headOk; simp [numOk,fieldsM,tabF,spanM]; omega
theorem valid_6 (h1:1 ≤ id ∧ id ≤ 256) (h2:0 ≤ now ∧ now ≤ 1099511627776) (ha:1 ≤ a):validM ⟨id,now,6,a,0,0,0,0,0⟩ = true:=by
  unfold validM headOk; simp [numOk,fieldsM,tabF,spanM]; omega
theorem valid_7 (h1:1 ≤ id ∧ id ≤ 256) (h2:0 ≤ now ∧ now ≤ 1099511627776) (ha:1 ≤ a):validM ⟨id,now,7,a,0,0,0,0,0⟩ = true:=by
  unfold validM headOk; simp [numOk,fieldsM,tabF,spanM]; omega
theorem valid_8 (h1:1 ≤ id ∧ id ≤ 256) (h2:0 ≤ now ∧ now ≤ 1099511627776) (ha:1 ≤ a):validM ⟨id,now,8,a,0,0,0,0,0⟩ = true:=by
  unfold validM headOk; simp [numOk,fieldsM,tabF,spanM]; omega
theorem valid_9 (h1:1 ≤ id ∧ id ≤ 256) (h2:0 ≤ now ∧ now ≤ 1099511627776) (ha:1 ≤ a) (hb:0 ≤ b ∧ b < 8):validM ⟨id,now,9,a,b,c,0,0,0⟩ = true:=by
  unfold validM headOk; simp [numOk,fieldsM,tabF,spanM]; omega
theorem valid_10 (h1:1 ≤ id ∧ id ≤ 256) (h2:0 ≤ now ∧ now ≤ 1099511627776) (ha:0 ≤ a ∧ a < 4):validM ⟨id,now,10,a,b,0,0,0,0⟩ = true:=by
  unfold validM headOk; simp [numOk,fieldsM,tabF,spanM]; omega
theorem valid_11 (h1:1 ≤ id ∧ id ≤ 256) (h2:0 ≤ now ∧ now ≤ 1099511627776):validM ⟨id,now,11,a,0,0,0,0,0⟩ = true:=by
  unfold validM headOk; simp [numOk,fieldsM,tabF,spanM]; omega
theorem valid_12 (h1:1 ≤ id ∧ id ≤ 256) (h2:0 ≤ now ∧ now ≤ 1099511627776) (ha:1 ≤ a):validM ⟨id,now,12,a,0,0,0,0,0⟩ = true:=by
  unfold validM headOk; simp [numOk,fieldsM,tabF,spanM]; omega
theorem valid_13 (h1:1 ≤ id ∧ id ≤ 256) (h2:0 ≤ now ∧ now ≤ 1099511627776) (ha:1 ≤ a):validM ⟨id,now,13,a,b,0,0,0,0⟩ = true:=by
  unfold validM headOk; simp [numOk,fieldsM,tabF,spanM]; omega
theorem valid_14 (h1:1 ≤ id ∧ id ≤ 256) (h2:0 ≤ now ∧ now ≤ 1099511627776) (ha:1 ≤ a) (hc:c = 0 ∨ c = 1):validM ⟨id,now,14,a,b,c,0,0,0⟩ = true:=by
  unfold validM headOk; simp [numOk,fieldsM,tabF,spanM]; omega
theorem valid_15 (h1:1 ≤ id ∧ id ≤ 256) (h2:0 ≤ now ∧ now ≤ 1099511627776):validM ⟨id,now,15,a,0,0,0,0,0⟩ = true:=by
  unfold validM headOk; simp [numOk,fieldsM,tabF,spanM]; omega
theorem valid_17 (h1:1 ≤ id ∧ id ≤ 256) (h2:0 ≤ now ∧ now ≤ 1099511627776):validM ⟨id,now,17,a,0,0,0,0,0⟩ = true:=by
  unfold validM headOk; simp [numOk,fieldsM,tabF,spanM]; omega
theorem valid_18 (h1:1 ≤ id ∧ id ≤ 256) (h2:0 ≤ now ∧ now ≤ 1099511627776):validM ⟨id,now,18,a,7,0,0,0,0⟩ = true:=by
  unfold validM headOk; simp [numOk,fieldsM,tabF,spanM]; omega
theorem valid_2 (h1:1 ≤ id ∧ id ≤ 256) (h2:0 ≤ now ∧ now ≤ 1099511627776) (ha:1 ≤ a):validM ⟨id,now,2,a,0,0,0,0,0⟩ = true:=by
  unfold validM headOk; simp [numOk,fieldsM,tabF,spanM]; omega
end
end Go.Proofs.Ytjmdoiakcakfoaa
set_option maxRecDepth 100000
namespace Go.Proofs.Ytjmdoiakcakfoaa
open Go.Ax
theorem names_6 {pre:List Ev} {x:Ev} (hk:x.kind = 6) (h1:isP pre x.a 3 = true) (h2:anyP pre x.a [6,22,23,24] = false):namesP pre x = true:=by
  unfold namesP; rw [if_pos (.inl hk),h1,h2]; rfl
theorem names_7 {pre:List Ev} {x:Ev} (hk:x.kind = 7) (h1:isP pre x.a 4 = true) (h2:anyP pre x.a [7,25] = false):namesP pre x = true:=by
  unfold namesP; rw [if_neg (by omega),if_pos hk,h1,h2]; rfl
theorem names_8 {pre:List Ev} {x:Ev} (hk:x.kind = 8) (h1:isP pre x.a 5 = true) (h2:anyP pre x.a [8,27,28] = false):namesP pre x = true:=by
  unfold namesP; rw [if_neg (by omega),if_neg (by omega),if_neg (by omega),if_neg (by omega),if_neg (by omega),if_pos hk,h1,h2]; rfl
theorem names_9 {pre:List Ev} {x:Ev} (hk:x.kind = 9) (h1:isP pre x.a 5 = true):namesP pre x = true:=by
  unfold namesP; rw [if_neg (by omega),if_neg (by omega),if_neg (by omega),if_neg (by omega),if_neg (by omega),if_neg (by omega),if_pos hk,h1]
theorem names_12 {pre:List Ev} {x:Ev} (hk:x.kind = 12 ∨ x.kind = 13) (h1:isP pre x.a 21 = true) (h2:anyP pre x.a [12,13] = false):namesP pre x = true:=by
  unfold namesP; rw [if_neg (by omega),if_neg (by omega),if_neg (by omega),if_neg (by omega),if_neg (by omega),if_neg (by omega),if_neg (by omega),if_neg (by omega),if_pos hk,h1,h2]; rfl
theorem names_14 {pre:List Ev} {x:Ev} (hk:x.kind = 14) (h1:isP pre x.a 21 = true) (h2:anyP pre x.a [12] = true) (h3:anyP pre x.a [14] = false):namesP pre x = true:=by
  unfold namesP; rw [if_neg (by omega),if_neg (by omega),if_neg (by omega),if_neg (by omega),if_neg (by omega),if_neg (by omega),if_neg (by omega),if_neg (by omega),if_neg (by omega),if_pos hk,h1,h2,h3]; rfl
theorem names_else {pre:List Ev} {x:Ev} (hk:namers.contains x.kind = false) (h9:x.kind ≠ 9) (h29:x.kind ≠ 29):namesP pre x = true:=by
  simp [namers] at hk
  unfold namesP; rw [if_neg (by omega),if_neg (by omega),if_neg (by omega),if_neg (by omega),if_neg (by omega),if_neg (by omega),if_neg (by omega),if_neg (by omega),if_neg (by omega),if_neg (by omega)]
theorem any_or {h:List Ev} {id:Int} {ks ls ms:List Int} (hs:∀ k,ms.contains k = true → ks.contains k = true ∨ ls.contains k = true) (a:anyP h id ks = false) (b:anyP h id ls = false):anyP h id ms = false:=by
  cases c:anyP h id ms with
  | false=>rfl
  | true =>
    obtain ⟨j,x,hx,hk,rfl⟩:=anyP_get c
    rcases hs _ hk with q | q
    · have : anyP h x.a ks = true := by
        unfold anyP; rw [List.any_eq_true]; exact ⟨x,List.mem_of_getElem? hx,by rw [q]; simp⟩
      rw [a] at this; cases this
    · have : anyP h x.a ls = true := by
        unfold anyP; rw [List.any_eq_true]; exact ⟨x,List.mem_of_getElem? hx,by rw [q]; simp⟩
      rw [b] at this; cases this
theorem GO.drop {H:List Ev} {s:VS} {i:Nat} {l:List Nat} {pu:List Ev} {dx:Option Nat} (g:GO H s (i :: l) pu dx) (h:∀ f,s.futures[i]? = some f → f.done = false → (f.kind = 3 ∨ f.kind = 4) → s.cancelled f.scope = false):GO H s l pu dx:=by
  refine ⟨g.fe,g.f0,g.fu,g.f3,g.f4,g.f5,fun j f hf he hd hk hc=>g.f8 j f hf he hd hk (hc.imp id (List.mem_cons_of_mem _)),fun j f hf hd hk=>?_,g.ua,g.ud,g.ta,g.tu⟩
  rcases g.fz j f hf hd hk with q | q
  · exact .inl q
  · rcases List.mem_cons.1 q with q | q
    · subst q; exact .inl (h f hf hd hk)
    · exact .inr q
theorem setDone_at {s:VS} {i:Nat} {f:Fut} (hf:s.futures[i]? = some f) (hd:f.done = false) (v k:Int):s.setDone i v k = { s with futures:=s.futures.set i (f.end_ v k) }:=by
  unfold VS.setDone
  rw [Int.toNat_natCast,hf]
  simp only
  rw [if_pos (by rw [hd]; simp)]
theorem setDone_congr {s s':VS} (e1:s'.futures = s.futures) (i v k:Int):(s'.setDone i v k).futures = (s.setDone i v k).futures:=by
  unfold VS.setDone
  rw [e1]
  split
  · split
    · rfl
    · exact e1
  · exact e1
theorem setDone_rest (s:VS) (i v k:Int):(s.setDone i v k).scopes = s.scopes ∧ (s.setDone i v k).threads = s.threads ∧ (s.setDone i v k).expect = s.expect ∧ (s.setDone i v k).now = s.now ∧ (s.setDone i v k).count = s.count ∧ (s.setDone i v k).made = s.made ∧ (s.setDone i v k).over = s.over:=by
  rcases setDone_cases s i v k with e | ⟨f,_,_,_,e⟩ <;> rw [e] <;> exact ⟨rfl,rfl,rfl,rfl,rfl,rfl,rfl⟩
section
variable {h0:List Ev} {now:Int} {p:Prg}
theorem undoAll_gi:∀ (l:List Nat) (s:VS) (pu:List Ev) (dx:Option Nat),Inv p s → Room s → s.over = false → GI h0 now s l pu dx → l.Nodup → (∀ j ∈ l,∀ f,s.futures[j]? = some f → f.done = false) → GI h0 now (undoAll l s) [] pu dx
  | [],s,pu,dx,_,_,_,g,_,_=>g
  | i :: l,s,pu,dx,iv,rm,ho,g,nd,hdn=>by
    have go:=g.go ho
    have ndl:=(List.nodup_cons.1 nd).2
    have nil_:=(List.nodup_cons.1 nd).1
    cases hf:s.futures[i]? with
    | none =>
      rw [undoAll,hf]
      exact undoAll_gi l s pu dx iv rm ho ⟨g.toGT,fun _=>go.drop (fun f h=>by rw [hf] at h; cases h)⟩ ndl (fun j hj=>hdn j (List.mem_cons_of_mem _ hj))
    | some f =>
      have hd:=hdn i (List.mem_cons_self ..) f hf
      rw [undoAll_cons hf]
      split
      · rename_i hc
        refine undoAll_gi l s pu dx iv rm ho ⟨g.toGT,fun _=>go.drop (fun f' h _ _=>?_)⟩ ndl (fun j hj=>hdn j (List.mem_cons_of_mem _ hj))
        rw [hf] at h; cases h; simpa using hc
      · rename_i hc
        have hc:s.cancelled f.scope = true:=by simpa using hc
        split
        · rename_i hk
          refine undoAll_gi l s pu dx iv rm ho ⟨g.toGT,fun _=>go.drop (fun f' h _ hk2=>?_)⟩ ndl (fun j hj=>hdn j (List.mem_cons_of_mem _ hj))
          rw [hf] at h; cases h
          rcases hk2 with hk2 | hk2 <;> rw [hk2] at hk <;> exact absurd hk (by decide)
        · rename_i hk
          have hkc:=undoK_cmd hk
          have hev:f.event ≠ 0:=fun h=>by
            rcases go.f0 i f hf h with q | q
            · rw [hd] at q; cases q
            · rw [q] at hk; exact hk rfl
          obtain ⟨hfe,-⟩:=go.fe i f hf hev
          obtain ⟨he1,-,-⟩:=isP_some hfe
          have hxk:(fix7 (s.stamp (evM (undoK f.kind) f.event 0 0))).kind = undoK f.kind:=fix7_kind _
          have hxa:(fix7 (s.stamp (evM (undoK f.kind) f.event 0 0))).a = f.event:=fix7_a _
          have hvn:(∀ id,1 ≤ id → id ≤ 256 → validM (fix7 { (evM (undoK f.kind) f.event 0 0) with id:=id,time:=now }) = true) ∧ namesP (hist h0 s) (fix7 (s.stamp (evM (undoK f.kind) f.event 0 0))) = true:=by
            rcases undoK_cases f.kind with e | ⟨e,ek⟩ | ⟨e,ek⟩ | ⟨e,ek⟩
            · exact absurd e hk
            · rw [ek] at hfe
              refine ⟨fun id h1 h2=>?_,names_6 (by rw [hxk,e]) (by rw [hxa]; exact hfe) (by rw [hxa]; exact go.f3 i f hf hev hd ek)⟩
              rw [fix7_ne (by show undoK f.kind ≠ 18; rw [e]; decide),e]
              exact valid_6 ⟨h1,h2⟩ g.n0 he1
            · rw [ek] at hfe
              refine ⟨fun id h1 h2=>?_,names_7 (by rw [hxk,e]) (by rw [hxa]; exact hfe) (by rw [hxa]; exact go.f4 i f hf hev hd ek)⟩
              rw [fix7_ne (by show undoK f.kind ≠ 18; rw [e]; decide),e]
              exact valid_7 ⟨h1,h2⟩ g.n0 he1
            · rw [ek] at hfe
              refine ⟨fun id h1 h2=>?_,names_8 (by rw [hxk,e]) (by rw [hxa]; exact hfe) (by rw [hxa]; exact any_or (ks:=[8]) (ls:=[27,28]) (fun k q=>by simp at q ⊢; omega) (go.f8 i f hf hev hd ek (.inr (List.mem_cons_self ..))) (go.f5 i f hf hev hd ek))⟩
              rw [fix7_ne (by show undoK f.kind ≠ 18; rw [e]; decide),e]
              exact valid_8 ⟨h1,h2⟩ g.n0 he1
          have k:=g.toGT.emit iv rm ho (e:=evM (undoK f.kind) f.event 0 0) hkc.1 hvn.1 hvn.2
          split
          · rename_i hok
            exact .shut k.1 (overE _ _ (by simpa using hok)) _ _ _
          · rename_i hok
            have hok:(s.emit (evM (undoK f.kind) f.event 0 0)).1.2 = true:=by simpa using hok
            have hh:=k.2 hok
            have kp:=keepE s (evM (undoK f.kind) f.event 0 0)
            have st:=undoS_steps (p:=p) (b:=true) i (f:=f) ho hk
            have iv':=st.inv iv rm
            have hov:=undoS_over (i:=i) (f:=f) ho hk hok
            generalize hx:fix7 (s.stamp (evM (undoK f.kind) f.event 0 0)) = x at hh hxk hxa
            have main:GI h0 now (undoS s i f) l pu dx ∧ ∀ j,j ≠ i → (undoS s i f).futures[j]? = s.futures[j]?:=by
              by_cases h5:f.kind = 5
              · have hu:undoS s i f = (s.emit (evM (undoK f.kind) f.event 0 0)).2:=by unfold undoS; rw [if_neg (by rw [h5]; simp)]
                have hk8:x.kind = 8:=by rw [hxk,h5]; rfl
                rw [hu]
                refine ⟨⟨k.1,fun _=>?_⟩,fun j _=>by rw [kp.futures]⟩
                rw [hh]
                refine GO.congr ?_ kp.futures kp.scopes kp.threads
                refine go.snoc x (fun _ _ _ _ _ _ q=>absurd q (by rw [hk8]; decide)) (fun _ _ _ _ _ _ q=>absurd q (by rw [hk8]; decide)) (fun _ _ _ _ _ _ q=>absurd q (by rw [hk8]; decide)) (fun j f' hf' he' hd' hk' hc' _ he=>?_) (fun j hj=>List.mem_cons_of_mem _ hj) (fun j f' hf' hd' hk'=>?_) (fun _ h=>h) go.ud (fun _ _ q=>absurd q (by rw [hk8]; decide)) (fun _ h=>h) (fun _ _ _ _ _ q=>absurd q (by rw [hk8]; decide))
                · rw [hxa] at he
                  have:=go.fu i j f f' hf hf' he hev
                  subst this
                  rw [hf] at hf'; cases hf'
                  rcases hc' with q | q
                  · rw [hc] at q; cases q
                  · exact nil_ q
                · rcases go.fz j f' hf' hd' hk' with q | q
                  · exact .inl q
                  · rcases List.mem_cons.1 q with q | q
                    · subst q; rw [hf] at hf'; cases hf'; omega
                    · exact .inr q
              · have hu:undoS s i f = (s.emit (evM (undoK f.kind) f.event 0 0)).2.setDone i 0 3:=by unfold undoS; rw [if_pos (by simpa using h5)]
                have hk8:x.kind = 6 ∨ x.kind = 7:=by
                  rcases undoK_cases f.kind with e | ⟨e,ek⟩ | ⟨e,ek⟩ | ⟨e,ek⟩
                  · exact absurd e hk
                  · exact .inl (hxk.trans e)
                  · exact .inr (hxk.trans e)
                  · exact absurd ek h5
                have hsd:=setDone_at hf hd 0 3
                have hfi:(s.setDone i 0 3).futures[i]? = some (f.end_ 0 3):=by rw [hsd]; show (s.futures.set i _)[i]? = _; rw [List.getElem?_set,if_pos rfl,if_pos (get_lt hf)]
                have go1:=go.done i 0 3
                obtain ⟨r1,r2,r3,r4,r5,r6,r7⟩:=setDone_rest (s.emit (evM (undoK f.kind) f.event 0 0)).2 i 0 3
                obtain ⟨q1,q2,-⟩:=setDone_rest s i 0 3
                have hfut:((s.emit (evM (undoK f.kind) f.event 0 0)).2.setDone i 0 3).futures = (s.setDone i 0 3).futures:=setDone_congr kp.futures _ _ _
                have hno:∀ (j:Nat) (f':Fut),(s.setDone i 0 3).futures[j]? = some f' → f'.event ≠ 0 → f'.done = false → x.a ≠ f'.event:=fun j f' hf' he' hd' he=>by
                  rw [hxa] at he
                  have:=go1.fu i j _ f' hfi hf' he hev
                  subst this
                  rw [hfi] at hf'; cases hf'; cases hd'
                rw [hu]
                refine ⟨⟨k.1.congr r3 r4 r5 r6 r7,fun _=>?_⟩,fun j hj=>?_⟩
                · have e:hist h0 ((s.emit (evM (undoK f.kind) f.event 0 0)).2.setDone i 0 3) = hist h0 s ++ [x]:=by rw [← hh]; unfold hist; rw [r6]
                  rw [e]
                  refine GO.congr (s:=s.setDone i 0 3) ?_ hfut (by rw [r1,q1,kp.scopes]) (by rw [r2,q2,kp.threads])
                  have nc:∀ ks:List Int,ks.contains 6 = false → ks.contains 7 = false → ¬ ks.contains x.kind = true:=fun ks a b q=>by
                    rcases hk8 with e | e <;> rw [e] at q
                    · rw [a] at q; cases q
                    · rw [b] at q; cases q
                  refine go1.snoc x (fun j f' hf' he' hd' _ _=>hno j f' hf' he' hd') (fun j f' hf' he' hd' _ _=>hno j f' hf' he' hd') (fun j f' hf' he' hd' _ _=>hno j f' hf' he' hd') (fun j f' hf' he' hd' _ _ _=>hno j f' hf' he' hd') (fun j hj=>List.mem_cons_of_mem _ hj) (fun j f' hf' hd' hk'=>?_) (fun _ h=>h) go.ud (fun _ _ q=>absurd q (nc _ (by decide) (by decide))) (fun _ h=>h) (fun _ _ _ _ _ q=>absurd q (nc _ (by decide) (by decide)))
                  rcases go1.fz j f' hf' hd' hk' with q | q
                  · exact .inl q
                  · rcases List.mem_cons.1 q with q | q
                    · subst q; rw [hfi] at hf'; cases hf'; cases hd'
                    · exact .inr q
                · rw [hfut,hsd]
                  show (s.futures.set i _)[j]? = _
                  rw [List.getElem?_set,if_neg (Ne.symm hj)]
            refine undoAll_gi l _ pu dx iv'.1 iv'.2 hov main.1 ndl fun j hj f' hf'=>?_
            have hji:j ≠ i:=fun h=>nil_ (h ▸ hj)
            rw [main.2 j hji] at hf'
            exact hdn j (List.mem_cons_of_mem _ hj) f' hf'
theorem hits_facts (s:VS):s.hits.Nodup ∧ ∀ j ∈ s.hits,∀ f,s.futures[j]? = some f → f.done = false:=by
  refine ⟨List.Pairwise.filter _ List.nodup_range,fun j hj f hf=>?_⟩
  unfold VS.hits VS.hitAt at hj
  rw [List.mem_filter,hf] at hj
  have:=hj.2
  simp at this
  exact this.1
theorem mark_rest (s:VS) (i:Int):(s.mark i).expect = s.expect ∧ (s.mark i).now = s.now ∧ (s.mark i).count = s.count ∧ (s.mark i).made = s.made ∧ (s.mark i).over = s.over:=by
  rcases mark_cases s i with e | ⟨c,-,e⟩ <;> rw [e] <;> exact ⟨rfl,rfl,rfl,rfl,rfl⟩
theorem cancels_gi {s:VS} {pu:List Ev} {dx:Option Nat} (g:GI h0 now s [] pu dx) (iv:Inv p s) (rm:Room s) (ho:s.over = false) (i:Int):GI h0 now (s.cancels i) [] pu dx:=by
  unfold VS.cancels
  split
  · split
    · exact g
    · obtain ⟨m1,m2,m3,m4,m5⟩:=mark_rest s i
      have iv':=(FStep.mark (p:=p) (b:=true) s i).inv iv rm
      have hf:=hits_facts s
      exact undoAll_gi s.hits (s.mark i) pu dx iv'.1 iv'.2 (m5.trans ho) (g.congr m1 m2 m3 m4 m5 fun q=>q.mark iv rm i) hf.1 (by rw [mark_futs]; exact hf.2)
  · exact g
structure RG (p:Prg) (h0:List Ev) (now:Int) (i:Nat) (r:Rn):Prop extends RnIn p r where
  g:GI h0 now r.s [] [] none
  at_:∃ t,r.s.threads[i]? = some t ∧ t.update = r.t.update
variable {i:Nat} {r:Rn}
theorem RG.take (h:RG p h0 now i r):RG p h0 now i r.take.2:=⟨h.toRnIn.take,by rw [take_s]; exact h.g,by rw [take_s,take_t]; exact h.at_⟩
theorem RG.opens (h:RG p h0 now i r) {e:Ev} (hk:e.kind = 3 ∨ e.kind = 4 ∨ e.kind = 5) (hv:∀ id,1 ≤ id → id ≤ 256 → validM { e with id:=id,time:=now } = true):GI h0 now (r.opens e).s [] [] none:=by
  unfold Rn.opens
  split
  · exact h.g.congr rfl rfl rfl rfl rfl fun q=>q.fut _ (fun _=>.inl rfl) (fun n=>absurd rfl n)
  · rename_i hc
    have h18:e.kind ≠ 18:=by omega
    have hcm:cmdM e.kind = true:=by rcases hk with e1 | e1 | e1 <;> rw [e1] <;> rfl
    have hnm:namers.contains e.kind = false:=by rcases hk with e1 | e1 | e1 <;> rw [e1] <;> decide
    have hv':∀ id,1 ≤ id → id ≤ 256 → validM (fix7 { e with id:=id,time:=now }) = true:=fun id a b=>by rw [fix7_ne (by exact h18)]; exact hv id a b
    have hxk:(fix7 (r.s.stamp e)).kind = e.kind:=fix7_kind _
    have hn:namesP (hist h0 r.s) (fix7 (r.s.stamp e)) = true:=names_else (by rw [hxk]; exact hnm) (by rw [hxk]; omega) (by rw [hxk]; omega)
    have em:=h.g.emit (pd':=[]) (pu':=[]) (dx':=none) h.inv h.room h.ho hcm hv' hn (fun _ q=>q.plain _ (by rw [hxk]; exact hnm))
    have k:=h.g.toGT.emit h.inv h.room h.ho hcm hv' hn
    split
    · exact em
    · rename_i hok
      have hok:(r.s.emit e).1.2 = true:=by simpa using hok
      have hid:=idE r.s e hok
      have kp:=keepE r.s e
      have hl:=h.g.len
      have hc0:=h.inv.c0
      have hh:=k.2 hok
      refine em.congr rfl rfl rfl rfl rfl fun q=>q.fut _ (fun n=>?_) fun n=>⟨?_,hk,?_,?_,?_⟩
      · exfalso
        have n:(r.s.emit e).1.1 = 0:=n
        omega
      · show isP _ (r.s.emit e).1.1 e.kind = true
        have:=isP_last (hist h0 r.s) (fix7 (r.s.stamp e))
        rw [hxk] at this
        rw [hid,hh,← hl]; exact this
      · intro ks hks
        refine named_none em.gram hks ?_
        show _ ≤ (r.s.emit e).1.1
        rw [hid,hh,List.length_append,List.length_singleton]
        omega
      · intro j f2 hf2 he
        rw [kp.futures] at hf2
        have he:f2.event = (r.s.emit e).1.1:=he
        rw [hid] at he
        obtain ⟨-,h2,-⟩:=isP_some ((h.g.go h.ho).fe j f2 hf2 (by omega)).1
        omega
      · show (r.s.emit e).2.cancelled r.t.scope = false
        rw [keepE_canc kp.scopes]; simpa using hc
theorem RG.threads (h:RG p h0 now i r) (op a:Int):GI h0 now (r.threads op a).s [] [] none:=by
  have hs:=take_s r
  unfold Rn.threads
  split
  · split
    · rw [hs]; exact h.g
    · split
      · exact GI.fails h.g.toGT h.inv h.room h.ho _ _ _ _
      · exact h.g.congr rfl rfl rfl rfl rfl fun q=>(q.fut ⟨0,0,r.t.scope,false,0,0⟩ (fun _=>.inr rfl) (fun n=>absurd rfl n)).thr _ (fun _ e=>by cases e) (fun n=>absurd rfl n)
  · split
    · split
      · exact h.g
      · split
        · exact GI.fails h.g.toGT h.inv h.room h.ho _ _ _ _
        · exact h.g.congr rfl rfl rfl rfl rfl fun q=>q.scp h.inv h.thr.scope.2
    · split
      · split
        · rw [scope_s]; exact h.g
        · show GI h0 now r.scope.2.s [] [] none
          rw [scope_s]; exact h.g
      · split
        · split
          · rw [scope_s]; exact h.g
          · exact cancels_gi h.g h.inv h.room h.ho _
        · exact h.g
theorem clamp_le (v:Int):0 ≤ clampM v ∧ clampM v ≤ 1048576:=by unfold clampM; omega
theorem RG.command (h:RG p h0 now i r) {op a:Int} (o:OpOk p op a) (ev v:Int) (h5:op = 34 → isP (hist h0 r.s) ev 5 = true):GI h0 now (r.command op a ev v).s [] [] none:=by
  have n0:=h.g.n0
  have hnow:=h.g.tm.nw
  unfold Rn.command
  split
  · exact h.g.congr rfl rfl rfl rfl rfl fun q=>q.congr rfl rfl rfl
  · split
    · rename_i e
      exact h.opens (.inl rfl) fun id a b=>valid_3 ⟨a,b⟩ n0 (o.o20 e)
    · split
      · refine h.opens (.inr (.inl rfl)) fun id a b=>valid_4 ⟨a,b⟩ n0 ?_
        have:=clamp_le v
        rw [wrapi (by omega) (by omega)]
        show (0:Int) ≤ r.s.now + clampM v
        omega
      · split
        · rename_i e
          exact h.opens (.inr (.inr rfl)) fun id a b=>valid_5 ⟨a,b⟩ n0 (o.o22 e)
        · split
          · rename_i e
            have hxk:(fix7 (r.s.stamp (evM 10 a v 0))).kind = 10:=fix7_kind _
            have em:=h.g.emit (pd':=[]) (pu':=[]) (dx':=none) h.inv h.room h.ho (e:=evM 10 a v 0) rfl (fun id h1 h2=>by rw [fix7_ne (by show (10:Int) ≠ 18; decide)]; exact valid_10 ⟨h1,h2⟩ n0 (o.o33 e)) (names_else (by rw [hxk]; decide) (by rw [hxk]; decide) (by rw [hxk]; decide)) (fun _ q=>q.plain _ (by rw [hxk]; decide))
            split
            · exact em.congr rfl rfl rfl rfl rfl fun q=>q.congr rfl rfl rfl
            · exact em
          · split
            · rename_i e
              have hi:=h5 e
              obtain ⟨i1,-,-⟩:=isP_some hi
              have hxk:(fix7 (r.s.stamp (evM 9 ev a v))).kind = 9:=fix7_kind _
              have hxa:(fix7 (r.s.stamp (evM 9 ev a v))).a = ev:=fix7_a _
              exact h.g.emit (pd':=[]) (pu':=[]) (dx':=none) h.inv h.room h.ho (e:=evM 9 ev a v) rfl (fun id h1 h2=>by rw [fix7_ne (by show (9:Int) ≠ 18; decide)]; exact valid_9 ⟨h1,h2⟩ n0 i1 (o.o34 e)) (names_9 hxk (by rw [hxa]; exact hi)) (fun _ q=>q.plain _ (by rw [hxk]; decide))
            · exact h.g
theorem RG.commands (h:RG p h0 now i r) {op a:Int} (o:OpOk p op a):GI h0 now (r.commands op a).s [] [] none:=by
  have n0:=h.g.n0
  have hs:=take_s r
  unfold Rn.commands
  split
  · split
    · exact h.g
    · simp only
      have g1:GI h0 now { r.s with draws:=IntKind.u64.wrap (r.s.draws + 1) } [] [] none:=h.g.congr rfl rfl rfl rfl rfl fun q=>q.congr rfl rfl rfl
      have iv1:=(FStep.draws (p:=p) (b:=true) r.s (IntKind.u64.wrap (r.s.draws + 1))).inv h.inv h.room
      have hxk:(fix7 (({ r.s with draws:=IntKind.u64.wrap (r.s.draws + 1) }:VS).stamp (evM 11 (IntKind.i64.wrap (mix64 r.s.draws)) 0 0))).kind = 11:=fix7_kind _
      have em:=g1.emit (pd':=[]) (pu':=[]) (dx':=none) iv1.1 iv1.2 h.ho (e:=evM 11 (IntKind.i64.wrap (mix64 r.s.draws)) 0 0) rfl (fun id h1 h2=>by rw [fix7_ne (by show (11:Int) ≠ 18; decide)]; exact valid_11 ⟨h1,h2⟩ n0) (names_else (by rw [hxk]; decide) (by rw [hxk]; decide) (by rw [hxk]; decide)) (fun _ q=>q.plain _ (by rw [hxk]; decide))
      split
      · exact em
      · exact em
  · rcases told_cases r op with ⟨h1,h2,h3⟩ | ⟨h1,h2⟩ | ⟨h1,⟨f,hf,hk,he,h2⟩,h3⟩
    · rw [if_pos (by rw [decide_eq_true_iff]; exact h1),h3]
      exact h.g
    · rw [h2]
      rw [if_neg (by show ¬ decide ((0:Int) < 0) = true; decide)]
      split
      · rw [hs]; exact h.g
      · exact h.take.command o _ _ (fun e=>absurd e h1)
    · rw [h2]
      have hev:=(h.inv.futs f hf).1
      rw [if_neg (by rw [decide_eq_true_iff]; show ¬ f.event < 0; omega)]
      split
      · rw [hs]; exact h.g
      · refine h.take.command o _ _ (fun _=>?_)
        rw [hs]
        obtain ⟨j,hj⟩:=List.getElem?_of_mem hf
        have:=((h.g.go h.ho).fe j f hj he).1
        rw [hk] at this; exact this
theorem GI.any {s:VS} {pd:List Nat} {pu:List Ev} (g:GI h0 now s pd pu none) (d:Option Nat):GI h0 now s pd pu d:=⟨g.toGT,fun ho=>(g.go ho).dx d⟩
def thru (i:Nat) (k:Int):Option Nat:=if k = 2 then some i else none
theorem RG.ends (h:RG p h0 now i r) (op:Int):GI h0 now (r.ends op).2.s [] [] (thru i (r.ends op).1):=by
  have n0:=h.g.n0
  have hs:=take_s r
  unfold Rn.ends
  split
  · show GI h0 now r.take.2.s [] [] (thru i 0)
    rw [hs]; exact h.g
  · show GI h0 now (if (op == 35) = true then (r.s.emit (evM 18 r.take.1 0 0)).2 else
      if (r.t.update != 0) = true then (r.s.emit (evM 14 r.t.update r.take.1 (if (op == 37) = true then 1 else 0))).2 else
      if decide (r.t.future ≥ 0) = true then r.s.setDone r.t.future r.take.1 (if (op == 37) = true then 1 else 0) else
      if (op == 36) = true then (r.s.emit (evM 15 r.take.1 0 0)).2 else
      if r.s.cancelled 0 = true then (r.s.emit (evM 17 r.take.1 0 0)).2 else (r.s.emit (evM 16 r.take.1 0 0)).2) [] [] (some i)
    have close:∀ e:Ev,closeM e.kind = true → cmdM e.kind = true → (∀ id,1 ≤ id → id ≤ 256 → validM (fix7 { e with id:=id,time:=now }) = true) → namers.contains e.kind = false → e.kind ≠ 9 → e.kind ≠ 29 → GI h0 now (r.s.emit e).2 [] [] (some i):=fun e hc hk hv hn h9 h29=>by
      have hxk:(fix7 (r.s.stamp e)).kind = e.kind:=fix7_kind _
      exact h.g.emit h.inv h.room h.ho hk hv (names_else (by rw [hxk]; exact hn) (by rw [hxk]; exact h9) (by rw [hxk]; exact h29)) (fun q=>by rw [hc] at q; cases q)
    split
    · exact close _ rfl rfl (fun id h1 h2=>by show validM ⟨id,now,18,_,7,0,0,0,0⟩ = true; exact valid_18 ⟨h1,h2⟩ n0) (by show namers.contains 18 = false; decide) (by show (18:Int) ≠ 9; decide) (by show (18:Int) ≠ 29; decide)
    · split
      · rename_i hu
        have hu:r.t.update ≠ 0:=by simpa using hu
        obtain ⟨t,ht,hte⟩:=h.at_
        have go:=h.g.go h.ho
        obtain ⟨a1,a2,a3⟩:=go.ta i t ht (by rw [hte]; exact hu)
        rw [hte] at a1 a2 a3
        have a3:=a3 (by simp)
        obtain ⟨i1,-,-⟩:=isP_some a1
        have hc:(if (op == 37) = true then (1:Int) else 0) = 0 ∨ (if (op == 37) = true then (1:Int) else 0) = 1:=by split <;> simp
        generalize (if (op == 37) = true then (1:Int) else 0) = c at hc
        have hxk:(fix7 (r.s.stamp (evM 14 r.t.update r.take.1 c))).kind = 14:=fix7_kind _
        have hxa:(fix7 (r.s.stamp (evM 14 r.t.update r.take.1 c))).a = r.t.update:=fix7_a _
        refine h.g.emit h.inv h.room h.ho (e:=evM 14 r.t.update r.take.1 c) rfl (fun id h1 h2=>by rw [fix7_ne (by show (14:Int) ≠ 18; decide)]; exact valid_14 ⟨h1,h2⟩ n0 i1 hc) (names_14 hxk (by rw [hxa]; exact a1) (by rw [hxa]; exact a2) (by rw [hxa]; exact a3)) (fun _ q=>?_)
        refine q.snoc _ (fun _ _ _ _ _ _ q=>absurd q (by rw [hxk]; decide)) (fun _ _ _ _ _ _ q=>absurd q (by rw [hxk]; decide)) (fun _ _ _ _ _ _ q=>absurd q (by rw [hxk]; decide)) (fun _ _ _ _ _ _ _ q=>absurd q (by rw [hxk]; decide)) (fun _ h=>h) q.fz (fun _ h=>h) q.ud (fun _ _ q=>absurd q (by rw [hxk]; decide)) (fun _ _=>by simp) (fun j t' ht' hn' hj _ he=>?_)
        rw [hxa,← hte] at he
        have:=q.tu i j t t' ht ht' he (by rw [hte]; exact hu)
        exact hj (by rw [this])
      · split
        · obtain ⟨q1,q2,q3,q4,q5,q6,q7⟩:=setDone_rest r.s r.t.future r.take.1 (if (op == 37) = true then 1 else 0)
          exact h.g.congr q3 q4 q5 q6 q7 fun q=>(q.done _ _ _).dx _
        · split
          · exact close _ rfl rfl (fun id h1 h2=>by rw [fix7_ne (by show (15:Int) ≠ 18; decide)]; exact valid_15 ⟨h1,h2⟩ n0) (by show namers.contains 15 = false; decide) (by show (15:Int) ≠ 9; decide) (by show (15:Int) ≠ 29; decide)
          · split
            · exact close _ rfl rfl (fun id h1 h2=>by rw [fix7_ne (by show (17:Int) ≠ 18; decide)]; exact valid_17 ⟨h1,h2⟩ n0) (by show namers.contains 17 = false; decide) (by show (17:Int) ≠ 9; decide) (by show (17:Int) ≠ 29; decide)
            · exact close _ rfl rfl (fun id h1 h2=>by rw [fix7_ne (by show (16:Int) ≠ 18; decide)]; exact valid_fail ⟨h1,h2⟩ n0) (by show namers.contains 16 = false; decide) (by show (16:Int) ≠ 9; decide) (by show (16:Int) ≠ 29; decide)
theorem RG.awaits (h:RG p h0 now i r) (op:Int):GI h0 now (r.awaits op).2.s [] [] none:=by
  have hs:=take_s r
  unfold Rn.awaits
  rcases asked_cases r 0 with e | ⟨v,e,h0',h1⟩
  · rw [e,if_pos (by show decide ((-1:Int) < 0) = true; decide)]; exact h.g
  · rw [e,if_neg (by rw [decide_eq_true_iff]; show ¬ v < 0; omega)]
    split
    · split
      · exact h.g
      · split
        · show GI h0 now r.take.2.s [] [] none; rw [hs]; exact h.g
        · show GI h0 now r.take.2.s [] [] none; rw [hs]; exact h.g
    · exact h.g
theorem RG.waitS (h:RG p h0 now i r) (a:Int):GI h0 now (r.waitS a).2.s [] [] none:=by
  unfold Rn.waitS
  split
  · exact h.g
  · split
    · exact h.g
    · exact h.g.congr rfl rfl rfl rfl rfl fun q=>q.congr rfl rfl rfl
theorem RG.does (h:RG p h0 now i r) {op a:Int} (o:OpOk p op a):GI h0 now (r.does op a).2.s [] [] (thru i (r.does op a).1):=by
  unfold Rn.does
  split
  · exact (h.awaits op).any _
  · split
    · exact (h.waitS a).any _
    · split
      · exact h.ends op
      · split
        · exact h.g.any _
        · split
          · exact (h.threads op a).any _
          · exact (h.commands o).any _
end
end Go.Proofs.Ytjmdoiakcakfoaa
set_option maxRecDepth 100000
namespace Go.Proofs.Ytjmdoiakcakfoaa
open Go.Ax
section
variable {h0:List Ev} {now:Int} {p:Prg}
theorem instr_gi (ok : Okp p) {s : VS} {i : Nat} {t : Thr} (ht : s.threads[i]? = some t) (iv : Inv p s) (rm : Room s) (ho : s.over = false) (sk : (s.futures.length : Int) + s.fuel + 1 ≤ 1000 * s.count) (g : GI h0 now s [] [] none) :
    GI h0 now (s.instruction p i).2 [] [] (thru i (s.instruction p i).1):=by
  have hT:=iv.thr t (List.mem_of_getElem? ht)
  have af:=run_after ok ht iv rm ho sk
  have hin:RG p h0 now i ⟨s,t.wake,false⟩:=⟨⟨⟨iv,rm,ho,wake_thr hT⟩,sk⟩,g,t,ht,rfl⟩
  obtain ⟨j,k,f,c,a,st⟩:=stands hT
  have key:GI h0 now (s.run p i).2.s [] [] (thru i (s.run p i).1) ∧ (s.run p i).2.t.update = t.update:=by
    rw [run_eq_ ht,st.op]
    split
    · refine ⟨?_,fix_update.pure_ _ _ _⟩
      show GI h0 now ((⟨s,t.wake,false⟩:Rn).pure_ c a).s [] [] (thru i 0)
      rw [pure_s]; exact g
    · exact ⟨hin.does (opOk ok st.fn st.o),fix_update.does _ _ _⟩
  unfold VS.instruction
  split
  · rename_i hf
    have iv2:=af.steps.inv iv rm
    exact GI.fails key.1.toGT iv2.1 iv2.2 (af.fault hf) _ _ _ _
  · obtain ⟨l,hl⟩:=af.steps.threads
    have hl:(s.run p i).2.s.threads = s.threads ++ l:=hl
    have hti:(s.run p i).2.s.threads[i]? = some t:=by rw [hl,List.getElem?_append_left (get_lt ht)]; exact ht
    exact key.1.congr rfl rfl rfl rfl rfl fun q=>q.set hti key.2
theorem stepsG_gi (ok:Okp p) (i:Nat):∀ (n:Nat) (s:VS),s.fuel = n → Inv p s → Room s → i < s.threads.length → GI h0 now s [] [] none → GI h0 now (VS.stepsG p i n s).2 [] [] (thru i (VS.stepsG p i n s).1)
  | 0,s,hf,iv,rm,hi,g=>by
    rw [stepsG_eq]
    split
    · exact g
    · rename_i ho
      exact GI.fails g.toGT iv rm (by simpa using ho) _ _ _ _
  | n + 1,s,hf,iv,rm,hi,g=>by
    rw [stepsG_eq]
    split
    · exact g
    · rename_i ho
      have ho:s.over = false:=by simpa using ho
      obtain ⟨st,iv1,rm1,sk⟩:=fuel_step iv rm hf
      obtain ⟨t,ht⟩:=get_some hi
      have ht1:(s.fuelAt n).threads[i]? = some t:=ht
      have st2:=st.one.trans (instr_steps ok ht1 iv1 rm1 ho sk)
      have tl:=instr_threads ok ht1 iv1 rm1 ho sk
      have tl:s.threads.length ≤ ((s.fuelAt n).instruction p i).2.threads.length:=tl
      have fl:=instr_fuel ok ht1 iv1 rm1 ho sk
      have fl:((s.fuelAt n).instruction p i).2.fuel = n:=fl
      have g1:GI h0 now (s.fuelAt n) [] [] none:=g.congr rfl rfl rfl rfl rfl fun q=>q.congr rfl rfl rfl
      have g2:=instr_gi ok ht1 iv1 rm1 ho sk g1
      simp only
      split
      · exact g2
      · rename_i hk
        have hk:((s.fuelAt n).instruction p i).1 = 0:=by simpa using hk
        have iv2:=st2.inv iv rm
        rw [hk] at g2
        exact stepsG_gi ok i n _ fl iv2.1 iv2.2 (by omega) g2
theorem steps_gi (ok:Okp p) {i:Nat} {s:VS} (iv:Inv p s) (rm:Room s) (hi:i < s.threads.length) (g:GI h0 now s [] [] none):GI h0 now (s.steps p i).2 [] [] (thru i (s.steps p i).1) :=
  stepsG_gi ok i _ s (by have:=iv.fuel; omega) iv rm hi g
theorem pass_gi (ok:Okp p):∀ (g:Nat) (s:VS) (i:Nat) (went:Bool),Inv p s → Room s → GI h0 now s [] [] none → GI h0 now (passG p g s i went) [] [] none
  | 0,s,i,went,_,_,gi=>gi
  | g + 1,s,i,went,iv,rm,gi=>by
    cases ht:s.threads[i]? with
    | none =>
      rw [pass_none ht]
      split
      · exact gi
      · exact pass_gi ok g s 0 false iv rm gi
    | some t =>
      have hil:=get_lt ht
      rw [pass_some ht]
      split
      · exact gi
      · split
        · exact pass_gi ok g s (i + 1) went iv rm gi
        · have ss:=steps_steps ok iv rm hil
          have iv1:=ss.1.inv iv rm
          have g1:=steps_gi ok iv rm hil gi
          split
          · rename_i hk
            simp only [Bool.and_eq_true,beq_iff_eq] at hk
            have he:=(FStep.erase (p:=p) (b:=true) (s.steps p i).2 i rfl).inv iv1.1 iv1.2
            rw [hk.1] at g1
            exact pass_gi ok g _ i true he.1 he.2 (g1.congr rfl rfl rfl rfl rfl fun q=>q.erase)
          · rename_i hk
            refine pass_gi ok g _ (i + 1) true iv1.1 iv1.2 ?_
            cases ho:(s.steps p i).2.over with
            | true=>exact .shut g1.toGT ho _ _ _
            | false =>
              have:(s.steps p i).1 ≠ 2:=fun e=>hk (by rw [e,ho]; rfl)
              unfold thru at g1
              rw [if_neg this] at g1
              exact g1
theorem admit2_gi {s:VS} {u:Ev} {pu:List Ev} (iv:Inv p s) (rm:Room s) (ho:s.over = false) (g:GI h0 now s [] (u :: pu) none) (fn:Int):GI h0 now (s.admit2 fn u) [] pu none:=by
  have n0:=g.n0
  have go:=g.go ho
  obtain ⟨u1,u2⟩:=go.ua u (List.mem_cons_self ..)
  obtain ⟨i1,-,-⟩:=isP_some u1
  have hud:=List.pairwise_cons.1 go.ud
  unfold VS.admit2
  split
  · exact GI.fails g.toGT iv rm ho _ _ _ _
  · have hxk:(fix7 (s.stamp (evM 12 u.id 0 0))).kind = 12:=fix7_kind _
    have hxa:(fix7 (s.stamp (evM 12 u.id 0 0))).a = u.id:=fix7_a _
    have hv:∀ id,1 ≤ id → id ≤ 256 → validM (fix7 { (evM 12 u.id 0 0) with id:=id,time:=now }) = true:=fun id h1 h2=>by rw [fix7_ne (by show (12:Int) ≠ 18; decide)]; exact valid_12 ⟨h1,h2⟩ n0 i1
    have hn:namesP (hist h0 s) (fix7 (s.stamp (evM 12 u.id 0 0))) = true:=names_12 (.inl hxk) (by rw [hxa]; exact u1) (by rw [hxa]; exact u2)
    have em:=g.emit (pd':=[]) (pu':=pu) (dx':=none) iv rm ho (e:=evM 12 u.id 0 0) rfl hv hn (fun _ q=>q.snoc _ (fun _ _ _ _ _ _ q=>absurd q (by rw [hxk]; decide)) (fun _ _ _ _ _ _ q=>absurd q (by rw [hxk]; decide)) (fun _ _ _ _ _ _ q=>absurd q (by rw [hxk]; decide)) (fun _ _ _ _ _ _ _ q=>absurd q (by rw [hxk]; decide)) (fun _ h=>h) q.fz (fun v hv=>List.mem_cons_of_mem _ hv) hud.2 (fun v hv _ he=>by rw [hxa] at he; exact hud.1 v hv he) (fun _ h=>h) (fun _ _ _ _ _ q=>absurd q (by rw [hxk]; decide)))
    have k:=g.toGT.emit iv rm ho (e:=evM 12 u.id 0 0) rfl hv hn
    split
    · rename_i hok
      have hh:=k.2 hok
      have kp:=keepE s (evM 12 u.id 0 0)
      refine em.congr rfl rfl rfl rfl rfl fun q=>q.thr _ (fun _ e=>by cases e) fun _=>?_
      show isP (hist h0 (s.emit (evM 12 u.id 0 0)).2) u.id 21 = true ∧ anyP (hist h0 (s.emit (evM 12 u.id 0 0)).2) u.id [12] = true ∧ anyP (hist h0 (s.emit (evM 12 u.id 0 0)).2) u.id [14] = false ∧ ∀ (j:Nat) (v:Thr),(s.emit (evM 12 u.id 0 0)).2.threads[j]? = some v → v.update ≠ u.id
      rw [hh]
      refine ⟨isP_mono u1 _,?_,?_,fun j v hv2 he=>?_⟩
      · rw [anyP_snoc,hxk,hxa]; simp
      · refine any_snoc_no ?_ (fun q=>absurd q (by rw [hxk]; decide))
        cases h14:anyP (hist h0 s) u.id [14] with
        | false=>rfl
        | true =>
          have:=answered_accepted g.gram h14
          rw [any_sub (ks:=[12]) (ls:=[12,13]) (fun k q=>by simp at q ⊢; omega) u2] at this; cases this
      · rw [kp.threads] at hv2
        obtain ⟨-,b2,-⟩:=go.ta j v hv2 (by omega)
        rw [he,any_sub (ks:=[12]) (ls:=[12,13]) (fun k q=>by simp at q ⊢; omega) u2] at b2; cases b2
    · exact em
theorem reject_gi {s:VS} {u:Ev} {pu:List Ev} (iv:Inv p s) (rm:Room s) (ho:s.over = false) (g:GI h0 now s [] (u :: pu) none) (b:Int):GI h0 now (s.emit (evM 13 u.id b 0)).2 [] pu none:=by
  have n0:=g.n0
  have go:=g.go ho
  obtain ⟨u1,u2⟩:=go.ua u (List.mem_cons_self ..)
  obtain ⟨i1,-,-⟩:=isP_some u1
  have hud:=List.pairwise_cons.1 go.ud
  have hxk:(fix7 (s.stamp (evM 13 u.id b 0))).kind = 13:=fix7_kind _
  have hxa:(fix7 (s.stamp (evM 13 u.id b 0))).a = u.id:=fix7_a _
  exact g.emit iv rm ho (e:=evM 13 u.id b 0) rfl (fun id h1 h2=>by rw [fix7_ne (by show (13:Int) ≠ 18; decide)]; exact valid_13 ⟨h1,h2⟩ n0 i1) (names_12 (.inr hxk) (by rw [hxa]; exact u1) (by rw [hxa]; exact u2))
    (fun _ q=>q.snoc _ (fun _ _ _ _ _ _ q=>absurd q (by rw [hxk]; decide)) (fun _ _ _ _ _ _ q=>absurd q (by rw [hxk]; decide)) (fun _ _ _ _ _ _ q=>absurd q (by rw [hxk]; decide)) (fun _ _ _ _ _ _ _ q=>absurd q (by rw [hxk]; decide)) (fun _ h=>h) q.fz (fun v hv=>List.mem_cons_of_mem _ hv) hud.2 (fun v hv _ he=>by rw [hxa] at he; exact hud.1 v hv he) (fun _ h=>h) (fun _ _ _ _ _ q=>absurd q (by rw [hxk]; decide)))
theorem admits_gi {s:VS} {u:Ev} {pu:List Ev} (iv:Inv p s) (rm:Room s) (ho:s.over = false) (g:GI h0 now s [] (u :: pu) none):GI h0 now (s.admits p u) [] pu none:=by
  unfold VS.admits
  split
  · exact reject_gi iv rm ho g _
  · split
    · have hfu:=iv.fuel
      have hl:=purelyG_left p (p.find 4 u.a) s.fuel.toNat ⟨s,⟨p.find 4 u.a,0,0,[],u.b,0,0,0,0⟩,false⟩
      have hl:(s.purely p (p.find 4 u.a) u.b s.fuel.toNat).2.2 ≤ s.fuel.toNat:=hl
      have st:FStep p true s { s with fuel:=((s.purely p (p.find 4 u.a) u.b s.fuel.toNat).2.2:Int) }:=.fuel s _ rfl ⟨by omega,by omega⟩
      have iv1:=st.inv iv rm
      have g1:GI h0 now { s with fuel:=((s.purely p (p.find 4 u.a) u.b s.fuel.toNat).2.2:Int) } [] (u :: pu) none:=g.congr rfl rfl rfl rfl rfl fun q=>q.congr rfl rfl rfl
      exact ite_V (P:=fun z=>GI h0 now z [] pu none) (GI.fails g1.toGT iv1.1 iv1.2 ho _ _ _ _) (ite_V (P:=fun z=>GI h0 now z [] pu none) (reject_gi iv1.1 iv1.2 ho g1 _) (admit2_gi iv1.1 iv1.2 ho g1 _))
    · exact admit2_gi iv rm ho g _
theorem admitAll_gi (ok:Okp p):∀ (l:List Ev) (s:VS),Inv p s → Room s → (∀ u ∈ l,0 ≤ u.id) → GI h0 now s [] l none → GI h0 now (admitAll p l s) [] [] none
  | [],s,_,_,_,g=>g
  | u :: l,s,iv,rm,hid,g=>by
    rw [admitAll]
    split
    · rename_i ho
      have ho:s.over = false:=by simpa using ho
      have iv1:=(admits_steps ok iv rm ho (hid u (List.mem_cons_self ..))).inv iv rm
      exact admitAll_gi ok l _ iv1.1 iv1.2 (fun v hv=>hid v (List.mem_cons_of_mem _ hv)) (admits_gi iv rm ho g)
    · rename_i ho
      have ho:s.over = true:=by simpa using ho
      exact admitAll_gi ok l s iv rm (fun v hv=>hid v (List.mem_cons_of_mem _ hv)) (.shut g.toGT ho _ _ _)
end
structure BI (h:List Ev) (now:Int) (s:VS):Prop where
  x:s.expect = none
  c:s.count = h.length
  fixd:h.map fix7 = h
  gram:Gram h
  shut:h ≠ [] → s.over = closeM (lastP h).kind
  time:h ≠ [] → (lastP h).time ≤ now
  n0:0 ≤ now ∧ now ≤ 1099511627776
  go:s.over = false → GO h s [] s.updates none
theorem BI.later {h:List Ev} {now now':Int} {s:VS} (b:BI h now s) (h1:now ≤ now') (h2:now' ≤ 1099511627776):BI h now' s :=
  ⟨b.x,b.c,b.fixd,b.gram,b.shut,fun e=>Int.le_trans (b.time e) h1,⟨Int.le_trans b.n0.1 h1,h2⟩,b.go⟩
section
variable {p:Prg}
theorem begin_gi {h:List Ev} {now:Int} {s:VS} (b:BI h now s) (tk:s.taskE now = 0):GI h now (s.begin_ now) [] s.updates none:=by
  obtain ⟨ho,hc,h254,n1,n2⟩:=taskE_ok tk
  have tm:=begin_tm b.x ho now
  rw [b.c] at tm
  have hne:h ≠ []:=fun e=>hc (by rw [b.c,e]; rfl)
  have hcl:=b.c
  have hpos:0 < h.length:=List.length_pos_iff.2 hne
  have hcls:closeM (lastP h).kind = false:=by rw [← b.shut hne]; exact ho
  have hh:hist h (s.begin_ now) = h ++ [⟨s.count + 1,now,2,s.count,0,0,0,0,0⟩]:=rfl
  refine ⟨⟨tm,b.n0,?_⟩,fun _=>?_⟩
  · rw [hh]
    refine gram_snoc b.gram (may_of hne (valid_2 ⟨by omega,by omega⟩ b.n0 (by omega)) (by show s.count + 1 = _; omega) (by show (2:Int) ≠ 1; decide) (b.time hne) hcls (fun _=>hcl) (fun e=>by cases e) (names_else (by show namers.contains 2 = false; decide) (by show (2:Int) ≠ 9; decide) (by show (2:Int) ≠ 29; decide)))
  · rw [hh]
    exact ((b.go ho).plain _ (by show namers.contains 2 = false; decide)).congr rfl rfl rfl
theorem task_bi (ok:Okp p) {h:List Ev} {now:Int} {s:VS} (b:BI h now s) (iv:Inv p s) (tk:s.taskE now = 0) (draw:Int):BI ((h ++ (s.Task p now draw).1.1).map fix7) now (s.Task p now draw).2:=by
  have e:=Task_eq s p now draw
  rw [if_neg (by rw [tk]; simp)] at e
  have b1:BI h now (s.ready_ draw):=⟨rfl,b.c,b.fixd,b.gram,b.shut,b.time,b.n0,fun ho=>(b.go ho).congr rfl rfl rfl⟩
  have iv1:=ready_inv iv draw
  have tks:=ready_tasks tk draw
  have g0:=begin_gi b1 tk
  have h0:=begin_inv iv1 tks now
  have g1:GI h now ((s.ready_ draw).opened now) [] (s.ready_ draw).updates none:=by
    unfold VS.opened
    split
    · exact cancels_gi g0 h0.1 h0.2 tks.ho 0
    · exact g0
  have s1:=opened_steps (p:=p) tks.ho now
  have h1:=s1.inv h0.1 h0.2
  have g2:=admitAll_gi ok (s.ready_ draw).updates _ h1.1 h1.2 iv1.updI g1
  have s2:=admitAll_steps ok (s.ready_ draw).updates _ h1.1 h1.2 iv1.updI
  have h2:=s2.inv h1.1 h1.2
  have g3:=pass_gi ok passGas _ 0 false h2.1 h2.2 g2
  have st:=task_steps ok iv1 tks now
  rw [e]
  have hm:(h ++ ((s.ready_ draw).task p now).made).map fix7 = hist h ((s.ready_ draw).task p now):=by unfold hist; rw [List.map_append,b.fixd]
  show BI ((h ++ ((s.ready_ draw).task p now).made).map fix7) now ((s.ready_ draw).task p now)
  rw [hm]
  have g3:GI h now ((s.ready_ draw).task p now) [] [] none:=g3
  have hup:((s.ready_ draw).task p now).updates = []:=st.stay.updates
  refine ⟨g3.tm.x,g3.len.symm,?_,g3.gram,fun _=>?_,fun _=>?_,b.n0,fun ho=>by rw [hup]; exact g3.go ho⟩
  · have idem : ∀ l : List Ev, (l.map fix7).map fix7 = l.map fix7 := fun l => by
      rw [List.map_map]
      apply List.map_congr_left
      intro x _
      show fix7 (fix7 x) = fix7 x
      unfold fix7
      by_cases hk:x.kind = 18
      · rw [if_pos hk,if_pos (by exact hk)]
      · rw [if_neg hk,if_neg hk]
    unfold hist; rw [List.map_append,b.fixd,idem]
  · cases ho:((s.ready_ draw).task p now).over with
    | false=>exact (g3.last.2.2.2 ho).symm
    | true =>
      obtain ⟨x,hx,hc,-⟩:=g3.tm.shut ho
      obtain ⟨y,l,hy,hhy⟩:=g3.lastEv
      rw [hy] at hx
      have:y = x:=by simpa using hx
      subst this
      rw [hhy,lastP_snoc,fix7_kind]; exact hc.symm
  · rw [g3.last.2.1]; exact Int.le_refl _
theorem future_at {H:List Ev} {s:VS} {pd:List Nat} {pu:List Ev} {dx:Option Nat} (g:GO H s pd pu dx) {j:Nat} {f:Fut} (hf:s.futures[j]? = some f) (hn:f.event ≠ 0):s.future f.event = j:=by
  unfold VS.future
  have hit:∀ (k:Nat) (v:Int),s.futHit f.event k = some v → k = j ∧ v = k:=fun k v h=>by
    unfold VS.futHit at h
    split at h
    · rename_i f2 hf2
      split at h
      · rename_i hx
        simp at hx
        cases h
        exact ⟨g.fu k j f2 f hf2 hf hx.2 hx.1,rfl⟩
      · cases h
    · cases h
  have hj:s.futHit f.event j = some (j:Int):=by
    unfold VS.futHit; rw [hf]; simp [hn]
  rw [scan_hit (get_lt hf) (fun k hk=>?_) hj]
  cases e:s.futHit f.event k with
  | none=>rfl
  | some v=>have:=(hit k v e).1; omega
theorem GO.settle {H:List Ev} {s:VS} {pu:List Ev} (g:GO H s [] pu none) (x:Ev) (h12:x.kind ≠ 12) (h13:x.kind ≠ 13) (h14:x.kind ≠ 14) (v k:Int):GO (H ++ [x]) (s.setDone (s.future x.a) v k) [] pu none:=by
  have go1:=g.done (s.future x.a) v k
  have hno:∀ (j:Nat) (f':Fut),(s.setDone (s.future x.a) v k).futures[j]? = some f' → f'.event ≠ 0 → f'.done = false → x.a ≠ f'.event:=fun j f' hf' he' hd' he=>by
    have hl:=get_lt hf'
    rw [setDone_len] at hl
    obtain ⟨f,hf⟩:=get_some hl
    have key:f.event = f'.event ∧ (f.done = false → False):=by
      rcases setDone_cases s (s.future x.a) v k with e | ⟨f0,hf0,hp0,hd0,e⟩
      · rw [e,hf] at hf'; cases hf'
        refine ⟨rfl,fun hd=>?_⟩
        rw [he,future_at g hf he',setDone_at hf hd] at e
        have e2:=congrArg (fun z:VS=>z.futures[j]?) e
        have e2:(s.futures.set j (f'.end_ v k))[j]? = s.futures[j]?:=e2
        rw [List.getElem?_set,if_pos rfl,if_pos (get_lt hf),hf] at e2
        have e2:f'.end_ v k = f':=by injection e2
        rw [← e2] at hd; cases hd
      · rw [e] at hf'
        have hf':(s.futures.set (s.future x.a).toNat (f0.end_ v k))[j]? = some f':=hf'
        rw [List.getElem?_set] at hf'
        by_cases hj:(s.future x.a).toNat = j
        · subst hj
          rw [if_pos rfl,if_pos (get_lt hf0)] at hf'
          cases hf'; cases hd'
        · rw [if_neg hj,hf] at hf'
          cases hf'
          refine ⟨rfl,fun _=>hj ?_⟩
          rw [he,future_at g hf he']; rfl
    have hfd:f.done = false:=by
      rcases setDone_cases s (s.future x.a) v k with e | ⟨f0,hf0,hp0,hd0,e⟩
      · rw [e,hf] at hf'; cases hf'; exact hd'
      · rw [e] at hf'
        have hf':(s.futures.set (s.future x.a).toNat (f0.end_ v k))[j]? = some f':=hf'
        rw [List.getElem?_set] at hf'
        by_cases hj:(s.future x.a).toNat = j
        · subst hj
          rw [if_pos rfl,if_pos (get_lt hf0)] at hf'
          cases hf'; cases hd'
        · rw [if_neg hj,hf] at hf'
          cases hf'; exact hd'
    exact key.2 hfd
  refine go1.snoc x (fun j f' hf' he' hd' _ _=>hno j f' hf' he' hd') (fun j f' hf' he' hd' _ _=>hno j f' hf' he' hd') (fun j f' hf' he' hd' _ _=>hno j f' hf' he' hd') (fun j f' hf' he' hd' _ _ _=>hno j f' hf' he' hd') (fun _ h=>h) go1.fz (fun _ h=>h) go1.ud (fun _ _ q=>?_) (fun _ h=>h) (fun _ _ _ _ _ q=>?_)
  · simp at q; omega
  · simp at q; omega
theorem apply_bi {h:List Ev} {now:Int} {s:VS} (b:BI h now s) {e:Ev} (ht:e.time = now) (hr:s.refuses e = false) (ho:s.over = false) (hg:Gram (h ++ [e])):BI (h ++ [e]) now (s.counted.applied e):=by
  have tk:=taken hr
  have go:=b.go ho
  have gc:GO h s.counted [] s.updates none:=go.congr rfl rfl rfl
  have m:mayP h e = true:=by
    have:=hg h.length e (by simp)
    rw [List.take_left] at this; exact this
  have hcnt:=b.c
  have hid:=tk.id
  have hout:=tk.out
  have hk:e.kind = 1 ∨ e.kind = 16 ∨ 19 ≤ e.kind:=by
    unfold outsideM at hout
    split at hout
    · rename_i q; right; left; simpa using q
    · simp at hout; omega
  have h18:e.kind ≠ 18:=by omega
  have ap:=applied_count s.counted e
  have base:∀ s':VS,s' = s.counted.applied e → (s'.over = false → GO (h ++ [e]) s' [] s'.updates none) → (s'.over = closeM e.kind) → BI (h ++ [e]) now s':=fun s' hs' g1 g2=>by
    subst hs'
    refine ⟨by rw [ap.2]; exact b.x,by rw [ap.1,List.length_append,List.length_singleton]; show s.count + 1 = _; omega,?_,hg,fun _=>by rw [lastP_snoc]; exact g2,fun _=>by rw [lastP_snoc,ht]; exact Int.le_refl _,b.n0,g1⟩
    rw [List.map_append,b.fixd]
    show h ++ [fix7 e] = _
    rw [fix7_ne h18]
  have settle:∀ v k,s.counted.applied e = s.counted.setDone (s.counted.future e.a) v k → closeM e.kind = false → 19 ≤ e.kind → BI (h ++ [e]) now (s.counted.applied e):=fun v k he hc h19=>by
    refine base _ rfl (fun _=>?_) ?_
    · rw [he]
      have hu:(s.counted.setDone (s.counted.future e.a) v k).updates = s.updates:=by rcases setDone_cases s.counted (s.counted.future e.a) v k with q | ⟨f,_,_,_,q⟩ <;> rw [q] <;> rfl
      rw [hu]
      exact gc.settle e (by omega) (by omega) (by omega) v k
    · rw [he,setDone_over,hc]; exact ho
  by_cases h1:e.kind = 1
  · have he:s.counted.applied e = { s.counted with threads:=[Thr.new 0 0 e.b (-1) 0] }:=by unfold VS.applied; rw [if_pos h1]
    refine base _ rfl (fun _=>?_) (by rw [he,h1]; exact ho)
    rw [he]
    have g1:=gc.plain e (by rw [h1]; decide)
    have z:∀ (i:Nat) (t:Thr),[Thr.new 0 0 e.b (-1) 0][i]? = some t → t.update = 0:=fun i t hi=>by
      cases i with
      | zero=>cases hi; rfl
      | succ i=>cases hi
    have cc:=keepE_canc (s:=s.counted) (s':={ s.counted with threads:=[Thr.new 0 0 e.b (-1) 0] }) rfl
    exact ⟨g1.fe,g1.f0,g1.fu,g1.f3,g1.f4,g1.f5,by simp only [cc]; exact g1.f8,by simp only [cc]; exact g1.fz,g1.ua,g1.ud,fun i t hi hn=>absurd (z i t hi) hn,fun i j t u hi _ _ hn=>absurd (z i t hi) hn⟩
  by_cases h19:e.kind = 19
  · have he:s.counted.applied e = s.counted.signal e.a e.b:=by unfold VS.applied; rw [if_neg h1,if_pos h19]
    refine base _ rfl (fun _=>?_) (by rw [he,h19]; exact ho)
    rw [he]
    exact (gc.plain e (by rw [h19]; decide)).congr rfl rfl rfl
  by_cases h20:e.kind = 20
  · have he:s.counted.applied e = { s.counted with cancel:=true }:=by unfold VS.applied; rw [if_neg h1,if_neg h19,if_pos h20]
    refine base _ rfl (fun _=>?_) (by rw [he,h20]; exact ho)
    rw [he]
    exact (gc.plain e (by rw [h20]; decide)).congr rfl rfl rfl
  by_cases h21:e.kind = 21
  · have he:s.counted.applied e = { s.counted with updates:=s.updates ++ [e] }:=by unfold VS.applied; rw [if_neg h1,if_neg h19,if_neg h20,if_pos h21]; rfl
    refine base _ rfl (fun _=>?_) (by rw [he,h21]; exact ho)
    rw [he]
    have g1:=(gc.plain e (by rw [h21]; decide))
    have hn:∀ ks:List Int,(∀ k,ks.contains k = true → namers.contains k = true) → anyP (h ++ [e]) e.id ks = false:=fun ks hks=>named_none hg hks (by rw [List.length_append,List.length_singleton]; omega)
    have cc:=keepE_canc (s:=s.counted) (s':={ s.counted with updates:=s.updates ++ [e] }) rfl
    refine ⟨g1.fe,g1.f0,g1.fu,g1.f3,g1.f4,g1.f5,by simp only [cc]; exact g1.f8,by simp only [cc]; exact g1.fz,fun u hu=>?_,?_,g1.ta,g1.tu⟩
    · rcases List.mem_append.1 hu with hu | hu
      · exact g1.ua u hu
      · rw [List.mem_singleton] at hu; subst hu
        have:=isP_last h u
        rw [h21] at this
        refine ⟨by rw [hid,hcnt]; exact this,hn _ fun k q=>?_⟩
        simp [namers] at q ⊢; omega
    · show (s.updates ++ [e]).Pairwise _
      rw [List.pairwise_append]
      refine ⟨g1.ud,List.pairwise_singleton _ _,fun u hu v hv=>?_⟩
      rw [List.mem_singleton] at hv; subst hv
      obtain ⟨-,i2,-⟩:=isP_some (go.ua u hu).1
      omega
  by_cases h22:e.kind = 22
  · exact settle e.b 0 (by unfold VS.applied; rw [if_neg h1,if_neg h19,if_neg h20,if_neg h21,if_pos h22]) (by rw [h22]; rfl) (by omega)
  by_cases h23:e.kind = 23 ∨ e.kind = 27
  · exact settle e.b 1 (by unfold VS.applied; rw [if_neg h1,if_neg h19,if_neg h20,if_neg h21,if_neg h22,if_pos h23]) (by rcases h23 with q | q <;> rw [q] <;> rfl) (by omega)
  by_cases h24:e.kind = 24
  · exact settle e.b 2 (by unfold VS.applied; rw [if_neg h1,if_neg h19,if_neg h20,if_neg h21,if_neg h22,if_neg h23,if_pos h24]) (by rw [h24]; rfl) (by omega)
  by_cases h25:e.kind = 25
  · exact settle 0 0 (by unfold VS.applied; rw [if_neg h1,if_neg h19,if_neg h20,if_neg h21,if_neg h22,if_neg h23,if_neg h24,if_pos h25]) (by rw [h25]; rfl) (by omega)
  by_cases h28:e.kind = 28
  · exact settle e.b e.c (by unfold VS.applied; rw [if_neg h1,if_neg h19,if_neg h20,if_neg h21,if_neg h22,if_neg h23,if_neg h24,if_neg h25,if_pos h28]) (by rw [h28]; rfl) (by omega)
  by_cases h16:e.kind = 16 ∨ e.kind = 30 ∨ e.kind = 31
  · have he:s.counted.applied e = { s.counted with over:=true }:=by unfold VS.applied; rw [if_neg h1,if_neg h19,if_neg h20,if_neg h21,if_neg h22,if_neg h23,if_neg h24,if_neg h25,if_neg h28,if_pos h16]
    refine base _ rfl (fun q=>by rw [he] at q; cases q) (by rw [he]; rcases h16 with q | q | q <;> rw [q] <;> rfl)
  · have he:s.counted.applied e = s.counted:=by unfold VS.applied; rw [if_neg h1,if_neg h19,if_neg h20,if_neg h21,if_neg h22,if_neg h23,if_neg h24,if_neg h25,if_neg h28,if_neg h16]
    have hval:=(may_head m).1
    have hk31:e.kind = 26 ∨ e.kind = 29:=by
      have h0:=(valid_head hval).2.2.2.2
      have:¬ (e.kind < 1 ∨ e.kind > 31):=fun q=>by have:=fields_neg.2 q; omega
      omega
    refine base _ rfl (fun _=>?_) (by rw [he]; rcases hk31 with q | q <;> rw [q] <;> exact ho)
    rw [he]
    refine gc.snoc e (fun _ _ _ _ _ _ q=>?_) (fun _ _ _ _ _ _ q=>?_) (fun _ _ _ _ _ _ q=>?_) (fun _ _ _ _ _ _ _ q=>?_) (fun _ h=>h) gc.fz (fun _ h=>h) gc.ud (fun _ _ q=>?_) (fun _ h=>h) (fun _ _ _ _ _ q=>?_)
    all_goals
      exfalso
      simp at q
      omega
theorem LS.bi (ok:Okp p) {L:LS} (li:LInv p L) (b:BI L.h L.now L.s) (a:ActM):BI (L.step p a).h (L.step p a).now (L.step p a).s:=by
  have hclk:L.now ≤ L.clock a ∧ L.clock a ≤ 1099511627776:=by
    have:=b.n0
    unfold LS.clock
    split
    · rename_i q; simp at q; omega
    · omega
  unfold LS.step
  split
  · split
    · exact b
    · rename_i hs
      rcases apply_cases L.s (L.next a) with ⟨e1,e2⟩ | ⟨e1,ho,hr,e2⟩
      · rw [if_neg e1]; show BI L.h L.now (L.s.apply (L.next a)).2; rw [e2]; exact b
      · rw [if_pos e1]; show BI (L.h ++ [L.next a]) L.now (L.s.apply (L.next a)).2; rw [e2]
        exact apply_bi b rfl hr ho (gram_of hs)
  · split
    · have b1:=b.later hclk.1 hclk.2
      split
      · rename_i he
        show BI L.h (L.clock a) (L.s.Task p (L.clock a) a.value).2
        rw [Task_no he]; exact b1
      · rename_i he
        exact task_bi ok b1 li.inv (by rw [← Task_ok]; exact Decidable.not_not.1 he) a.value
    · exact b
theorem BI.init:BI [] 0 VS.init:=by
  refine ⟨rfl,rfl,rfl,fun j x hx=>(by cases hx),fun h=>absurd rfl h,fun h=>absurd rfl h,by decide,fun _=>?_⟩
  exact ⟨fun i f h=>(by cases h),fun i f h=>(by cases h),fun i j f g h=>(by cases h),fun i f h=>(by cases h),fun i f h=>(by cases h),fun i f h=>(by cases h),fun i f h=>(by cases h),fun i f h=>(by cases h),fun u h=>(by cases h),List.Pairwise.nil,fun i f h=>(by cases h),fun i j f g h=>(by cases h)⟩
theorem BI.all (ok:Okp p) (l:List ActM):BI (liveAll p l).h (liveAll p l).now (liveAll p l).s:=by
  have:∀ (l:List ActM) (L:LS),LInv p L → BI L.h L.now L.s → BI (l.foldl (LS.step p) L).h (l.foldl (LS.step p) L).now (l.foldl (LS.step p) L).s:=fun l=>by
    induction l with
    | nil=>exact fun L _ h=>h
    | cons a l ih=>exact fun L li h=>ih _ (li.step ok a) (LS.bi ok li h a)
  exact this l _ (LInv.init p) BI.init
end
end Go.Proofs.Ytjmdoiakcakfoaa
set_option maxRecDepth 100000
namespace Go.Proofs.Ytjmdoiakcakfoaa
open Go.Ax
def VS.rp (s:VS) (d:Int) (l:List Ev):VS:={ s with expect:=some l,draws:=d,made:=s.made.map fix7 }
structure Syn (K:List Ev) (s s':VS):Prop where
  x:s.expect = none
  ex:∃ d l,s' = s.rp d l ∧ s.made.map fix7 ++ l = K
structure Off (K m:List Ev) (s':VS):Prop where
  drift:s'.drift = true
  over:s'.over = true
  ex:∃ k e,m[k]? = some e ∧ s'.made = K.take k ∧ k ≤ K.length ∧ (m.map fix7).take k = K.take k ∧ K[k]? ≠ some (fix7 e)
def Good (K m:List Ev):Prop:=∀ (k:Nat) (e w:Ev),m[k]? = some e → K[k]? = some w → matchesM e w = true → w = fix7 e
theorem Good.pre {K m m':List Ev} (g:Good K m') (h:m <+: m'):Good K m:=fun k e w he hw hm=>by
  obtain ⟨t,rfl⟩:=h
  exact g k e w (by rw [List.getElem?_append_left (get_lt he)]; exact he) hw hm
theorem Off.pre {K m m':List Ev} {s:VS} (o:Off K m s) (h:m <+: m'):Off K m' s:=by
  obtain ⟨t,rfl⟩:=h
  obtain ⟨k,e,h1,h2,h3,h4,h5⟩:=o.ex
  refine ⟨o.drift,o.over,k,e,by rw [List.getElem?_append_left (get_lt h1)]; exact h1,h2,h3,?_,h5⟩
  rw [List.map_append,List.take_append_of_le_length (by rw [List.length_map]; exact Nat.le_of_lt (get_lt h1))]
  exact h4
theorem Off.congr {K m:List Ev} {s s':VS} (o:Off K m s) (e1:s'.drift = s.drift) (e2:s'.over = s.over) (e3:s'.made = s.made):Off K m s':=⟨e1.trans o.drift,e2.trans o.over,by rw [e3]; exact o.ex⟩
theorem FStep.pre {p:Prg} {b:Bool} {s s':VS} (q:FStep p b s s') (hx:s.expect = none):s'.expect = none ∧ s.made <+: s'.made:=by
  have live:∀ e:Ev,(s.emit0 e).2.expect = none ∧ s.made <+: (s.emit0 e).2.made:=fun e=>by
    have k:=emits s e
    generalize s.emit0 e = q at k ⊢
    cases k with
    | live=>exact ⟨hx,List.prefix_append _ _⟩
    | none h=>rw [hx] at h; cases h
    | other w l h=>rw [hx] at h; cases h
    | same w l h=>rw [hx] at h; cases h
  have keep:∀ t:VS,t.expect = s.expect → t.made = s.made → t.expect = none ∧ s.made <+: t.made:=fun t h1 h2=>⟨h1.trans hx,by rw [h2]; exact List.prefix_rfl⟩
  cases q with
  | emit e ho hc=>unfold VS.emit; split <;> exact live _
  | fails c ho=>exact live _
  | done i v k=>rcases setDone_cases s i v k with e | ⟨f,-,-,-,e⟩ <;> rw [e] <;> exact keep _ rfl rfl
  | fut f h0 h1 hm hd=>exact keep _ rfl rfl
  | scp i h1 h2=>exact keep _ rfl rfl
  | mark i=>rcases mark_cases s i with e | ⟨c,-,e⟩ <;> rw [e] <;> exact keep _ rfl rfl
  | thr t ht h=>exact keep _ rfl rfl
  | set i t hb ht=>exact keep _ rfl rfl
  | erase i hb=>exact keep _ rfl rfl
  | vars k v=>exact keep _ rfl rfl
  | attrs k v=>exact keep _ rfl rfl
  | draws v=>exact keep _ rfl rfl
  | fuel n hb h=>exact keep _ rfl rfl
  | sig k x l h=>exact keep _ rfl rfl
theorem FSteps.pre {p:Prg} {b:Bool} {s s':VS} (q:FSteps p b s s') (hx:s.expect = none):s'.expect = none ∧ s.made <+: s'.made:=by
  induction q with
  | refl=>exact ⟨hx,List.prefix_rfl⟩
  | tail _ q ih =>
    have:=q.pre ih.1
    exact ⟨this.1,ih.2.trans this.2⟩
theorem Syn.map {K:List Ev} {s s':VS} (h:Syn K s s') (g:VS → VS) (hc:∀ d l,∃ d',g (s.rp d l) = (g s).rp d' l) (e1:(g s).expect = s.expect) (e2:(g s).made = s.made):Syn K (g s) (g s'):=by
  obtain ⟨d,l,rfl,hk⟩:=h.ex
  obtain ⟨d',e⟩:=hc d l
  exact ⟨e1.trans h.x,d',l,e,by rw [e2]; exact hk⟩
theorem Syn.same {K:List Ev} {s s':VS} (h:Syn K s s'):s'.vars = s.vars ∧ s'.attrs = s.attrs ∧ s'.now = s.now ∧ s'.threads = s.threads ∧ s'.futures = s.futures ∧ s'.scopes = s.scopes ∧ s'.signals = s.signals ∧ s'.over = s.over ∧ s'.updates = s.updates ∧ s'.cancel = s.cancel ∧ s'.count = s.count ∧ s'.fuel = s.fuel:=by
  obtain ⟨d,l,rfl,-⟩:=h.ex
  exact ⟨rfl,rfl,rfl,rfl,rfl,rfl,rfl,rfl,rfl,rfl,rfl,rfl⟩
theorem matches_fix (e:Ev):matchesM e (fix7 e) = true:=by
  unfold matchesM fix7 Ev.beqM
  by_cases h:e.kind = 18
  · rw [if_pos h,if_neg (by omega),if_pos h]; simp
  · rw [if_neg h,if_neg h]; simp
def EmS (K:List Ev) (x y:(Int × Bool) × VS):Prop:=(y.1 = x.1 ∧ Syn K x.2 y.2) ∨ (y.1 = (0,false) ∧ Off K x.2.made y.2)
theorem emit0_sim {K:List Ev} {s s':VS} (h:Syn K s s') {e e':Ev} (he:∀ w,matchesM e' w = matchesM e w) (g:Good K (s.push e).made):EmS K (s.emit0 e) (s'.emit0 e'):=by
  obtain ⟨d,l,rfl,hk⟩:=h.ex
  have e0:s.emit0 e = ((e.id,true),s.push e):=by unfold VS.emit0; rw [h.x]
  rw [e0]
  have hat:(s.push e).made[s.made.length]? = some e:=by show (s.made ++ [e])[s.made.length]? = _; simp
  have htk:K.take s.made.length = s.made.map fix7:=by rw [← hk]; exact List.take_left' (by simp)
  have hle:s.made.length ≤ K.length:=by rw [← hk]; simp
  have hat2:K[s.made.length]? = l.head?:=by rw [← hk,List.getElem?_append_right (by simp)]; cases l <;> simp
  have off:∀ t:VS,t.drift = true → t.over = true → t.made = s.made.map fix7 → l.head? ≠ some (fix7 e) → Off K (s.push e).made t:=fun t t1 t2 t3 t4 =>
    ⟨t1,t2,s.made.length,e,hat,by rw [htk]; exact t3,hle,by rw [htk]; show ((s.made ++ [e]).map fix7).take _ = _; rw [List.map_append]; exact List.take_left' (by simp),by rw [hat2]; exact t4⟩
  unfold VS.emit0
  cases l with
  | nil=>exact .inr ⟨rfl,off _ rfl rfl rfl (by simp)⟩
  | cons w l =>
    show EmS K _ (if matchesM e' w = true then _ else _)
    rw [he]
    by_cases hm:matchesM e w = true
    · rw [if_pos hm]
      have hw:w = fix7 e:=g _ e w hat (by rw [hat2]; rfl) hm
      subst hw
      refine .inl ⟨?_,⟨h.x,d,l,?_,?_⟩⟩
      · show ((fix7 e).id,true) = _; rw [fix7_id]
      · unfold VS.push VS.rp
        simp only [List.map_append,List.map_cons,List.map_nil,fix7_kind]
      · show (s.made ++ [e]).map fix7 ++ l = K
        rw [← hk]; simp
    · rw [if_neg hm]
      refine .inr ⟨rfl,off _ rfl rfl rfl fun q=>hm ?_⟩
      cases q; exact matches_fix e
theorem fails_sim {K:List Ev} {s s':VS} (h:Syn K s s') {c:Int} (g:Good K (s.fails c).made):Syn K (s.fails c) (s'.fails c) ∨ Off K (s.fails c).made (s'.fails c):=by
  have e0:s.emit0 (s.stamp (evM 16 c 0 0)) = (((s.stamp (evM 16 c 0 0)).id,true),s.push (s.stamp (evM 16 c 0 0))):=by unfold VS.emit0; rw [h.x]
  have es:s'.stamp (evM 16 c 0 0) = s.stamp (evM 16 c 0 0):=by obtain ⟨d,l,rfl,-⟩:=h.ex; rfl
  have:=emit0_sim h (e:=s.stamp (evM 16 c 0 0)) (e':=s'.stamp (evM 16 c 0 0)) (fun w=>by rw [es]) (by unfold VS.fails at g; rw [e0] at g; exact g)
  exact this.imp And.right And.right
theorem emit_sim {K:List Ev} {s s':VS} (h:Syn K s s') {e e':Ev} (hk:e'.kind = e.kind) (he:∀ w,matchesM (s.stamp e') w = matchesM (s.stamp e) w) (g:Good K (s.emit e).2.made):EmS K (s.emit e) (s'.emit e'):=by
  have es:s'.stamp e' = s.stamp e':=by obtain ⟨d,l,rfl,-⟩:=h.ex; rfl
  have e0:s.emit0 (s.stamp e) = (((s.stamp e).id,true),s.push (s.stamp e)):=by unfold VS.emit0; rw [h.x]
  have hc:s'.count = s.count:=h.same.2.2.2.2.2.2.2.2.2.2.1
  unfold VS.emit at g ⊢
  rw [hk,hc]
  split
  · rename_i hx
    rw [if_pos hx] at g
    rcases fails_sim h g with q | q
    · exact .inl ⟨rfl,q⟩
    · exact .inr ⟨rfl,q⟩
  · rename_i hx
    rw [if_neg hx,e0] at g
    rw [es]
    exact emit0_sim h he g
theorem emit_same {K:List Ev} {s s':VS} (h:Syn K s s') {e:Ev} (g:Good K (s.emit e).2.made):EmS K (s.emit e) (s'.emit e):=emit_sim h rfl (fun _=>rfl) g
theorem rp_setDone (s:VS) (d:Int) (l:List Ev) (i v k:Int):(s.rp d l).setDone i v k = (s.setDone i v k).rp d l:=by
  unfold VS.setDone
  show (match s.futures[i.toNat]? with | some f=>_ | none=>_) = _
  cases s.futures[i.toNat]? with
  | none=>rfl
  | some f=>simp only; split <;> rfl
theorem rp_mark (s:VS) (d:Int) (l:List Ev) (i:Int):(s.rp d l).mark i = (s.mark i).rp d l:=by
  unfold VS.mark
  show (match s.scopes[i.toNat]? with | some f=>_ | none=>_) = _
  cases s.scopes[i.toNat]? with
  | none=>rfl
  | some f=>rfl
theorem Syn.done {K:List Ev} {s s':VS} (h:Syn K s s') (i v k:Int):Syn K (s.setDone i v k) (s'.setDone i v k):=by
  obtain ⟨q1,q2,q3,q4,q5,q6,q7⟩:=setDone_rest s i v k
  exact h.map (fun z=>z.setDone i v k) (fun d l=>⟨d,rp_setDone s d l i v k⟩) q3 q6
theorem Syn.mark {K:List Ev} {s s':VS} (h:Syn K s s') (i:Int):Syn K (s.mark i) (s'.mark i):=by
  obtain ⟨m1,m2,m3,m4,m5⟩:=mark_rest s i
  exact h.map (fun z=>z.mark i) (fun d l=>⟨d,rp_mark s d l i⟩) m1 m4
theorem Syn.canc {K:List Ev} {s s':VS} (h:Syn K s s') (i:Int):s'.cancelled i = s.cancelled i:=keepE_canc h.same.2.2.2.2.2.1 i
theorem hits_congr {s s':VS} (e1:s'.futures = s.futures) (e2:s'.scopes = s.scopes):s'.hits = s.hits:=by
  have:s'.hitAt = s.hitAt:=by
    funext i
    unfold VS.hitAt
    rw [e1]
    simp only [keepE_canc e2]
  unfold VS.hits
  rw [this,e1]
def VSim (K:List Ev) (s s':VS):Prop:=Syn K s s' ∨ Off K s.made s'
theorem undoAll_sim {K:List Ev}:∀ (l:List Nat) (s s':VS),s.over = false → Syn K s s' → Good K (undoAll l s).made → VSim K (undoAll l s) (undoAll l s')
  | [],s,s',_,h,_=>.inl h
  | i :: l,s,s',ho,h,g=>by
    cases hf:s.futures[i]? with
    | none =>
      have hf':s'.futures[i]? = none:=by rw [h.same.2.2.2.2.1]; exact hf
      rw [undoAll,hf] at g
      rw [undoAll,undoAll,hf,hf']
      exact undoAll_sim l s s' ho h g
    | some f =>
      have hf':s'.futures[i]? = some f:=by rw [h.same.2.2.2.2.1]; exact hf
      rw [undoAll_cons hf] at g ⊢
      rw [undoAll_cons hf',h.canc]
      split
      · rename_i hc; rw [if_pos hc] at g; exact undoAll_sim l s s' ho h g
      · rename_i hc
        rw [if_neg hc] at g
        split
        · rename_i hk; rw [if_pos hk] at g; exact undoAll_sim l s s' ho h g
        · rename_i hk
          rw [if_neg hk] at g
          by_cases hok:(s.emit (evM (undoK f.kind) f.event 0 0)).1.2 = true
          · have hov:=undoS_over (i:=i) ho hk hok
            have st0:FSteps ⟨[],[]⟩ true (s.emit (evM (undoK f.kind) f.event 0 0)).2 (undoS s i f):=by
              unfold undoS
              split
              · exact (FStep.done _ _ _ _).one
              · exact .refl _
            have st1:=undoAll_steps (p:=⟨[],[]⟩) (b:=true) l (undoS s i f) hov
            have em0:=(FStep.emit (p:=⟨[],[]⟩) (b:=true) s (evM (undoK f.kind) f.event 0 0) ho (undoK_cmd hk).1).pre h.x
            rw [if_neg (by rw [hok]; decide)] at g ⊢
            have g':Good K (undoAll l (undoS s i f)).made:=g
            have pr:=(st0.trans st1).pre em0.1
            have em:=emit_same h (e:=evM (undoK f.kind) f.event 0 0) (g'.pre pr.2)
            rcases em with ⟨a,b⟩ | ⟨a,b⟩
            · rw [if_neg (by rw [a,hok]; decide)]
              refine undoAll_sim l (undoS s i f) (undoS s' i f) hov ?_ g'
              unfold undoS
              split
              · exact b.done _ _ _
              · exact b
            · rw [if_pos (by rw [a]; rfl)]
              exact .inr (b.pre pr.2)
          · rw [if_pos (by simpa using hok)] at g ⊢
            have em:=emit_same h (e:=evM (undoK f.kind) f.event 0 0) g
            rcases em with ⟨a,b⟩ | ⟨a,b⟩
            · rw [if_pos (by rw [a]; simpa using hok)]; exact .inl b
            · rw [if_pos (by rw [a]; rfl)]; exact .inr b
theorem cancels_sim {K:List Ev} {s s':VS} (h:Syn K s s') (ho:s.over = false) (i:Int) (g:Good K (s.cancels i).made):VSim K (s.cancels i) (s'.cancels i):=by
  unfold VS.cancels at g ⊢
  rw [h.same.2.2.2.2.2.1,hits_congr h.same.2.2.2.2.1 h.same.2.2.2.2.2.1]
  split
  · split
    · exact .inl h
    · rename_i hs hc
      rw [hs] at g
      simp only at g
      rw [if_neg hc] at g
      exact undoAll_sim _ _ _ ((mark_over s i).trans ho) (h.mark i) g
  · exact .inl h
end Go.Proofs.Ytjmdoiakcakfoaa
set_option maxRecDepth 100000
namespace Go.Proofs.Ytjmdoiakcakfoaa
open Go.Ax
structure RSyn (K:List Ev) (x y:Rn):Prop where
  e:y = x.vs y.s
  s:Syn K x.s y.s
def ROut (K:List Ev) (x y:Rn):Prop:=RSyn K x y ∨ (y.fault = false ∧ Off K x.s.made y.s)
def RO (K:List Ev) (x y:Int × Rn):Prop:=(y.1 = x.1 ∧ RSyn K x.2 y.2) ∨ (y.2.fault = false ∧ Off K x.2.s.made y.2.s)
variable {K:List Ev} {r:Rn} {s':VS}
theorem RSyn.of (h:Syn K r.s s'):RSyn K r (r.vs s'):=⟨rfl,h⟩
theorem RSyn.t {x y:Rn} (h:RSyn K x y):y.t = x.t:=by have:=congrArg Rn.t h.e; exact this
theorem RSyn.fault {x y:Rn} (h:RSyn K x y):y.fault = x.fault:=by have:=congrArg Rn.fault h.e; exact this
theorem RSyn.pc {x y:Rn} (h:RSyn K x y) (n:Int):RSyn K (x.pc n) (y.pc n):=⟨by obtain ⟨e,-⟩:=h; rw [e]; rfl,h.s⟩
theorem ROut.pc {x y:Rn} (h:ROut K x y) (n m:Int) (e:RSyn K x y → m = n):ROut K (x.pc n) (y.pc m):=by
  rcases h with h | h
  · rw [e h]; exact .inl (h.pc n)
  · exact .inr h
theorem RO.of {x y:Rn} (h:ROut K x y) (n:Int):RO K (n,x) (n,y):=h.imp (fun q=>⟨rfl,q⟩) id
theorem ROut.next {x y:Rn} (h:ROut K x y):ROut K (x.pc (x.t.pc + 1)) (y.pc (y.t.pc + 1)):=h.pc _ _ fun q=>by rw [q.t]
theorem vs_s (r:Rn) (s':VS):(r.vs s').s = s':=rfl
theorem vs_t (r:Rn) (s':VS):(r.vs s').t = r.t:=rfl
theorem take_vs (r:Rn) (s':VS):(r.vs s').take = (r.take.1,r.take.2.vs s'):=by
  unfold Rn.take
  show (match r.t.stack.getLast? with | some v=>_ | none=>_) = _
  cases r.t.stack.getLast? <;> rfl
theorem take2_vs (r:Rn) (s':VS):(r.vs s').take.2 = r.take.2.vs s':=by rw [take_vs]
theorem leave_vs (r:Rn) (s':VS) (l:List Int):(r.vs s').leave l = (r.leave l).vs s':=rfl
theorem asked_vs {r:Rn} {s':VS} (e:s'.futures = r.s.futures) (d:Nat):(r.vs s').asked d = ((r.asked d).1,(r.asked d).2.vs s'):=by
  unfold Rn.asked
  show (match (r.t.stack.reverse)[d]? with | some v=>if (decide (v < 0) || decide (v ≥ (s'.futures.length:Int))) = true then _ else _ | none=>_) = _
  rw [e]
  cases (r.t.stack.reverse)[d]? with
  | none=>rfl
  | some v=>simp only; split <;> rfl
theorem scope_vs {r:Rn} {s':VS} (e:s'.scopes = r.s.scopes):(r.vs s').scope = (r.scope.1,r.scope.2.vs s'):=by
  have e2:r.take.2.s.scopes = r.s.scopes:=by rw [take_s]
  unfold Rn.scope
  rw [take_vs]
  show (r.take.1,if (decide (r.take.1 < 0) || decide (r.take.1 ≥ (s'.scopes.length:Int))) = true then _ else _) = _
  rw [e,e2]
  split <;> rfl
theorem told_vs {r:Rn} {s':VS} (e:s'.futures = r.s.futures) (op:Int):(r.vs s').told op = ((r.told op).1,(r.told op).2.vs s'):=by
  unfold Rn.told
  rw [asked_vs e]
  split
  · show (match (if decide ((r.asked 1).1 < 0) = true then none else s'.futures[(r.asked 1).1.toNat]?) with | some f=>_ | none=>_) = _
    rw [e]
    cases (if decide ((r.asked 1).1 < 0) = true then none else r.s.futures[(r.asked 1).1.toNat]?) with
    | none=>rfl
    | some f=>simp only; split <;> rfl
  · rfl
theorem vs_same {r:Rn} (h:Syn K r.s s'):Syn K r.take.2.s s':=by rw [take_s]; exact h
theorem opens_sim (h:Syn K r.s s') (hf:r.fault = false) {e:Ev} (g:Good K (r.opens e).s.made):ROut K (r.opens e) ((r.vs s').opens e):=by
  have hc:(r.vs s').s.cancelled (r.vs s').t.scope = r.s.cancelled r.t.scope:=h.canc _
  have hold:∀ {z z':VS} (f:Fut),Syn K z z' → RSyn K ((r.vs z).hold f) ((r.vs z').hold f):=fun {z z'} f q=>by
    refine ⟨?_,q.map (fun z=>z.fut f) (fun d l=>⟨d,rfl⟩) rfl rfl⟩
    show ((r.vs z').leave [(z'.futures.length:Int)]).vs (z'.fut f) = _
    rw [q.same.2.2.2.2.1]; rfl
  unfold Rn.opens at g ⊢
  rw [hc]
  split
  · exact .inl (hold (z:=r.s) (z':=s') _ h)
  · rename_i hcn
    rw [if_neg hcn] at g
    by_cases hok:(r.s.emit e).1.2 = true
    · rw [if_neg (by rw [hok]; decide)] at g ⊢
      rcases emit_same h (e:=e) g with ⟨a,b⟩ | ⟨a,b⟩
      · have a':((r.vs s').s.emit e).1 = (r.s.emit e).1:=a
        rw [if_neg (by rw [a',hok]; decide),a']
        exact .inl (hold _ b)
      · have a':((r.vs s').s.emit e).1 = (0,false):=a
        rw [if_pos (by rw [a']; rfl)]
        exact .inr ⟨hf,b⟩
    · rw [if_pos (by simpa using hok)] at g ⊢
      rcases emit_same h (e:=e) g with ⟨a,b⟩ | ⟨a,b⟩
      · have a':((r.vs s').s.emit e).1 = (r.s.emit e).1:=a
        rw [if_pos (by rw [a']; simpa using hok)]
        exact .inl (RSyn.of (r:=r.vs (r.s.emit e).2) b)
      · have a':((r.vs s').s.emit e).1 = (0,false):=a
        rw [if_pos (by rw [a']; rfl)]
        exact .inr ⟨hf,b⟩
theorem vsim_out {x:Rn} {z z':VS} (h:VSim K z z') (hf:x.fault = false):ROut K (x.vs z) (x.vs z'):=h.imp (fun q=>RSyn.of (r:=x.vs z) q) (fun q=>⟨hf,q⟩)
theorem threads_sim (h:Syn K r.s s') (hf:r.fault = false) (ho:r.s.over = false) (op a:Int) (g:Good K (r.threads op a).s.made):ROut K (r.threads op a) ((r.vs s').threads op a):=by
  have q6:=h.same.2.2.2.2.2.1
  have hc:(r.vs s').s.cancelled (r.vs s').t.scope = r.s.cancelled r.t.scope:=h.canc _
  unfold Rn.threads at g ⊢
  rw [take_vs,scope_vs q6,hc]
  have ht:=vs_same h
  have hs:Syn K r.scope.2.s s':=by rw [scope_s]; exact h
  obtain ⟨d,l,rfl,hk⟩:=h.ex
  show ROut K _ (if op = 27 then (if r.take.2.fault = true then r.take.2.vs (r.s.rp d l) else if decide ((r.s.threads.length:Int) ≥ 16) = true then (r.take.2.vs (r.s.rp d l)).vs ((r.s.rp d l).fails (-3)) else ((r.take.2.vs (r.s.rp d l)).leave [(r.s.futures.length:Int)]).vs (((r.s.rp d l).fut ⟨0,0,r.t.scope,false,0,0⟩).thread (Thr.new a r.t.scope r.take.1 (r.s.futures.length:Int) 0)))
    else if op = 29 then (if ((r.t.stack.length:Int) == 32) = true then (r.vs (r.s.rp d l)).fail else if decide ((r.s.scopes.length:Int) ≥ 32) = true then (r.vs (r.s.rp d l)).vs ((r.s.rp d l).fails (-3)) else ((r.vs (r.s.rp d l)).leave [(r.s.scopes.length:Int)]).vs { (r.s.rp d l) with scopes:=r.s.scopes ++ [⟨r.t.scope,false⟩] })
    else if op = 30 then (if r.scope.2.fault = true then r.scope.2.vs (r.s.rp d l) else { r.scope.2.vs (r.s.rp d l) with t:={ r.scope.2.t with scope:=r.scope.1 } })
    else if op = 31 then (if r.scope.2.fault = true then r.scope.2.vs (r.s.rp d l) else (r.scope.2.vs (r.s.rp d l)).vs ((r.s.rp d l).cancels r.scope.1))
    else (r.vs (r.s.rp d l)).leave [truthM (r.s.cancelled r.t.scope)])
  split
  · rename_i e27
    rw [if_pos e27] at g
    split
    · exact .inl (RSyn.of ht)
    · rename_i hft
      rw [if_neg hft] at g
      split
      · rename_i hl
        rw [if_pos hl] at g
        exact vsim_out (x:=r.take.2) (fails_sim h g) (by simpa using hft)
      · refine .inl ⟨rfl,h.map (fun z=>(z.fut ⟨0,0,r.t.scope,false,0,0⟩).thread (Thr.new a r.t.scope r.take.1 (r.s.futures.length:Int) 0)) (fun d l=>⟨d,rfl⟩) rfl rfl⟩
  · rename_i e27
    rw [if_neg e27] at g
    split
    · rename_i e29
      rw [if_pos e29] at g
      split
      · exact .inl ⟨rfl,h⟩
      · rename_i h32
        rw [if_neg h32] at g
        split
        · rename_i hl
          rw [if_pos hl] at g
          exact vsim_out (x:=r) (fails_sim h g) hf
        · exact .inl ⟨rfl,h.map (fun z=>{ z with scopes:=r.s.scopes ++ [⟨r.t.scope,false⟩] }) (fun d l=>⟨d,rfl⟩) rfl rfl⟩
    · rename_i e29
      rw [if_neg e29] at g
      split
      · split
        · exact .inl (RSyn.of hs)
        · exact .inl ⟨rfl,hs⟩
      · rename_i e30
        rw [if_neg e30] at g
        split
        · rename_i e31
          rw [if_pos e31] at g
          split
          · exact .inl (RSyn.of hs)
          · rename_i hft
            rw [if_neg hft] at g
            exact vsim_out (x:=r.scope.2) (cancels_sim h ho _ g) (by simpa using hft)
        · exact .inl ⟨rfl,h⟩
theorem command_sim (h:Syn K r.s s') (hf:r.fault = false) (op a ev v:Int) (h2:op = 34 → r.take.2.fault = false) (g:Good K (r.command op a ev v).s.made):ROut K (r.command op a ev v) ((r.vs s').command op a ev v):=by
  have hnow:(r.vs s').s.now = r.s.now:=h.same.2.2.1
  unfold Rn.command at g ⊢
  rw [hnow]
  split
  · exact .inl ⟨rfl,h.map (fun z=>{ z with vars:=z.vars.set a.toNat v }) (fun d l=>⟨d,rfl⟩) rfl rfl⟩
  · rename_i e; rw [if_neg e] at g
    split
    · rename_i e; rw [if_pos e] at g; exact opens_sim h hf g
    · rename_i e; rw [if_neg e] at g
      split
      · rename_i e; rw [if_pos e] at g; exact opens_sim h hf g
      · rename_i e; rw [if_neg e] at g
        split
        · rename_i e; rw [if_pos e] at g; exact opens_sim h hf g
        · rename_i e; rw [if_neg e] at g
          split
          · rename_i e; rw [if_pos e] at g
            by_cases hok:(r.s.emit (evM 10 a v 0)).1.2 = true
            · rw [if_pos hok] at g ⊢
              rcases emit_same h (e:=evM 10 a v 0) g with ⟨q,b⟩ | ⟨q,b⟩
              · have q':((r.vs s').s.emit (evM 10 a v 0)).1 = (r.s.emit (evM 10 a v 0)).1:=q
                rw [if_pos (by rw [q']; exact hok)]
                exact .inl ⟨rfl,b.map (fun z=>{ z with attrs:=z.attrs.set a.toNat v }) (fun d l=>⟨d,rfl⟩) rfl rfl⟩
              · have q':((r.vs s').s.emit (evM 10 a v 0)).1 = (0,false):=q
                rw [if_neg (by rw [q']; decide)]
                exact .inr ⟨hf,b⟩
            · rw [if_neg hok] at g ⊢
              rcases emit_same h (e:=evM 10 a v 0) g with ⟨q,b⟩ | ⟨q,b⟩
              · have q':((r.vs s').s.emit (evM 10 a v 0)).1 = (r.s.emit (evM 10 a v 0)).1:=q
                rw [if_neg (by rw [q']; exact hok)]
                exact .inl ⟨rfl,b⟩
              · have q':((r.vs s').s.emit (evM 10 a v 0)).1 = (0,false):=q
                rw [if_neg (by rw [q']; decide)]
                exact .inr ⟨hf,b⟩
          · rename_i e; rw [if_neg e] at g
            split
            · rename_i e; rw [if_pos e] at g
              rw [take2_vs]
              exact (emit_same h (e:=evM 9 ev a v) g).elim (fun q=>.inl ⟨rfl,q.2⟩) (fun q=>.inr ⟨h2 e,q.2⟩)
            · exact .inl ⟨rfl,h⟩
theorem last_a {l:List Ev}:((l.map fix7).getLast?.map Ev.a).getD 0 = (l.getLast?.map Ev.a).getD 0:=by
  rw [List.getLast?_map]
  cases l.getLast? with
  | none=>rfl
  | some x=>exact fix7_a x
theorem match_draw {s:VS} (x y:Int) (w:Ev):matchesM (s.stamp (evM 11 x 0 0)) w = matchesM (s.stamp (evM 11 y 0 0)) w:=rfl
def Rn.draws (r:Rn) (q:(Int × Bool) × VS):Rn:=if q.1.2 = true then (r.vs q.2).leave [((q.2.made.getLast?).map Ev.a).getD 0] else r.vs q.2
theorem commands_draw (r:Rn) (a:Int) (h:¬ ((r.t.stack.length:Int) == 32) = true):r.commands 19 a = r.draws (({ r.s with draws:=IntKind.u64.wrap (r.s.draws + 1) }:VS).emit (evM 11 (IntKind.i64.wrap (mix64 r.s.draws)) 0 0)):=by
  unfold Rn.commands
  rw [if_pos rfl,if_neg h]
  rfl
theorem draw_sim {z z':VS} (h1:Syn K z z') (x y:Int) (hf:r.fault = false) (g:Good K (r.draws (z.emit (evM 11 x 0 0))).s.made):ROut K (r.draws (z.emit (evM 11 x 0 0))) ((r.vs s').draws (z'.emit (evM 11 y 0 0))):=by
  have em:=fun g=>emit_sim h1 (e:=evM 11 x 0 0) (e':=evM 11 y 0 0) rfl (fun w=>match_draw y x w) g
  unfold Rn.draws at g ⊢
  by_cases hok:(z.emit (evM 11 x 0 0)).1.2 = true
  · rw [if_pos hok] at g ⊢
    rcases em g with ⟨ex,b⟩ | ⟨ex,b⟩
    · rw [if_pos (by rw [ex]; exact hok)]
      refine .inl ⟨?_,b⟩
      have hm:(z'.emit (evM 11 y 0 0)).2.made = (z.emit (evM 11 x 0 0)).2.made.map fix7:=by
        obtain ⟨d,l,e,-⟩:=b.ex
        rw [e]; rfl
      rw [hm,last_a]; rfl
    · rw [if_neg (by rw [ex]; decide)]
      exact .inr ⟨hf,b⟩
  · rw [if_neg hok] at g ⊢
    rcases em g with ⟨ex,b⟩ | ⟨ex,b⟩
    · rw [if_neg (by rw [ex]; exact hok)]
      exact .inl ⟨rfl,b⟩
    · rw [if_neg (by rw [ex]; decide)]
      exact .inr ⟨hf,b⟩
theorem commands_sim (h:Syn K r.s s') (hf:r.fault = false) (op a:Int) (g:Good K (r.commands op a).s.made):ROut K (r.commands op a) ((r.vs s').commands op a):=by
  by_cases e19:op = 19
  · subst e19
    by_cases h32:((r.t.stack.length:Int) == 32) = true
    · have e1:r.commands 19 a = r.fail:=by unfold Rn.commands; rw [if_pos rfl,if_pos h32]
      have e2:(r.vs s').commands 19 a = (r.vs s').fail:=by unfold Rn.commands; rw [if_pos rfl,if_pos (show (((r.vs s').t.stack.length:Int) == 32) = true from h32)]
      rw [e1,e2]
      exact .inl ⟨rfl,h⟩
    · have h1 : Syn K { r.s with draws := IntKind.u64.wrap (r.s.draws + 1) } { (r.vs s').s with draws := IntKind.u64.wrap ((r.vs s').s.draws + 1) } := by
        obtain ⟨d,l,e,hk⟩:=h.ex
        subst e
        exact ⟨h.x,IntKind.u64.wrap (d + 1),l,rfl,hk⟩
      rw [commands_draw r a h32] at g ⊢
      rw [commands_draw (r.vs s') a h32]
      exact draw_sim h1 _ _ hf g
  have q5:=h.same.2.2.2.2.1
  unfold Rn.commands at g ⊢
  rw [if_neg e19] at g ⊢
  rw [if_neg e19]
  rw [told_vs q5,take_vs]
  split
  · refine .inl ⟨rfl,?_⟩
    rcases told_cases r op with ⟨-,-,e3⟩ | ⟨-,e2⟩ | ⟨-,⟨f,-,-,-,e2⟩,-⟩
    · rw [e3]; exact h
    · rw [e2]; exact h
    · rw [e2]; exact h
  · rename_i ht
    rw [if_neg ht] at g
    show ROut K _ (if r.take.2.fault = true then r.take.2.vs s' else (r.take.2.vs s').command op a (r.told op).1 r.take.1)
    split
    · exact .inl (RSyn.of (vs_same h))
    · rename_i hft
      rw [if_neg hft] at g
      refine command_sim (vs_same h) (by simpa using hft) op a _ _ (fun e=>?_) g
      have hft:r.take.2.fault = false:=by simpa using hft
      rw [take_nofault hft,take_t]
      rcases told_cases r op with ⟨e1,-,-⟩ | ⟨e1,-⟩ | ⟨-,-,e3⟩
      · exact absurd (by simpa using e1) ht
      · exact absurd e e1
      · show r.t.stack.dropLast.isEmpty = false
        rw [List.isEmpty_eq_false_iff]
        intro hn
        have:=congrArg List.length hn
        rw [List.length_dropLast] at this
        have this:r.t.stack.length - 1 = 0:=this
        omega
theorem emitV_sim {s:VS} (h:Syn K s s') (e:Ev) (g:Good K (s.emit e).2.made):VSim K (s.emit e).2 (s'.emit e).2:=(emit_same h g).imp And.right And.right
def endS (r:Rn) (op:Int) (s:VS):VS :=
  if (op == 35) = true then (s.emit (evM 18 r.take.1 0 0)).2 else
  if (r.t.update != 0) = true then (s.emit (evM 14 r.t.update r.take.1 (if (op == 37) = true then 1 else 0))).2 else
  if decide (r.t.future ≥ 0) = true then s.setDone r.t.future r.take.1 (if (op == 37) = true then 1 else 0) else
  if (op == 36) = true then (s.emit (evM 15 r.take.1 0 0)).2 else
  if s.cancelled 0 = true then (s.emit (evM 17 r.take.1 0 0)).2 else (s.emit (evM 16 r.take.1 0 0)).2
theorem ends_eq (r:Rn) (op:Int):r.ends op = if r.take.2.fault = true then (0,r.take.2) else (2,r.take.2.vs (endS r op r.s)):=rfl
theorem ends_sim (h:Syn K r.s s') (op:Int) (g:Good K (r.ends op).2.s.made):RO K (r.ends op) ((r.vs s').ends op):=by
  have e:(r.vs s').ends op = if r.take.2.fault = true then (0,r.take.2.vs s') else (2,r.take.2.vs (endS r op s')):=by
    rw [ends_eq,take_vs]
    show (if r.take.2.fault = true then _ else (2,(r.take.2.vs s').vs (endS (r.vs s') op s'))) = _
    have:endS (r.vs s') op s' = endS r op s':=by unfold endS; rw [take_vs]; rfl
    rw [this]; rfl
  rw [e,ends_eq]
  rw [ends_eq] at g
  split
  · exact RO.of (.inl (RSyn.of (vs_same h))) 0
  · rename_i hft
    rw [if_neg hft] at g
    refine RO.of (vsim_out (x:=r.take.2) ?_ (by simpa using hft)) 2
    have g:Good K (endS r op r.s).made:=g
    unfold endS at g ⊢
    rw [h.canc]
    by_cases c1:(op == 35) = true
    · rw [if_pos c1] at g ⊢; rw [if_pos c1]; exact emitV_sim h _ g
    rw [if_neg c1] at g ⊢; rw [if_neg c1]
    by_cases c2:(r.t.update != 0) = true
    · rw [if_pos c2] at g ⊢; rw [if_pos c2]; exact emitV_sim h _ g
    rw [if_neg c2] at g ⊢; rw [if_neg c2]
    by_cases c3:decide (r.t.future ≥ 0) = true
    · rw [if_pos c3,if_pos c3]; exact .inl (h.done _ _ _)
    rw [if_neg c3] at g ⊢; rw [if_neg c3]
    by_cases c4:(op == 36) = true
    · rw [if_pos c4] at g ⊢; rw [if_pos c4]; exact emitV_sim h _ g
    rw [if_neg c4] at g ⊢; rw [if_neg c4]
    by_cases c5:r.s.cancelled 0 = true
    · rw [if_pos c5] at g ⊢; rw [if_pos c5]; exact emitV_sim h _ g
    rw [if_neg c5] at g ⊢; rw [if_neg c5]
    exact emitV_sim h _ g
theorem awaits_sim (h:Syn K r.s s') (op:Int):RO K (r.awaits op) ((r.vs s').awaits op):=by
  have q5:=h.same.2.2.2.2.1
  have ha:(r.asked 0).2.s = r.s:=by
    rcases asked_cases r 0 with e | ⟨v,e,-,-⟩ <;> rw [e] <;> rfl
  unfold Rn.awaits
  rw [asked_vs q5,take_vs]
  show RO K _ (if decide ((r.asked 0).1 < 0) = true then (0,(r.asked 0).2.vs s') else match s'.futures[(r.asked 0).1.toNat]? with | some f=>_ | none=>(0,r.vs s'))
  rw [q5]
  split
  · exact .inl ⟨rfl,rfl,by rw [ha]; exact h⟩
  · cases r.s.futures[(r.asked 0).1.toNat]? with
    | none=>exact .inl ⟨rfl,rfl,h⟩
    | some f =>
      simp only
      split
      · exact .inl ⟨rfl,rfl,h⟩
      · split
        · exact .inl ⟨rfl,rfl,vs_same h⟩
        · exact .inl ⟨rfl,rfl,vs_same h⟩
theorem waitS_sim (h:Syn K r.s s') (a:Int):RO K (r.waitS a) ((r.vs s').waitS a):=by
  have q7:=h.same.2.2.2.2.2.2.1
  unfold Rn.waitS
  show RO K _ (match s'.signals[a.toNat]?.getD [] with | []=>_ | x :: l=>_)
  rw [q7]
  cases hl:r.s.signals[a.toNat]?.getD [] with
  | nil=>exact .inl ⟨rfl,rfl,h⟩
  | cons x l =>
    have hm:Syn K { r.s with signals:=r.s.signals.set a.toNat l } { s' with signals:=s'.signals.set a.toNat l }:=h.map (fun z=>{ z with signals:=z.signals.set a.toNat l }) (fun d l=>⟨d,rfl⟩) rfl rfl
    show RO K (if (r.leave [x]).fault = true then _ else _) (if (r.leave [x]).fault = true then _ else _)
    split
    · exact .inl ⟨rfl,rfl,h⟩
    · exact .inl ⟨rfl,rfl,hm⟩
theorem does_sim (h:Syn K r.s s') (hf:r.fault = false) (ho:r.s.over = false) (op a:Int) (g:Good K (r.does op a).2.s.made):RO K (r.does op a) ((r.vs s').does op a):=by
  unfold Rn.does at g ⊢
  split
  · exact awaits_sim h op
  · rename_i c1; rw [if_neg c1] at g
    split
    · exact waitS_sim h a
    · rename_i c2; rw [if_neg c2] at g
      split
      · rename_i c3; rw [if_pos c3] at g; exact ends_sim h op g
      · rename_i c3; rw [if_neg c3] at g
        split
        · exact .inl ⟨rfl,rfl,h⟩
        · rename_i c4; rw [if_neg c4] at g
          split
          · rename_i c5; rw [if_pos c5] at g; exact RO.of (threads_sim h hf ho op a g).next 0
          · rename_i c5; rw [if_neg c5] at g; exact RO.of (commands_sim h hf op a g).next 0
end Go.Proofs.Ytjmdoiakcakfoaa
set_option maxRecDepth 100000
namespace Go.Proofs.Ytjmdoiakcakfoaa
open Go.Ax
variable {K:List Ev} {p:Prg}
theorem ite_vs {P:Prop} [Decidable P] (x y:Rn) (s':VS):(if P then x else y).vs s' = if P then x.vs s' else y.vs s':=by split <;> rfl
theorem pc_vs (r:Rn) (s':VS) (n:Int):(r.vs s').pc n = (r.pc n).vs s':=rfl
theorem pure1_vs {r:Rn} {s':VS} (e1:s'.vars = r.s.vars) (e2:s'.now = r.s.now) (e3:s'.signals = r.s.signals) (op a:Int):(r.vs s').pure1 op a = (r.pure1 op a).vs s':=by
  unfold Rn.pure1
  simp only [take_vs,leave_vs,pc_vs,ite_vs,vs_s,vs_t,e1,e2,e3]
theorem pure_vs {r:Rn} {s':VS} (e1:s'.vars = r.s.vars) (e2:s'.now = r.s.now) (e3:s'.signals = r.s.signals) (op a:Int):(r.vs s').pure_ op a = (r.pure_ op a).vs s':=by
  unfold Rn.pure_
  rw [vs_t,pc_vs]
  exact pure1_vs (r:=r.pc (r.t.pc + 1)) e1 e2 e3 op a
theorem purelyG_vs {s s':VS} (e1:s'.vars = s.vars) (e2:s'.now = s.now) (e3:s'.signals = s.signals) (fn:Int):∀ (n:Nat) (r:Rn),r.s = s → purelyG p fn n (r.vs s') = purelyG p fn n r
  | 0,_,_=>rfl
  | n + 1,r,hr=>by
    subst hr
    unfold purelyG
    rw [take_vs,pure_vs e1 e2 e3,vs_t]
    show (if _ then (if r.take.2.fault = true then _ else _) else if (r.pure_ _ _).fault = true then _ else purelyG p fn n ((r.pure_ _ _).vs s')) = _
    rw [purelyG_vs e1 e2 e3 fn n _ (pure_s r _ _)]
theorem purely_vs {s s':VS} (e1:s'.vars = s.vars) (e2:s'.now = s.now) (e3:s'.signals = s.signals) (fn arg:Int) (n:Nat):s'.purely p fn arg n = s.purely p fn arg n :=
  purelyG_vs (s:=s) e1 e2 e3 fn n ⟨s,⟨fn,0,0,[],arg,0,0,0,0⟩,false⟩ rfl
variable {s s':VS}
theorem admit2_sim (h:Syn K s s') (fn:Int) (e:Ev) (g:Good K (s.admit2 fn e).made):VSim K (s.admit2 fn e) (s'.admit2 fn e):=by
  obtain ⟨q1,q2,q3,q4,q5,q6,-⟩:=h.same
  unfold VS.admit2 at g ⊢
  rw [q4]
  split
  · rename_i c; rw [if_pos c] at g; exact fails_sim h g
  · rename_i c
    rw [if_neg c] at g
    by_cases hok:(s.emit (evM 12 e.id 0 0)).1.2 = true
    · rw [if_pos hok] at g ⊢
      rcases emit_same h (e:=evM 12 e.id 0 0) g with ⟨x,b⟩ | ⟨x,b⟩
      · rw [if_pos (by rw [x]; exact hok)]
        exact .inl (b.map (fun z=>z.thread (Thr.new fn 0 e.b (-1) e.id)) (fun d l=>⟨d,rfl⟩) rfl rfl)
      · rw [if_neg (by rw [x]; decide)]
        exact .inr b
    · rw [if_neg hok] at g ⊢
      rcases emit_same h (e:=evM 12 e.id 0 0) g with ⟨x,b⟩ | ⟨x,b⟩
      · rw [if_neg (by rw [x]; exact hok)]; exact .inl b
      · rw [if_neg (by rw [x]; decide)]; exact .inr b
theorem admits_sim (h:Syn K s s') (e:Ev) (g:Good K (s.admits p e).made):VSim K (s.admits p e) (s'.admits p e):=by
  obtain ⟨q1,q2,q3,q4,q5,q6,q7,q8,q9,q10,q11,q12⟩:=h.same
  unfold VS.admits at g ⊢
  by_cases c1:decide (p.find 3 e.a < 0) = true
  · rw [if_pos c1] at g ⊢; rw [if_pos c1]; exact emitV_sim h _ g
  rw [if_neg c1] at g ⊢; rw [if_neg c1]
  by_cases c2:decide (p.find 4 e.a ≥ 0) = true
  · rw [if_pos c2] at g ⊢; rw [if_pos c2]
    simp only at g ⊢
    rw [q12,purely_vs (s:=s) q1 q3 q7]
    have h1:Syn K { s with fuel:=((s.purely p (p.find 4 e.a) e.b s.fuel.toNat).2.2:Int) } { s' with fuel:=((s.purely p (p.find 4 e.a) e.b s.fuel.toNat).2.2:Int) }:=h.map (fun z=>{ z with fuel:=((s.purely p (p.find 4 e.a) e.b s.fuel.toNat).2.2:Int) }) (fun d l=>⟨d,rfl⟩) rfl rfl
    generalize s.purely p (p.find 4 e.a) e.b s.fuel.toNat = q at *
    by_cases c3:(q.2.1 == 3) = true
    · rw [if_pos c3] at g ⊢; rw [if_pos c3]; exact fails_sim h1 g
    rw [if_neg c3] at g ⊢; rw [if_neg c3]
    by_cases c4:(q.2.1 != 0 || (if (q.2.1 == 2) = true then (-2:Int) else q.1) != 0) = true
    · rw [if_pos c4] at g ⊢; rw [if_pos c4]; exact emitV_sim h1 _ g
    rw [if_neg c4] at g ⊢; rw [if_neg c4]
    exact admit2_sim h1 _ _ g
  · rw [if_neg c2] at g ⊢; rw [if_neg c2]
    exact admit2_sim h _ _ g
theorem admitAll_over:∀ (l:List Ev) (s:VS),s.over = true → admitAll p l s = s
  | [],_,_=>rfl
  | e :: l,s,ho=>by
    rw [admitAll,if_neg (by rw [ho]; decide)]
    exact admitAll_over l s ho
theorem admitAll_sim (ok:Okp p):∀ (l:List Ev) (s s':VS),Inv p s → Room s → (∀ u ∈ l,0 ≤ u.id) → Syn K s s' → Good K (admitAll p l s).made → VSim K (admitAll p l s) (admitAll p l s')
  | [],s,s',_,_,_,h,_=>.inl h
  | u :: l,s,s',iv,rm,hid,h,g=>by
    have ho':=h.same.2.2.2.2.2.2.2.1
    cases ho:s.over with
    | true=>rw [admitAll_over _ s ho,admitAll_over _ s' (by rw [ho',ho])]; exact .inl h
    | false =>
      have ho1:s'.over = false:=by rw [ho',ho]
      rw [admitAll,if_pos (by rw [ho]; rfl)] at g
      rw [admitAll,admitAll,if_pos (by rw [ho]; rfl),if_pos (by rw [ho1]; rfl)]
      have st:=admits_steps ok iv rm ho (hid u (List.mem_cons_self ..))
      have iv1:=st.inv iv rm
      have x1:=(st.pre h.x).1
      have pr:=(admitAll_steps ok l _ iv1.1 iv1.2 (fun v hv=>hid v (List.mem_cons_of_mem _ hv))).pre x1
      rcases admits_sim h u (g.pre pr.2) with b | b
      · exact admitAll_sim ok l _ _ iv1.1 iv1.2 (fun v hv=>hid v (List.mem_cons_of_mem _ hv)) b g
      · rw [admitAll_over l _ b.over]
        exact .inr (b.pre pr.2)
def InOff (K:List Ev) (x y:Int × VS):Prop:=(y.1 = x.1 ∧ Syn K x.2 y.2) ∨ Off K x.2.made y.2
theorem run_sim (h:Syn K s s') (ho:s.over = false) {i:Nat} {t:Thr} (ht:s.threads[i]? = some t) (g:Good K (s.run p i).2.s.made):RO K (s.run p i) (s'.run p i):=by
  obtain ⟨q1,q2,q3,q4,q5,q6,q7,-⟩:=h.same
  have ht':s'.threads[i]? = some t:=by rw [q4]; exact ht
  rw [run_eq_ ht] at g ⊢
  rw [run_eq_ ht']
  split
  · show RO K _ (0,((⟨s,t.wake,false⟩:Rn).vs s').pure_ _ _)
    rw [pure_vs (r:=⟨s,t.wake,false⟩) q1 q3 q7]
    exact .inl ⟨rfl,rfl,by show Syn K ((⟨s,t.wake,false⟩:Rn).pure_ _ _).s s'; rw [pure_s]; exact h⟩
  · rename_i c
    rw [if_neg c] at g
    exact does_sim (r:=⟨s,t.wake,false⟩) h rfl ho _ _ g
theorem instr_sim (ok : Okp p) (h : Syn K s s') {i : Nat} {t : Thr} (ht : s.threads[i]? = some t) (iv : Inv p s) (rm : Room s) (ho : s.over = false) (sk : (s.futures.length : Int) + s.fuel + 1 ≤ 1000 * s.count) (g : Good K (s.instruction p i).2.made) :
    InOff K (s.instruction p i) (s'.instruction p i):=by
  have af:=run_after ok ht iv rm ho sk
  have px:=af.steps.pre h.x
  have pr:(s.run p i).2.s.made <+: (s.instruction p i).2.made:=by
    unfold VS.instruction
    split
    · rename_i hf
      exact ((FStep.fails (p:=p) (b:=true) _ (-2) (af.fault hf)).pre px.1).2
    · exact List.prefix_rfl
  have rs:=run_sim h ho ht (g.pre pr)
  unfold VS.instruction at g pr ⊢
  rcases rs with ⟨e1,b⟩ | ⟨hf,b⟩
  · rw [b.fault,b.t,e1]
    split
    · rename_i hf
      rw [if_pos hf] at g
      exact (fails_sim b.s g).imp (fun q=>⟨rfl,q⟩) id
    · exact .inl ⟨rfl,b.s.map (fun z=>{ z with threads:=z.threads.set i (s.run p i).2.t }) (fun d l=>⟨d,rfl⟩) rfl rfl⟩
  · refine .inr ?_
    rw [if_neg (c:=(s'.run p i).2.fault = true) (by rw [hf]; decide)]
    exact (b.pre pr).congr rfl rfl rfl
theorem stepsG_over (i n:Nat) {s:VS} (ho:s.over = true):VS.stepsG p i n s = (1,s):=by rw [stepsG_eq,if_pos ho]
theorem stepsG_sim (ok:Okp p) (i:Nat):∀ (n:Nat) (s s':VS),s.fuel = n → Inv p s → Room s → i < s.threads.length → Syn K s s' → Good K (VS.stepsG p i n s).2.made → InOff K (VS.stepsG p i n s) (VS.stepsG p i n s')
  | 0,s,s',hf,iv,rm,hi,h,g=>by
    have ho':=h.same.2.2.2.2.2.2.2.1
    rw [stepsG_eq] at g ⊢
    rw [stepsG_eq,ho']
    split
    · exact .inl ⟨rfl,h⟩
    · rename_i ho
      rw [if_neg ho] at g
      exact (fails_sim h g).imp (fun q=>⟨rfl,q⟩) id
  | n + 1,s,s',hf,iv,rm,hi,h,g=>by
    have ho':=h.same.2.2.2.2.2.2.2.1
    by_cases ho:s.over = true
    · rw [stepsG_over i _ ho,stepsG_over i _ (by rw [ho',ho])]; exact .inl ⟨rfl,h⟩
    have ho1:s.over = false:=by simpa using ho
    rw [stepsG_eq,if_neg ho] at g ⊢
    rw [stepsG_eq,if_neg (by rw [ho']; exact ho)]
    simp only at g ⊢
    obtain ⟨st,iv1,rm1,sk⟩:=fuel_step iv rm hf
    obtain ⟨t,ht⟩:=get_some hi
    have ht1:(s.fuelAt n).threads[i]? = some t:=ht
    have is:=instr_steps ok ht1 iv1 rm1 ho1 sk
    have tl:=instr_threads ok ht1 iv1 rm1 ho1 sk
    have tl:s.threads.length ≤ ((s.fuelAt n).instruction p i).2.threads.length:=tl
    have fl:=instr_fuel ok ht1 iv1 rm1 ho1 sk
    have fl:((s.fuelAt n).instruction p i).2.fuel = n:=fl
    have h1:Syn K (s.fuelAt n) (s'.fuelAt n):=h.map (fun z=>z.fuelAt n) (fun d l=>⟨d,rfl⟩) rfl rfl
    have iv2:=(st.one.trans is).inv iv rm
    have px:=is.pre h1.x
    change Good K (if (((s.fuelAt n).instruction p i).1 != 0) = true then (s.fuelAt n).instruction p i else VS.stepsG p i n ((s.fuelAt n).instruction p i).2).2.made at g
    show InOff K (if (((s.fuelAt n).instruction p i).1 != 0) = true then (s.fuelAt n).instruction p i else VS.stepsG p i n ((s.fuelAt n).instruction p i).2) (if (((s'.fuelAt n).instruction p i).1 != 0) = true then (s'.fuelAt n).instruction p i else VS.stepsG p i n ((s'.fuelAt n).instruction p i).2)
    have pr:((s.fuelAt n).instruction p i).2.made <+: (if (((s.fuelAt n).instruction p i).1 != 0) = true then (s.fuelAt n).instruction p i else VS.stepsG p i n ((s.fuelAt n).instruction p i).2).2.made:=by
      split
      · exact List.prefix_rfl
      · exact ((stepsG_steps ok i n _ fl iv2.1 iv2.2 (by omega)).1.pre px.1).2
    rcases instr_sim ok h1 ht1 iv1 rm1 ho1 sk (g.pre pr) with ⟨e1,b⟩ | b
    · rw [e1]
      split
      · exact .inl ⟨e1,b⟩
      · rename_i c
        rw [if_neg c] at g
        exact stepsG_sim ok i n _ _ fl iv2.1 iv2.2 (by omega) b g
    · refine .inr ?_
      have b2:=b.pre pr
      by_cases c:(((s'.fuelAt n).instruction p i).1 != 0) = true
      · rw [if_pos c]; exact b2
      · rw [if_neg c,stepsG_over i n b.over]; exact b2
theorem steps_sim (ok:Okp p) {i:Nat} (iv:Inv p s) (rm:Room s) (hi:i < s.threads.length) (h:Syn K s s') (g:Good K (s.steps p i).2.made):InOff K (s.steps p i) (s'.steps p i):=by
  have e:s'.steps p i = VS.stepsG p i s.fuel.toNat s':=by unfold VS.steps; rw [h.same.2.2.2.2.2.2.2.2.2.2.2]
  rw [e]
  exact stepsG_sim ok i _ s s' (by have:=iv.fuel; omega) iv rm hi h g
theorem pass_over:∀ (g:Nat) (s:VS) (i:Nat) (went:Bool),s.over = true → passG p g s i went = s
  | 0,_,_,_,_=>rfl
  | g + 1,s,i,went,ho=>by
    cases ht:s.threads[i]? with
    | none =>
      rw [pass_none ht]
      split
      · rfl
      · exact pass_over g s 0 false ho
    | some t=>rw [pass_some ht,if_pos ho]
theorem pass_sim (ok:Okp p):∀ (n:Nat) (s s':VS) (i:Nat) (went:Bool),Inv p s → Room s → Syn K s s' → Good K (passG p n s i went).made → VSim K (passG p n s i went) (passG p n s' i went)
  | 0,s,s',i,went,_,_,h,_=>.inl h
  | n + 1,s,s',i,went,iv,rm,h,g=>by
    obtain ⟨q1,q2,q3,q4,q5,q6,q7,q8,-⟩:=h.same
    cases ht:s.threads[i]? with
    | none =>
      have ht':s'.threads[i]? = none:=by rw [q4]; exact ht
      rw [pass_none ht] at g ⊢
      rw [pass_none ht']
      split
      · exact .inl h
      · rename_i c
        rw [if_neg c] at g
        exact pass_sim ok n s s' 0 false iv rm h g
    | some t =>
      have ht':s'.threads[i]? = some t:=by rw [q4]; exact ht
      have hil:=get_lt ht
      rw [pass_some ht] at g ⊢
      rw [pass_some ht',q8]
      have hrd:s'.ready t = s.ready t:=by unfold VS.ready; rw [q5,q7]
      rw [hrd]
      split
      · exact .inl h
      · rename_i ho
        rw [if_neg ho] at g
        split
        · rename_i c
          rw [if_pos c] at g
          exact pass_sim ok n s s' (i + 1) went iv rm h g
        · rename_i c
          rw [if_neg c] at g
          have ss:=steps_steps ok iv rm hil
          have iv1:=ss.1.inv iv rm
          have px:=ss.1.pre h.x
          have he:=(FStep.erase (p:=p) (b:=true) (s.steps p i).2 i rfl).inv iv1.1 iv1.2
          have pr:(s.steps p i).2.made <+: (if ((s.steps p i).1 == 2 && !(s.steps p i).2.over) = true then passG p n { (s.steps p i).2 with threads:=(s.steps p i).2.threads.eraseIdx i } i true else passG p n (s.steps p i).2 (i + 1) true).made:=by
            split
            · exact ((pass_steps ok n { (s.steps p i).2 with threads:=(s.steps p i).2.threads.eraseIdx i } i true he.1 he.2).pre px.1).2
            · exact ((pass_steps ok n (s.steps p i).2 (i + 1) true iv1.1 iv1.2).pre px.1).2
          rcases steps_sim ok iv rm hil h (g.pre pr) with ⟨e1,b⟩ | b
          · rw [e1,b.same.2.2.2.2.2.2.2.1]
            split
            · rename_i c2
              rw [if_pos c2] at g
              exact pass_sim ok n _ _ i true he.1 he.2 (b.map (fun z=>{ z with threads:=z.threads.eraseIdx i }) (fun d l=>⟨d,rfl⟩) rfl rfl) g
            · rename_i c2
              rw [if_neg c2] at g
              exact pass_sim ok n _ _ (i + 1) true iv1.1 iv1.2 b g
          · refine .inr ?_
            rw [if_neg (c:=((s'.steps p i).1 == 2 && !(s'.steps p i).2.over) = true) (by rw [b.over]; simp),pass_over n _ _ _ b.over]
            exact b.pre pr
theorem task_sim (ok : Okp p) {s : VS} (iv : Inv p s) (tk : Tasks s) (hx : s.expect = none) (now d : Int) {m0 : List Ev} {l : List Ev} (hk : K = ⟨s.count + 1, now, 2, s.count, 0, 0, 0, 0, 0⟩ :: l) (g : Good K (s.task p now).made) :
    VSim K (s.task p now) (({ s with expect:=some l,draws:=d,made:=m0 }:VS).task p now):=by
  have h0:=begin_inv iv tk now
  have hb:Syn K (s.begin_ now) (({ s with expect:=some l,draws:=d,made:=m0 }:VS).begin_ now):=⟨hx,d,l,rfl,by rw [hk]; rfl⟩
  have ho':(s.begin_ now).over = false:=tk.ho
  have s1:=opened_steps (p:=p) tk.ho now
  have h1:=s1.inv h0.1 h0.2
  have x1:=s1.pre (show (s.begin_ now).expect = none from hx)
  have s2:=admitAll_steps ok s.updates _ h1.1 h1.2 iv.updI
  have h2:=s2.inv h1.1 h1.2
  have x2:=s2.pre x1.1
  have s3:=pass_steps ok passGas _ 0 false h2.1 h2.2
  have x3:=s3.pre x2.1
  rw [task_eq] at g ⊢
  rw [task_eq]
  have e1:VSim K (s.opened now) (({ s with expect:=some l,draws:=d,made:=m0 }:VS).opened now):=by
    unfold VS.opened
    show VSim K _ (if s.cancel = true then _ else _)
    have g1:=(g.pre x3.2).pre x2.2
    unfold VS.opened at g1
    split
    · rename_i c
      rw [if_pos c] at g1
      exact cancels_sim hb ho' 0 g1
    · exact .inl hb
  rcases e1 with b | b
  · rcases admitAll_sim ok s.updates _ _ h1.1 h1.2 iv.updI b (g.pre x3.2) with b2 | b2
    · exact pass_sim ok passGas _ _ 0 false h2.1 h2.2 b2 g
    · refine .inr ?_
      show Off K _ (passG p passGas (admitAll p s.updates _) 0 false)
      rw [pass_over _ _ _ _ b2.over]
      exact b2.pre x3.2
  · refine .inr ?_
    show Off K _ (passG p passGas (admitAll p s.updates _) 0 false)
    rw [admitAll_over _ _ b.over,pass_over _ _ _ _ b.over]
    exact (b.pre x2.2).pre x3.2
end Go.Proofs.Ytjmdoiakcakfoaa
set_option maxRecDepth 100000
namespace Go.Proofs.Ytjmdoiakcakfoaa
open Go.Ax Go.RowKit Go.Shelf
attribute [local go_sem] Oper.semAt_some
def cmds (l:List Ev):List Ev:=l.takeWhile fun x=>cmdM x.kind
theorem cmds_pre (l:List Ev):cmds l <+: l:=List.takeWhile_prefix _
theorem cmds_le (l:List Ev):(cmds l).length ≤ l.length:=(cmds_pre l).length_le
theorem cmds_at:∀ (l:List Ev) (k:Nat) (x:Ev),k ≤ (cmds l).length → l[k]? = some x → (cmdM x.kind = true ↔ k < (cmds l).length)
  | [],k,x,_,hx=>by cases hx
  | y :: l,k,x,hk,hx=>by
    unfold cmds at hk ⊢
    rw [List.takeWhile_cons] at hk ⊢
    by_cases hy:cmdM y.kind = true
    · rw [if_pos hy] at hk ⊢
      cases k with
      | zero=>cases hx; simp [hy]
      | succ k =>
        have:=cmds_at l k x (by unfold cmds; simpa using hk) (by simpa using hx)
        rw [this]; unfold cmds; simp
    · rw [if_neg hy] at hk ⊢
      have:k = 0:=by simpa using hk
      subst this
      cases hx
      simp [hy]
def finTo (n k:Nat):List (Fin n):=(List.finRange n).take k
theorem finTo_succ {n k:Nat} (hk:k < n):finTo n (k + 1) = finTo n k ++ [⟨k,hk⟩]:=by
  unfold finTo
  rw [List.take_add_one]
  simp [hk]
theorem finTo_len {n k:Nat} (hk:k ≤ n):(finTo n k).length = k:=by simp [finTo,hk]
theorem holds_alloc {H:Heap} {w:World} (h:Holds H w) (o:Obj):Holds H (w.alloc o):=fun b o' e=>by
  have hb:=heap_lt (h b o' e)
  have:=h b o' e
  show (w.heap.push o)[b]? = some o'
  rw [Array.getElem?_push_lt hb]
  rw [Array.getElem?_eq_getElem hb] at this
  exact this
theorem grown_alloc {H:Heap} {w:World} (h:Holds H w) (o:Obj):w.grownBy (w.alloc o) none ∧ Holds H (w.alloc o) ∧ (w.alloc o).heap[w.heap.size]? = some o:=by
  refine ⟨⟨rfl,rfl,rfl,?_,fun i hi _=>?_⟩,holds_alloc h o,?_⟩
  · show w.heap.size ≤ (w.heap.push o).size
    rw [Array.size_push]; omega
  · show (w.heap.push o)[i]? = w.heap[i]?
    rw [Array.getElem?_push_lt hi,Array.getElem?_eq_getElem hi]
  · show (w.heap.push o)[w.heap.size]? = some o
    exact Array.getElem?_push_size
theorem grown_keeps {H H':Heap} {w w':World} {o:Obj} (h:Holds H w) (k:Keeps H (w.alloc o) H' w') (s:Sub H H'):w.grownBy w' none ∧ Holds H w' ∧ w'.heap[w.heap.size]? = some o:=by
  obtain ⟨⟨a1,a2,a3,a4,a5⟩,b2,b3⟩:=grown_alloc h o
  have hlt:w.heap.size < (w.alloc o).heap.size:=by
    show w.heap.size < (w.heap.push o).size
    rw [Array.size_push]; omega
  have hn:H w.heap.size = none:=by
    cases hh:H w.heap.size with
    | none=>rfl
    | some o'=>have:=heap_lt (h _ _ hh); omega
  refine ⟨⟨?_,?_,?_,Nat.le_trans a4 k.size,fun i hi hr=>?_⟩,k.holds.sub s,(k.old _ hlt hn).1.trans b3⟩
  · first | exact k.os.trans a1 | exact k.tape.trans a1 | exact k.output.trans a1
  · first | exact k.os.trans a2 | exact k.tape.trans a2 | exact k.output.trans a2
  · first | exact k.os.trans a3 | exact k.tape.trans a3 | exact k.output.trans a3
  · cases hh:H i with
    | none=>exact (k.old i (by omega) hh).1.trans (a5 i hi hr)
    | some o'=>rw [k.holds.sub s i o' hh,h i o' hh]
theorem boxc {w:World} {b:Nat} {c:Array Value} {T:TypeId} (h:w.heap[b]? = some (.cells c T (0,0))) (j:Nat) (v:Value) (hv:c[j]? = some v):w.cell? ⟨b,j,none⟩ = some v:=by
  simp [World.cell?,h,hv]
theorem rest1_in (n : Nat) (hn : 1 ≤ n) (lb : Nat) {HI : Heap} {B1 B2 : Nat} {A : Option Addr} {cap fr : Nat} {T1 T2 : TypeId} {l : List Ev}
    (h1:HI B1 = some (.cells #[.slice A l.length cap] T1 (0,0))) (h2:HI B2 = some (.cells #[.int .i64 (fr:Int)] T2 (0,0))) (hfr:fr ≤ l.length) (hcap:l.length ≤ cap) (hE:HasEvs HI A l.length l) (hb:l.length ≤ 100000000000000000)
    (J Jx:List (Fin (l.drop fr).length) → World → Prop) (W:World) (hW:Holds HI W) (hJ:AbidesFrom W.heap.size J)
    (hY:∀ pre (x:Fin (l.drop fr).length) W1,J pre W1 → pre.length < (cmds (l.drop fr)).length → YieldAt Fence.wide (n - 1) Try.prog lb #[(((l.drop fr)[x.1]?).getD Ev.zero).val] W1 fun e W' =>
      (e = .returned (.bool true) ∧ J (pre ++ [x]) W' ∧ (Holds HI W1 → Holds HI W')) ∨ (e = .returned (.bool false) ∧ Jx (pre ++ [x]) W'))
    (h0:J [] W) :
    CallsIn Fence.wide n Try.prog 62 #[.func (.yield lb) #[] #[],.pointer (some ⟨B1,0,none⟩),.pointer (some ⟨B2,0,none⟩)] W fun e W'=>(∃ v,e = .returned v) ∧
      ((∃ xs,xs = finTo (l.drop fr).length (cmds (l.drop fr)).length ∧ J xs W') ∨ (∃ pre,(∃ j,j ≤ (cmds (l.drop fr)).length ∧ pre = finTo (l.drop fr).length j) ∧ Jx pre W')):=by
  refine callsIn_of_wp Try.func62 rfl trivial ?_ rfl
  simp only [Try.ntmps62,List.size_toArray,List.length_cons,List.length_nil,Nat.reduceAdd,Nat.reduceSub,Array.replicate_succ,Array.replicate_zero,List.push_toArray,List.append_toArray,List.nil_append,List.cons_append]
  have c1:W.cell? ⟨B1,0,none⟩ = some (.slice A l.length cap):=(at_fld (k:=0) h1 rfl).cell hW 0 _ rfl
  have c2:W.cell? ⟨B2,0,none⟩ = some (.int .i64 (fr:Int)):=(at_fld (k:=0) h2 rfl).cell hW 0 _ rfl
  gi_wp2
  · rename_i hcf
    have hl0:(l.drop fr).length = 0:=by rw [List.length_drop]; omega
    have hc0:(cmds (l.drop fr)).length = 0:=by have:=cmds_le (l.drop fr); omega
    gi_loopw [10] (fun i wr=>i = .int .i64 0 ∧ J [] wr ∧ Holds HI wr)
      (fun i _=>0)
    case atStart=>exact ⟨rfl,h0,hW⟩
    case round =>
      obtain ⟨rfl,hJs,hH⟩:=hrel
      have:l.length - fr = 0:=by omega
      gi_wp2
      go_end0
      exact ⟨⟨_,rfl⟩,.inl ⟨_,rfl,by rw [hc0]; exact hJs⟩⟩
  · rename_i hcf
    generalize hA2:Option.map (fun x=>x.add (fr * 9)) A = A2
    gi_loopw [10] (fun i wr=>∃ k:Nat,k ≤ (cmds (l.drop fr)).length ∧ i = .int .i64 k ∧ J (finTo (l.drop fr).length k) wr ∧ Holds HI wr)
      (fun i _=>l.length - (intOf i).toNat)
    case atStart=>exact ⟨0,Nat.zero_le _,rfl,h0,hW⟩
    case round =>
      obtain ⟨k,hk,rfl,hJs,hH⟩:=hrel
      have hdl:(l.drop fr).length = l.length - fr:=List.length_drop
      have hcl:=cmds_le (l.drop fr)
      by_cases hlt:k < l.length - fr
      · obtain ⟨x,hx⟩:=get_some (l:=l.drop fr) (i:=k) (by omega)
        have hx0:l[fr + k]? = some x:=by rw [List.getElem?_drop] at hx; exact hx
        have hiff:=cmds_at (l.drop fr) k x hk hx
        obtain ⟨⟨ab,ao,asp⟩,ha,hat⟩:=hE.at_ (fr + k) x hx0
        obtain rfl:asp = none:=by
          obtain ⟨x0,hx0⟩:=get_some (l:=l) (i:=0) (by omega)
          obtain ⟨a0,ha0,hat0⟩:=hE.at_ 0 x0 hx0
          rw [ha] at ha0; cases ha0
          obtain ⟨_,_,_,_,q,_⟩:=hat0.out
          simpa [Addr.add] using q
        subst ha
        have hA3:A2 = some ⟨ab,ao + fr * 9,none⟩:=by rw [← hA2]; show some ((⟨ab,ao,none⟩:Addr).add (fr * 9)) = _; rw [addr_add]
        subst hA3
        clear hA2
        have hcell:∀ j v,x.cells[j]? = some v → wr.cell? ⟨ab,ao + fr * 9 + k * 9 + j,none⟩ = some v:=fun j v hv=>by
          have:=hat.cell hH j v hv
          rw [addr_add,addr_add] at this
          have e:ao + fr * 9 + k * 9 + j = ao + (fr + k) * 9 + j:=by omega
          rw [e]; exact this
        have hc0:wr.cell? ⟨ab,ao + fr * 9 + k * 9,none⟩ = some (.int .i64 x.id):=hcell 0 _ rfl
        have hc1:=hcell 1 _ rfl
        have hc2:=hcell 2 _ rfl
        have hc3:=hcell 3 _ rfl
        have hc4:=hcell 4 _ rfl
        have hc5:=hcell 5 _ rfl
        have hc6:=hcell 6 _ rfl
        have hc7:=hcell 7 _ rfl
        have hc8:=hcell 8 _ rfl
        clear hat hcell
        gi_wp2
        refine ⟨trivial,callsIn_wide.2 (((t63 x.kind HI).run _ (holds_alloc hH _)).mono ?_)⟩
        rintro e w1 ⟨v,H',rfl,hkp,rfl,hs⟩
        obtain ⟨g1,g2,g3⟩:=grown_keeps hH hkp hs
        clear hkp
        have hJ1:=hJ _ _ _ none hJs g1 (by simp)
        cases hin:cmdM x.kind with
        | false =>
          have hkk:k = (cmds (l.drop fr)).length:=by
            have:¬ k < (cmds (l.drop fr)).length:=fun h=>by rw [hiff.2 h] at hin; cases hin
            omega
          gi_wp2
          refine ⟨fun f hf=>(by cases hf),?_⟩
          gi_wp2
          refine bodyPost_ret (results_none rfl _ _ _) rfl ?_
          exact ⟨⟨_,rfl⟩,.inl ⟨_,rfl,by rw [← hkk]; exact hJ1⟩⟩
        | true =>
          have hkl:=hiff.1 hin
          have hlx:((l.drop fr)[(⟨k,by omega⟩:Fin (l.drop fr).length).1]?).getD Ev.zero = x:=by show ((l.drop fr)[k]?).getD Ev.zero = x; rw [hx]; rfl
          obtain ⟨fn,tmps,assign,body,hy,hR⟩:=hY _ ⟨k,by omega⟩ w1 hJ1 (by rw [finTo_len (by omega)]; exact hkl)
          rw [hlx] at hy
          have hy:(Instr.yield lb #[.agg #[.int .i64 x.id,.int .i64 x.time,.int .i64 x.kind,.int .i64 x.a,.int .i64 x.b,.int .i64 x.c,.int .i64 x.d,.int .i64 x.e,.int .i64 x.f]]).run Try.prog w1 = .ok (.round lb fn tmps assign body) w1:=hy
          have d0:=boxc g3 0 _ rfl
          have d1:=boxc g3 1 _ rfl
          have d2:=boxc g3 2 _ rfl
          have d3:=boxc g3 3 _ rfl
          have d4:=boxc g3 4 _ rfl
          have d5:=boxc g3 5 _ rfl
          have d6:=boxc g3 6 _ rfl
          have d7:=boxc g3 7 _ rfl
          have d8:=boxc g3 8 _ rfl
          clear hc0 hc1 hc2 hc3 hc4 hc5 hc6 hc7 hc8
          gi_wp2
          refine hR.mono ?_
          rintro e W3 (⟨rfl,hJ3,hk3⟩ | ⟨rfl,hJx3⟩)
          · gi_wp2
            go_roundw
            case rel=>exact ⟨k + 1,by omega,by simp,by rw [finTo_succ (by omega)]; exact hJ3,hk3 g2⟩
            case measure=>simp [intOf]; omega
          · gi_wp2
            refine bodyPost_ret (results_none rfl _ _ _) rfl ?_
            exact ⟨⟨_,rfl⟩,.inr ⟨_,⟨k + 1,by omega,by rw [finTo_succ (by omega)]⟩,hJx3⟩⟩
      · have hkk:k = (cmds (l.drop fr)).length:=by omega
        subst hkk
        gi_wp2
        go_end0
        exact ⟨⟨_,rfl⟩,.inl ⟨_,rfl,hJs⟩⟩
end Go.Proofs.Ytjmdoiakcakfoaa
set_option maxRecDepth 100000
namespace Go.Proofs.Ytjmdoiakcakfoaa
open Go.Ax
def VS.exp (s:VS) (l:List Ev):VS:={ s with expect:=some l }
def VS.noExp (s:VS):VS:={ s with expect:=none }
def VS.dm (s:VS) (d:Int) (m:List Ev):VS:={ s with draws:=d,made:=m }
def VS.retask (s:VS) (p:Prg) (h:List Ev) (k:Nat) (now:Int):VS:=(s.exp (cmds (h.drop (k + 1)))).task p now
def VS.more (s:VS):Bool:=match s.expect with | some (x :: _)=>!outsideM x | _=>false
def rep1 (p:Prg) (h:List Ev) (k:Nat) (s:VS):Sum Nat (Nat × VS):=match h[k]? with
  | none=>.inr (k,s)
  | some e =>
    if e.kind ≠ 2 then (if (s.apply e).1 ≠ 0 then .inl k else .inr (k + 1,(s.apply e).2)) else
    if ((s.retask p h k e.time).drift || (s.retask p h k e.time).more) = true then .inl (k + (s.retask p h k e.time).made.length) else .inr (k + (s.retask p h k e.time).made.length,(s.retask p h k e.time).noExp)
def repN (p:Prg) (h:List Ev):Nat → Sum Nat (Nat × VS)
  | 0=>.inr (0,VS.init)
  | n + 1=>match repN p h n with
    | .inl a=>.inl a
    | .inr (k,s)=>if k < h.length then rep1 p h k s else .inr (k,s)
theorem repN_inl {p:Prg} {h:List Ev} {n a:Nat} (e:repN p h n = .inl a):∀ j,repN p h (n + j) = .inl a
  | 0=>e
  | j + 1=>by show (match repN p h (n + j) with | .inl a=>_ | .inr (k,s)=>_) = _; rw [repN_inl e j]
theorem repN_inr {p:Prg} {h:List Ev} {n k:Nat} {s:VS} (e:repN p h n = .inr (k,s)) (hk:h.length ≤ k):∀ j,repN p h (n + j) = .inr (k,s)
  | 0=>e
  | j + 1=>by
    show (match repN p h (n + j) with | .inl a=>_ | .inr (k,s)=>_) = _
    rw [repN_inr e hk j]
    show (if k < h.length then _ else _) = _
    rw [if_neg (by omega)]
structure RepIn (p:Prg) (h:List Ev) (k:Nat) (s:VS):Prop where
  inv:Inv p s
  x:s.expect = none
  tk:∀ e,h[k]? = some e → e.kind = 2 → Tasks (s.exp (cmds (h.drop (k + 1)))) ∧ Inv p (s.exp (cmds (h.drop (k + 1))))
structure Goes (p:Prg) (h:List Ev) (n k:Nat) (s:VS):Prop where
  at_:repN p h n = .inr (k,s)
  ok:∀ j,j < n → ∀ a t,repN p h j = .inr (a,t) → RepIn p h a t
theorem Goes.next {p:Prg} {h:List Ev} {n k:Nat} {s:VS} (g:Goes p h n k s) (ri:RepIn p h k s) (hk:k < h.length) {k':Nat} {s':VS} (e:rep1 p h k s = .inr (k',s')):Goes p h (n + 1) k' s':=by
  refine ⟨?_,fun j hj a t hr=>?_⟩
  · show (match repN p h n with | .inl a=>_ | .inr (k,s)=>_) = _
    rw [g.at_]
    show (if k < h.length then _ else _) = _
    rw [if_pos hk]; exact e
  · rcases Nat.lt_or_ge j n with q | q
    · exact g.ok j q a t hr
    · have:j = n:=by omega
      subst this
      rw [g.at_] at hr
      cases hr; exact ri
theorem dm_setDone (s:VS) (d:Int) (m:List Ev) (i v k:Int):(s.dm d m).setDone i v k = (s.setDone i v k).dm d m:=by
  unfold VS.setDone
  show (match s.futures[i.toNat]? with | some f=>_ | none=>_) = _
  cases s.futures[i.toNat]? with
  | none=>rfl
  | some f=>simp only; split <;> rfl
theorem ite_dm {P:Prop} [Decidable P] (x y:VS) (d:Int) (m:List Ev):(if P then x else y).dm d m = if P then x.dm d m else y.dm d m:=by split <;> rfl
theorem dm_applied (s:VS) (d:Int) (m:List Ev) (e:Ev):(s.dm d m).applied e = (s.applied e).dm d m:=by
  unfold VS.applied
  have hf:(s.dm d m).future e.a = s.future e.a:=rfl
  simp only [ite_dm,dm_setDone,hf]
  rfl
theorem dm_apply (s:VS) (d:Int) (m:List Ev) (e:Ev):(s.dm d m).apply e = ((s.apply e).1,(s.apply e).2.dm d m):=by
  unfold VS.apply
  show (if s.over = true then _ else if s.refuses e = true then _ else (0,(s.counted.dm d m).applied e)) = _
  rw [dm_applied]
  split
  · rfl
  · split
    · rfl
    · rfl
theorem applied_rest (s:VS) (e:Ev):(s.applied e).made = s.made ∧ (s.applied e).drift = s.drift:=by
  have c:∀ {P:Prop} [Decidable P] {x y:VS},(x.made = s.made ∧ x.drift = s.drift) → (y.made = s.made ∧ y.drift = s.drift) → ((if P then x else y).made = s.made ∧ (if P then x else y).drift = s.drift):=fun h1 h2=>by split; exact h1; exact h2
  have d:∀ i v k,(s.setDone i v k).made = s.made ∧ (s.setDone i v k).drift = s.drift:=fun i v k=>by rcases setDone_cases s i v k with q | ⟨f,_,_,_,q⟩ <;> rw [q] <;> exact ⟨rfl,rfl⟩
  unfold VS.applied
  exact c ⟨rfl,rfl⟩ (c ⟨rfl,rfl⟩ (c ⟨rfl,rfl⟩ (c ⟨rfl,rfl⟩ (c (d _ _ _) (c (d _ _ _) (c (d _ _ _) (c (d _ _ _) (c (d _ _ _) (c ⟨rfl,rfl⟩ ⟨rfl,rfl⟩)))))))))
theorem FStep.calm {p:Prg} {b:Bool} {s s':VS} (q:FStep p b s s') (hx:s.expect = none):s'.drift = s.drift:=by
  have live:∀ e:Ev,(s.emit0 e).2.drift = s.drift:=fun e=>by
    have k:=emits s e
    generalize s.emit0 e = q at k ⊢
    cases k with
    | live=>rfl
    | none h=>rw [hx] at h; cases h
    | other w l h=>rw [hx] at h; cases h
    | same w l h=>rw [hx] at h; cases h
  cases q with
  | emit e ho hc=>unfold VS.emit; split <;> exact live _
  | fails c ho=>exact live _
  | done i v k=>rcases setDone_cases s i v k with e | ⟨f,-,-,-,e⟩ <;> rw [e]
  | mark i=>rcases mark_cases s i with e | ⟨c,-,e⟩ <;> rw [e]
  | _=>rfl
theorem FSteps.calm {p:Prg} {b:Bool} {s s':VS} (q:FSteps p b s s') (hx:s.expect = none):s'.drift = s.drift:=by
  induction q with
  | refl=>rfl
  | tail k q ih=>exact (q.calm (k.pre hx).1).trans ih
theorem FStep.some_ {p:Prg} {b:Bool} {s s':VS} (q:FStep p b s s') (hx:s.expect.isSome = true):s'.expect.isSome = true:=by
  have live:∀ e:Ev,(s.emit0 e).2.expect.isSome = true:=fun e=>by
    have k:=emits s e
    generalize s.emit0 e = q at k ⊢
    cases k with
    | live h=>rw [h] at hx; cases hx
    | none h=>exact hx
    | other w l h=>rfl
    | same w l h=>rfl
  cases q with
  | emit e ho hc=>unfold VS.emit; split <;> exact live _
  | fails c ho=>exact live _
  | done i v k=>rcases setDone_cases s i v k with e | ⟨f,-,-,-,e⟩ <;> rw [e] <;> exact hx
  | mark i=>rcases mark_cases s i with e | ⟨c,-,e⟩ <;> rw [e] <;> exact hx
  | _=>exact hx
theorem FSteps.some_ {p:Prg} {b:Bool} {s s':VS} (q:FSteps p b s s') (hx:s.expect.isSome = true):s'.expect.isSome = true:=by
  induction q with
  | refl=>exact hx
  | tail k q ih=>exact q.some_ ih
theorem cmds_app:∀ (A B:List Ev),(∀ x ∈ A,cmdM x.kind = true) → cmds (A ++ B) = A ++ cmds B
  | [],B,_=>rfl
  | x :: A,B,h=>by
    have:=cmds_app A B fun y hy=>h y (List.mem_cons_of_mem _ hy)
    unfold cmds at this ⊢
    rw [List.cons_append,List.takeWhile_cons,if_pos (h x (List.mem_cons_self ..)),this]; rfl
def Cut (h:List Ev) (n:Nat):Prop:=∀ x,h[n]? = some x → cmdM x.kind = true → outsideM x = true
theorem out_kind {e:Ev} (h:outsideM e = true):e.kind = 1 ∨ e.kind = 16 ∨ 19 ≤ e.kind:=by
  unfold outsideM at h
  split at h
  · rename_i q; right; left; simpa using q
  · simp at h; omega
section
variable {p:Prg}
structure Lived (p:Prg) (L:LS):Prop where
  li:LInv p L
  bi:BI L.h L.now L.s
  calm:L.s.drift = false
  goes:∀ h:List Ev,h.length ≤ 256 → L.h <+: h → Cut h L.h.length → ∃ n d,Goes p h n L.h.length (L.s.dm d (L.s.made.map fix7))
theorem dm_inv {s:VS} (iv:Inv p s) (d:Int):Inv p (s.dm d (s.made.map fix7)) :=
  ⟨iv.scp,iv.scn,iv.sc32,iv.t16,fun t ht=>(iv.thr t ht).mono (Nat.le_refl _) (Nat.le_refl _),iv.futs,iv.fuel,iv.many,iv.c0,iv.c3,by show ((s.made.map fix7).length:Int) ≤ _; rw [List.length_map]; exact iv.made,iv.sig,iv.sg8,iv.upd,iv.updI,iv.v16,iv.a4⟩
theorem exp_inv {s:VS} (iv:Inv p s) {l:List Ev} (hl:s.count + l.length ≤ 256):Inv p (s.exp l) :=
  ⟨iv.scp,iv.scn,iv.sc32,iv.t16,fun t ht=>(iv.thr t ht).mono (Nat.le_refl _) (Nat.le_refl _),iv.futs,iv.fuel,iv.many,iv.c0,fun l' e=>(by cases e; exact hl),iv.made,iv.sig,iv.sg8,iv.upd,iv.updI,iv.v16,iv.a4⟩
theorem Lived.repIn {L:LS} (lv:Lived p L) {h:List Ev} (hb:h.length ≤ 256) (hlt:L.h.length < h.length) (d:Int) (ho:∀ e,h[L.h.length]? = some e → e.kind = 2 → L.s.over = false ∧ L.s.count ≤ 255):RepIn p h L.h.length (L.s.dm d (L.s.made.map fix7)):=by
  have iv:=dm_inv lv.li.inv d
  have hc:=lv.li.c
  have hcl:=cmds_le (h.drop (L.h.length + 1))
  rw [List.length_drop] at hcl
  refine ⟨iv,lv.li.x,fun e he hk=>?_⟩
  obtain ⟨o1,o2⟩:=ho e he hk
  refine ⟨⟨o1,o2,fun q=>(by cases q),fun l e=>?_⟩,exp_inv iv ?_⟩
  · cases e
    show L.s.count + 1 + ((cmds (h.drop (L.h.length + 1))).length:Int) ≤ 256
    omega
  · show L.s.count + ((cmds (h.drop (L.h.length + 1))).length:Int) ≤ 256
    omega
theorem task_list {h : List Ev} {n : Nat} {rows : List Ev} {r0 : Ev} (h0 : h[n]? = some r0) (hr : 0 < rows.length) (hl : n + rows.length ≤ h.length) (hc : ∀ j x, 0 < j → j < rows.length → h[n + j]? = some x → cmdM x.kind = true) :
    r0 :: cmds (h.drop (n + 1)) = (h.drop n).take rows.length ++ cmds (h.drop (n + rows.length)):=by
  have e1:h.drop n = r0 :: h.drop (n + 1):=by
    have:=List.getElem?_eq_some_iff.1 h0
    obtain ⟨hn,e⟩:=this
    rw [List.drop_eq_getElem_cons hn,e]
  have e2:h.drop (n + 1) = (h.drop (n + 1)).take (rows.length - 1) ++ h.drop (n + rows.length):=by
    have:=(List.take_append_drop (rows.length - 1) (h.drop (n + 1))).symm
    rw [List.drop_drop] at this
    have e:n + 1 + (rows.length - 1) = n + rows.length:=by omega
    rw [e] at this; exact this
  have e3:cmds (h.drop (n + 1)) = (h.drop (n + 1)).take (rows.length - 1) ++ cmds (h.drop (n + rows.length)):=by
    rw [e2,cmds_app]
    · rw [← e2]
    · intro x hx
      obtain ⟨j,hj⟩:=List.getElem?_of_mem hx
      have hj2:=get_lt hj
      rw [List.length_take] at hj2
      rw [List.getElem?_take_of_lt (by omega),List.getElem?_drop] at hj
      exact hc (j + 1) x (by omega) (by omega) (by rw [← hj]; congr 1; omega)
  rw [e3,e1]
  obtain ⟨q,hq⟩:∃ q,rows.length = q + 1:=⟨rows.length - 1,by omega⟩
  rw [hq,List.take_succ_cons]
  simp
structure TaskOf (p:Prg) (L:LS) (now draw:Int) (rows:List Ev):Prop where
  lv:Lived p L
  tk:L.s.taskE now = 0
  b:BI L.h now L.s
  rows:rows = ((L.s.ready_ draw).task p now).made
theorem TaskOf.first {L:LS} {now draw:Int} {rows:List Ev} (t:TaskOf p L now draw rows) (ok:Okp p):TM L.h.length now ((L.s.ready_ draw).task p now) ∧ rows[0]? = some ⟨L.s.count + 1,now,2,L.s.count,0,0,0,0,0⟩ ∧ L.h.length + rows.length ≤ 256 ∧ 0 < rows.length:=by
  obtain ⟨hm,tm⟩:=Task_tm ok t.lv.li.inv (draw:=draw) t.tk
  have iv:=Task_inv ok t.lv.li.inv now draw
  have e:(L.s.Task p now draw).2 = (L.s.ready_ draw).task p now:=by rw [Task_eq,if_neg (by rw [t.tk]; simp)]
  rw [e] at tm iv
  have hc:=t.lv.li.c
  have h0:=tm.first
  rw [← t.rows] at h0
  have hl:=tm.len
  rw [← t.rows] at hl
  have:=iv.c0
  have hp:=get_lt h0
  refine ⟨?_,h0,by omega,hp⟩
  rw [hc] at tm; exact_mod_cast tm
end
end Go.Proofs.Ytjmdoiakcakfoaa
set_option maxRecDepth 100000
namespace Go.Proofs.Ytjmdoiakcakfoaa
open Go.Ax
def evR (l:List Ev) (i:Nat):Int × Int × Int × Int × Int × Int × Int × Int × Int × PUnit:=(((l[i]?).getD Ev.zero).id,((l[i]?).getD Ev.zero).time,((l[i]?).getD Ev.zero).kind,((l[i]?).getD Ev.zero).a,((l[i]?).getD Ev.zero).b,((l[i]?).getD Ev.zero).c,((l[i]?).getD Ev.zero).d,((l[i]?).getD Ev.zero).e,((l[i]?).getD Ev.zero).f,())
theorem finTo_map {n k:Nat} (hk:k ≤ n):(finTo n k).map (·.1) = List.range k:=by
  apply List.ext_getElem?
  intro j
  unfold finTo
  by_cases hj:j < k
  · rw [List.getElem?_map,List.getElem?_take_of_lt hj]
    have hjn:j < n:=by omega
    simp [hj,hjn]
  · rw [List.getElem?_eq_none (by simp; omega),List.getElem?_eq_none (by simp; omega)]
theorem range_pre {j k:Nat} (h:j ≤ k):List.range j <+: List.range k:=by
  refine List.prefix_iff_eq_take.2 ?_
  rw [List.length_range,List.take_range,Nat.min_eq_left h]
theorem itRest {HI : Heap} {B1 B2 : Nat} {A : Option Addr} {cap fr : Nat} {T1 T2 : TypeId} {l : List Ev}
    (h1:HI B1 = some (.cells #[.slice A l.length cap] T1 (0,0))) (h2:HI B2 = some (.cells #[.int .i64 (fr:Int)] T2 (0,0))) (hfr:fr ≤ l.length) (hcap:l.length ≤ cap) (hE:HasEvs HI A l.length l) (hb:l.length ≤ 100000000000000000) :
    It Try.prog 62 [.pointer (some ⟨B1,0,none⟩),.pointer (some ⟨B2,0,none⟩)] HI (l.drop fr).length
      (fun i=>[Value.agg #[Value.int .i64 (evR (l.drop fr) i).1,Value.int .i64 (evR (l.drop fr) i).2.1,Value.int .i64 (evR (l.drop fr) i).2.2.1,Value.int .i64 (evR (l.drop fr) i).2.2.2.1,Value.int .i64 (evR (l.drop fr) i).2.2.2.2.1,
        Value.int .i64 (evR (l.drop fr) i).2.2.2.2.2.1,Value.int .i64 (evR (l.drop fr) i).2.2.2.2.2.2.1,Value.int .i64 (evR (l.drop fr) i).2.2.2.2.2.2.2.1,Value.int .i64 (evR (l.drop fr) i).2.2.2.2.2.2.2.2.1]]) (List.range (cmds (l.drop fr)).length):=by
  refine ⟨fun n w hn hw=>fun lb J Jx W hB hJ _ hY h0=>?_⟩
  have hW:Holds HI W:=fun b o e=>(hB.block b (heap_lt (hw b o e))).trans (hw b o e)
  rw [List.length_range] at hY
  refine (rest1_in n hn lb h1 h2 hfr hcap hE hb J Jx W hW hJ hY h0).mono ?_
  rintro e W' ⟨he,⟨xs,rfl,hj⟩ | ⟨pre,⟨j,hj2,rfl⟩,hj⟩⟩
  · exact ⟨he,.inl ⟨_,finTo_map (cmds_le _),hj⟩⟩
  · exact ⟨he,.inr ⟨_,by show List.map (·.1) (finTo _ j) <+: _; rw [finTo_map (Nat.le_trans hj2 (cmds_le _))]; exact range_pre hj2,hj⟩⟩
theorem own_cut {H H1:Heap} {A:Option Addr} {n c sz:Nat} {cs:List Value} (h:OwnS H H1 A n c sz cs):OwnS H (cutN H H1) A n c sz cs:=by
  refine ⟨cutN_keep (Sub.refl _) h.sub,h.len,h.cap,?_⟩
  rcases h.at_ with q | ⟨bb,cur,T,q0,q1,q2,q3,q4⟩
  · exact .inl q
  · exact .inr ⟨bb,cur,T,q0,q1,by unfold cutN; rw [q2]; rfl,q3,q4⟩
theorem range_cmds (l:List Ev):(List.range (cmds l).length).map (fun i=>(l[i]?).getD Ev.zero) = cmds l:=by
  apply List.ext_getElem?
  intro j
  by_cases hj:j < (cmds l).length
  · obtain ⟨q,hq⟩:=cmds_pre l
    have:l[j]? = (cmds l)[j]?:=by
      have e:(cmds l ++ q)[j]? = (cmds l)[j]?:=List.getElem?_append_left hj
      rw [hq] at e; exact e
    rw [List.getElem?_map,List.getElem?_range hj,Option.map_some,this]
    obtain ⟨x,hx⟩:=get_some hj
    rw [hx]; rfl
  · rw [List.getElem?_eq_none (by simp; omega),List.getElem?_eq_none (by omega)]
theorem t61 {H : Heap} {B1 B2 : Nat} {A : Option Addr} {cap fr : Nat} {T1 T2 : TypeId} {l : List Ev}
    (h1:H B1 = some (.cells #[.slice A l.length cap] T1 (0,0))) (h2:H B2 = some (.cells #[.int .i64 (fr:Int)] T2 (0,0))) (hfr:fr ≤ l.length) (hcap:l.length ≤ cap) (hE:HasEvs H A l.length l) (hb:l.length * 72 ≤ 140737488355328) :
    Tr Try.prog 61 #[.slice none 0 0,.func (.func 62) #[] #[.pointer (some ⟨B1,0,none⟩),.pointer (some ⟨B2,0,none⟩)]] H
      fun v H'=>∃ A' n' c',v = .slice A' n' c' ∧ OwnS H H' A' n' c' 9 ((cmds (l.drop fr)).flatMap Ev.cells):=by
  have hdl:(l.drop fr).length = l.length - fr:=List.length_drop
  have hcl:=cmds_le (l.drop fr)
  apply v61; unfold F61
  refine ⟨62,[.pointer (some ⟨B1,0,none⟩),.pointer (some ⟨B2,0,none⟩)],⟨rfl,by kernel_rfl⟩,H,(l.drop fr).length,evR (l.drop fr),List.range (cmds (l.drop fr)).length,Sub.refl _,
    itRest h1 h2 hfr hcap hE (by omega),fun pre A n c Hc=>OwnS H Hc A n c 9 ((pre.map fun i=>((l.drop fr)[i]?).getD Ev.zero).flatMap Ev.cells),OwnS.nil _ _,fun pre i hi hpre A n c Hc o hsub hncs x x1 x2 x3 x4 x5 x6 x7 x8 he=>⟨⟨hncs,hsub⟩,?_⟩,fun A n c Hc o hncs=>?_⟩
  · rw [List.length_range] at hpre
    have ho:=o.len
    rw [flat_size (cells:=Ev.cells) (sz:=9) (fun _=>rfl),List.length_map] at ho
    have hn:n = pre.length:=by omega
    refine own_app o (m:=1) rfl rfl (Nat.le_trans (Nat.mul_le_mul_right 72 (show n + 1 ≤ l.length by omega)) hb) (by omega) fun A' c' H' o2=>⟨own_cut ?_,o2.sub⟩
    unfold evR at he
    cases he
    rw [List.map_append,List.flatMap_append]
    simpa [Ev.cells] using o2
  · simp only [range_cmds] at o
    exact ⟨_,_,_,rfl,o⟩
theorem t39 {H : Heap} {B1 B2 : Nat} {A : Option Addr} {cap fr : Nat} {T1 T2 : TypeId} {l : List Ev}
    (h1:H B1 = some (.cells #[.slice A l.length cap] T1 (0,0))) (h2:H B2 = some (.cells #[.int .i64 (fr:Int)] T2 (0,0))) (hfr:fr ≤ l.length) (hcap:l.length ≤ cap) (hE:HasEvs H A l.length l) (hb:l.length * 72 ≤ 140737488355328) :
    Tr Try.prog 39 #[.func (.func 62) #[] #[.pointer (some ⟨B1,0,none⟩),.pointer (some ⟨B2,0,none⟩)]] H
      fun v H'=>∃ A' n' c',v = .slice A' n' c' ∧ OwnS H H' A' n' c' 9 ((cmds (l.drop fr)).flatMap Ev.cells):=by
  apply v39; unfold F39
  exact (t61 h1 h2 hfr hcap hE hb).mono fun v H' ⟨A',n',c',e,o⟩=>⟨A',n',c',e,A',n',c',rfl,o⟩
theorem t40 {H : Heap} {A : Option Addr} {n c fr : Nat} :
    Tr Try.prog 40 #[.slice A n c,.int .i64 (fr:Int)] H fun v H'=>∃ b b1,v = .func (.func 62) #[] #[.pointer (some ⟨b,0,none⟩),.pointer (some ⟨b1,0,none⟩)] ∧
      H' b = some (.cells #[.slice A n c] 28 (0,0)) ∧ H' b1 = some (.cells #[.int .i64 (fr:Int)] 3 (0,0)) ∧ Sub H H':=by
  apply v40; unfold F40
  intro b hb H1 e1 b1 hb1 H2 e2
  have hne:b1 ≠ b:=fun e=>by subst e; rw [e1,Heap.upd_same] at hb1; cases hb1
  refine ⟨b,b1,rfl,?_,by rw [e2]; exact Heap.upd_same,?_⟩
  · rw [e2,Heap.upd_other hne.symm,e1]; exact Heap.upd_same
  · subst e2; subst e1; exact (Sub.upd_new hb).trans (Sub.upd_new hb1)
section
variable {p:Prg} {G H:Heap} {m:Nat} {pf po:SlH} {sl:Nat → SlH} {F:Heap} {ex:Value} {st:List SlH} {s:VS}
theorem VMX.slAt (h:VMX G H m pf po sl F ex st s) {c:Nat} (hc:c < 14) {b:Nat} (hb:(sl c).blk = some b):(H b).isSome = true:=by
  rcases (h.ok c hc).at_ with a | ⟨b',off,cur,T,a1,a2,a3,a4⟩
  · unfold SlH.blk at hb; rw [a.1] at hb; cases hb
  · unfold SlH.blk at hb; rw [a1] at hb; cases hb; rw [a2]; rfl
theorem VMX.newEx (h:VMX G H m pf po sl F ex st s) {ex':Value} {e':Option (List Ev)} (hE:∀ H',(∀ b,b ≠ m → H' b = H b) → ExpOk F G H' m sl ex' e') {Q:Heap → Prop} (q:∀ H',VMX G H' m pf po sl F ex' st { s with expect:=e' } → Q H'):Wr H ((⟨m,0,none⟩:Addr).add 34) ex' Q:=by
  refine wr_cells h.hm (by rw [mCells_len]; decide) (q _ ?_)
  have e:(mCells pf po sl ex s).set 34 ex' = mCells pf po sl ex' { s with expect:=e' }:=rfl
  rw [e]
  have ne:∀ c,c < 14 → ∀ b,(sl c).blk = some b → b ≠ m:=fun c hc b hb=>(h.own c hc b hb).2
  refine ⟨h.gf,⟨fun i o ho=>?_⟩,h.fm,Heap.upd_same,h.own,h.inj,fun c hc=>(h.ok c hc).mono fun b hb=>Heap.upd_other (ne c hc b hb),h.stl,h.stk,h.vars,h.attrs,h.sigs,hE _ fun b hb=>Heap.upd_other hb⟩
  rw [Heap.upd_other (fun e=>by subst e; rw [h.fm] at ho; cases ho)]; exact h.fh.sub _ _ ho
theorem VMX.noEx (h:VMX G H m pf po sl F ex st s) {Q:Heap → Prop} (q:∀ H',VMX G H' m pf po sl F .nilFunc st s.noExp → Q H'):Wr H ((⟨m,0,none⟩:Addr).add 34) .nilFunc Q :=
  h.newEx (e':=none) (fun _ _=>⟨fun _=>rfl,fun _ e=>by cases e⟩) q
theorem VMX.expects (h : VMX G H m pf po sl F ex st s) {l : List Ev} {A : Option Addr} {n c : Nat} {H0 H1 : Heap} (s0 : Sub H H0) (o : OwnS H0 H1 A n c 9 (l.flatMap Ev.cells)) {xb : Nat} {T : TypeId} (hxb : H1 xb = none) {H2 : Heap} (e2 : H2 = H1.upd xb (.cells #[.slice A n c] T (0, 0)))
    {Q:Heap → Prop} (q:∀ F' H3,VMX G H3 m pf po sl F' (.func (.func 60) #[] #[.pointer (some ⟨xb,0,none⟩)]) st (s.exp l) → Sub (dif F G) (dif F' G) → Q H3) :
    Wr H2 ((⟨m,0,none⟩:Addr).add 34) (.func (.func 60) #[] #[.pointer (some ⟨xb,0,none⟩)]) Q:=by
  have s1:Sub H H1:=s0.trans o.sub
  have hHx:H xb = none:=none_below s1 hxb
  have hnl:n = l.length:=by have:=o.len; rw [flat_size (cells:=Ev.cells) (sz:=9) (fun _=>rfl)] at this; omega
  have hm:H1 m = some _:=s1.sub _ _ h.hm
  have hxm:xb ≠ m:=fun e=>by rw [e,hm] at hxb; cases hxb
  have h2x:H2 xb = some (.cells #[.slice A n c] T (0,0)):=by rw [e2]; exact Heap.upd_same
  have h2o:∀ b,b ≠ xb → H2 b = H1 b:=fun b hb=>by rw [e2]; exact Heap.upd_other hb
  have slx:∀ c,c < 14 → (sl c).blk ≠ some xb:=fun c hc hb=>by have:=h.slAt hc hb; rw [hHx] at this; cases this
  have key:∀ F',VMX G H2 m pf po sl F' ex st s → F' xb = none → Src (dif F' G) A (l.flatMap Ev.cells) → Sub (dif F G) (dif F' G) → Wr H2 ((⟨m,0,none⟩:Addr).add 34) (.func (.func 60) #[] #[.pointer (some ⟨xb,0,none⟩)]) Q:=fun F' v f0 sr sd=>by
    refine v.newEx (e':=some l) (fun H' k=>⟨fun e=>(by cases e),fun l' e=>?_⟩) fun H' v'=>q F' H' v' sd
    cases e
    exact ⟨xb,A,n,c,T,rfl,by rw [k xb hxm]; exact h2x,f0,hxm,slx,⟨hnl,o.cap⟩,sr⟩
  have s2:Sub H H2:=⟨fun b ob hb=>by rw [h2o b (fun e=>by rw [e,hHx] at hb; cases hb)]; exact s1.sub _ _ hb⟩
  rcases o.at_ with ⟨a1,a2,a3⟩ | ⟨bb,cur,T',a1,a2,a3,a4,a5⟩
  · refine key F (h.grow s2) (none_below h.fh hHx) (.inl ?_) ⟨fun _ _ k=>k⟩
    have:l.length = 0:=by omega
    rw [List.length_eq_zero_iff.1 this]; rfl
  · have hHb:H bb = none:=none_below s0 a2
    have hFb:F bb = none:=none_below h.fh hHb
    have hGb:G bb = none:=none_below h.gf hFb
    have hbx:bb ≠ xb:=fun e=>by rw [e,hxb] at a3; cases a3
    have hd:Sub (dif F G) (dif (F.upd bb (.cells cur T' (0,0))) G):=⟨fun i x k=>by
      have hne:i ≠ bb:=fun e=>by subst e; unfold dif at k; split at k; cases k; rw [hFb] at k; cases k
      unfold dif at k ⊢
      rw [Heap.upd_other hne]; exact k⟩
    refine key (F.upd bb (.cells cur T' (0,0))) (h.frame (h.gf.trans (Sub.upd_new hFb)) ⟨fun i x k=>?_⟩ (fun b hn hs=>?_) hd) ?_ (.inr ⟨⟨bb,0,none⟩,a1,?_⟩) hd
    · by_cases hne:i = bb
      · subst hne; rw [Heap.upd_same] at k; rw [h2o _ hbx,a3]; exact k
      · rw [Heap.upd_other hne] at k; exact s2.sub _ _ (h.fh.sub _ _ k)
    · have hne:b ≠ bb:=fun e=>by rw [e,hHb] at hs; cases hs
      refine ⟨by rw [Heap.upd_other hne]; exact hn,?_⟩
      obtain ⟨x,hx⟩:=Option.isSome_iff_exists.1 hs
      rw [hx,s2.sub _ _ hx]
    · rw [Heap.upd_other hbx.symm]; exact none_below h.fh hHx
    · refine ⟨⟨cur,T',(0,0),?_,rfl,fun j v hv=>by simpa using a5 j v hv⟩⟩
      unfold dif
      rw [hGb]
      show (if (false:Bool) = true then none else _) = _
      rw [if_neg (by decide)]
      exact Heap.upd_same
end
end Go.Proofs.Ytjmdoiakcakfoaa
set_option maxRecDepth 100000
namespace Go.Proofs.Ytjmdoiakcakfoaa
open Go.Ax
section
variable {p:Prg} {L:LS} {now draw:Int} {rows:List Ev}
theorem TaskOf.sim (t : TaskOf p L now draw rows) (ok : Okp p) {h : List Ev} {e0 : Ev} (hl : L.h.length + rows.length ≤ h.length) (h0 : h[L.h.length]? = some e0) (he : e0 = ⟨L.s.count + 1, now, 2, L.s.count, 0, 0, 0, 0, 0⟩) (hc : ∀ j x, 0 < j → j < rows.length → h[L.h.length + j]? = some x → cmdM x.kind = true)
    (d:Int) (g:Good ((h.drop L.h.length).take rows.length ++ cmds (h.drop (L.h.length + rows.length))) rows) :
    VSim ((h.drop L.h.length).take rows.length ++ cmds (h.drop (L.h.length + rows.length))) ((L.s.ready_ draw).task p now) ((L.s.dm d (L.s.made.map fix7)).retask p h L.h.length now):=by
  obtain ⟨tm,-,-,hp⟩:=t.first ok
  have hk:=task_list h0 hp hl hc
  rw [← hk] at g ⊢
  rw [t.rows] at g
  refine task_sim ok (ready_inv t.lv.li.inv draw) (ready_tasks t.tk draw) rfl now d (m0:=L.s.made.map fix7) (l:=cmds (h.drop (L.h.length + 1))) ?_ g
  rw [he]; rfl
theorem take_at {h:List Ev} {n m j:Nat} {B:List Ev} (hj:j < m) (hl:n + m ≤ h.length):((h.drop n).take m ++ B)[j]? = h[n + j]?:=by
  rw [List.getElem?_append_left (by rw [List.length_take,List.length_drop]; omega),List.getElem?_take_of_lt hj,List.getElem?_drop]
theorem fix7_row {now:Int} {c:Int}:fix7 ⟨c + 1,now,2,c,0,0,0,0,0⟩ = ⟨c + 1,now,2,c,0,0,0,0,0⟩:=by unfold fix7; rw [if_neg (by show ¬ (2:Int) = 18; decide)]
theorem pre_at {h t:List Ev} {L:List Ev} (hp:L ++ t <+: h) {j:Nat} (hj:j < t.length):h[L.length + j]? = t[j]?:=by
  obtain ⟨q,rfl⟩:=hp
  rw [List.append_assoc,List.getElem?_append_right (by omega),List.getElem?_append_left (by omega)]
  congr 1; omega
theorem TaskOf.ends (t:TaskOf p L now draw rows) (ok:Okp p):((L.s.ready_ draw).task p now).expect = none ∧ ((L.s.ready_ draw).task p now).drift = false:=by
  have iv:=ready_inv t.lv.li.inv draw
  have tks:=ready_tasks t.tk draw
  have st:=task_steps ok iv tks now
  exact ⟨(st.pre rfl).1,(st.calm rfl).trans t.lv.calm⟩
theorem TaskOf.next (t : TaskOf p L now draw rows) (ok : Okp p) {h : List Ev} (hp : L.h ++ rows.map fix7 <+: h) (hcut : Cut h (L.h.length + rows.length)) (d : Int) :
    ∃ d',rep1 p h L.h.length (L.s.dm d (L.s.made.map fix7)) = .inr (L.h.length + rows.length,((L.s.ready_ draw).task p now).dm d' (((L.s.ready_ draw).task p now).made.map fix7)):=by
  obtain ⟨tm,r0,-,hpos⟩:=t.first ok
  have hmap:∀ j,j < rows.length → h[L.h.length + j]? = (rows[j]?).map fix7:=fun j hj=>by rw [pre_at hp (by rw [List.length_map]; exact hj),List.getElem?_map]
  have hl:L.h.length + rows.length ≤ h.length:=by have:=hp.length_le; rw [List.length_append,List.length_map] at this; exact this
  have h0:h[L.h.length]? = some ⟨L.s.count + 1,now,2,L.s.count,0,0,0,0,0⟩:=by
    have:=hmap 0 hpos
    rw [Nat.add_zero] at this
    rw [this,r0,Option.map_some,fix7_row]
  have hK:∀ k e,rows[k]? = some e → ((h.drop L.h.length).take rows.length ++ cmds (h.drop (L.h.length + rows.length)))[k]? = some (fix7 e):=fun k e he=>by
    rw [take_at (get_lt he) hl,hmap k (get_lt he),he]; rfl
  have sim:=t.sim ok hl h0 rfl (fun j x hj hj2 hx=>by
    rw [hmap j hj2] at hx
    obtain ⟨y,hy⟩:=get_some (l:=rows) (i:=j) hj2
    rw [hy] at hx; cases hx
    rw [fix7_kind]
    rw [t.rows] at hy
    exact (tm.row j y hy).2.2 (by omega)) d (fun k e w he hw _=>by rw [hK k e he] at hw; cases hw; rfl)
  rw [← t.rows] at *
  unfold rep1
  rw [h0]
  simp only
  rw [if_neg (by show ¬ (2:Int) ≠ 2; decide)]
  rcases sim with b | b
  · obtain ⟨d',l',e,hk⟩:=b.ex
    obtain ⟨x1,dr⟩:=t.ends ok
    have hl':l' = cmds (h.drop (L.h.length + rows.length)):=by
      have e1:(h.drop L.h.length).take rows.length = rows.map fix7:=by
        apply List.ext_getElem?
        intro j
        by_cases hj:j < rows.length
        · rw [List.getElem?_take_of_lt hj,List.getElem?_drop,hmap j hj,List.getElem?_map]
        · rw [List.getElem?_eq_none (by rw [List.length_take]; omega),List.getElem?_eq_none (by rw [List.length_map]; omega)]
      rw [e1,← t.rows] at hk
      exact List.append_cancel_left hk
    rw [e]
    have hmore:(((L.s.ready_ draw).task p now).rp d' l').more = false:=by
      rw [hl']
      cases hd:cmds (h.drop (L.h.length + rows.length)) with
      | nil=>rfl
      | cons x z =>
        show (!outsideM x) = false
        have hx:(cmds (h.drop (L.h.length + rows.length)))[0]? = some x:=by rw [hd]; rfl
        have hx2:=hx
        obtain ⟨q,hq⟩:=cmds_pre (h.drop (L.h.length + rows.length))
        have hx3:(h.drop (L.h.length + rows.length))[0]? = some x:=by rw [← hq,List.getElem?_append_left (get_lt hx)]; exact hx
        have hcm:=(cmds_at _ 0 x (Nat.zero_le _) hx3).2 (get_lt hx)
        rw [List.getElem?_drop,Nat.add_zero] at hx3
        rw [hcut x hx3 hcm]; rfl
    have hd:(((L.s.ready_ draw).task p now).rp d' l').drift = false:=dr
    rw [hd,hmore,if_neg (by decide)]
    refine ⟨d',?_⟩
    have hlen:(((L.s.ready_ draw).task p now).rp d' l').made.length = rows.length:=by show (((L.s.ready_ draw).task p now).made.map fix7).length = _; rw [List.length_map,← t.rows]
    rw [hlen]
    have:(((L.s.ready_ draw).task p now).rp d' l').noExp = ((L.s.ready_ draw).task p now).dm d' (((L.s.ready_ draw).task p now).made.map fix7):=by
      unfold VS.rp VS.dm VS.noExp
      rw [← x1]
    rw [this,← t.rows]
  · obtain ⟨k,e,q1,q2,q3,q4,q5⟩:=b.ex
    rw [← t.rows] at q1
    exact absurd (hK k e q1) q5
end
section
variable {p:Prg}
theorem Lived.init:Lived p LS.init:=by
  refine ⟨LInv.init p,BI.init,rfl,fun h hb hp hc=>⟨0,0,rfl,fun j hj=>by omega⟩⟩
theorem idle {L:LS} (lv:Lived p L) (n:Int) (hn:L.now ≤ n ∧ n ≤ 1099511627776):Lived p ⟨L.s,L.h,n⟩:=⟨⟨lv.li.inv,lv.li.x,lv.li.c⟩,lv.bi.later hn.1 hn.2,lv.calm,lv.goes⟩
theorem clock_ok {L:LS} (b:BI L.h L.now L.s) (a:ActM):L.now ≤ L.clock a ∧ L.clock a ≤ 1099511627776:=by
  have:=b.n0
  unfold LS.clock
  split
  · rename_i q; simp at q; omega
  · omega
theorem LS.task_of {L:LS} (lv:Lived p L) (a:ActM) (tk:L.s.taskE (L.clock a) = 0):TaskOf p L (L.clock a) a.value ((L.s.ready_ a.value).task p (L.clock a)).made :=
  ⟨lv,tk,lv.bi.later (clock_ok lv.bi a).1 (clock_ok lv.bi a).2,rfl⟩
theorem step_task {L:LS} (lv:Lived p L) (a:ActM) (h1:a.kind ≠ 1) (h2:a.kind = 2) (tk:L.s.taskE (L.clock a) = 0):L.step p a = ⟨(L.s.ready_ a.value).task p (L.clock a),L.h ++ ((L.s.ready_ a.value).task p (L.clock a)).made.map fix7,L.clock a⟩:=by
  unfold LS.step
  rw [if_neg h1,if_pos h2,if_neg (by rw [Task_ok]; simp [tk])]
  rw [Task_eq,if_neg (by rw [tk]; simp)]
  show (⟨_,(L.h ++ ((L.s.ready_ a.value).task p (L.clock a)).made).map fix7,_⟩:LS) = _
  rw [List.map_append,lv.bi.fixd]
theorem Lived.step (ok:Okp p) {L:LS} (lv:Lived p L) (a:ActM):Lived p (L.step p a):=by
  have li':=lv.li.step ok a
  have bi':=LS.bi ok lv.li lv.bi a
  by_cases h1:a.kind = 1
  · by_cases hs:stand (L.h ++ [L.next a]) < (L.h ++ [L.next a]).length
    · have e:L.step p a = L:=by unfold LS.step; rw [if_pos h1,if_pos hs]
      rw [e]; exact lv
    · rcases apply_cases L.s (L.next a) with ⟨e1,e2⟩ | ⟨e1,ho,hr,e2⟩
      · have e:L.step p a = L:=by unfold LS.step; rw [if_pos h1,if_neg hs,if_neg e1,e2]
        rw [e]; exact lv
      · have e:L.step p a = ⟨(L.s.apply (L.next a)).2,L.h ++ [L.next a],L.now⟩:=by unfold LS.step; rw [if_pos h1,if_neg hs,if_pos e1]
        rw [e] at li' bi' ⊢
        have tk:=taken hr
        obtain ⟨m1,m2⟩:=applied_rest L.s.counted (L.next a)
        have hmade:(L.s.apply (L.next a)).2.made = L.s.made:=by rw [e2]; exact m1
        refine ⟨li',bi',by show (L.s.apply (L.next a)).2.drift = false; rw [e2]; exact m2.trans lv.calm,fun h hb hp hc=>?_⟩
        have hp1:L.h <+: h:=(List.prefix_append _ _).trans hp
        have hat:h[L.h.length]? = some (L.next a):=by have:=pre_at hp (j:=0) (by simp); rw [Nat.add_zero] at this; rw [this]; rfl
        have hk:=out_kind tk.out
        obtain ⟨n,d,g⟩:=lv.goes h hb hp1 (fun x hx _=>by rw [hat] at hx; cases hx; exact tk.out)
        have hlt:=get_lt hat
        have ri:=lv.repIn hb hlt d (fun e he hk2=>by rw [hat] at he; cases he; omega)
        refine ⟨n + 1,d,?_⟩
        have r1:rep1 p h L.h.length (L.s.dm d (L.s.made.map fix7)) = .inr (L.h.length + 1,(L.s.apply (L.next a)).2.dm d (L.s.made.map fix7)):=by
          unfold rep1
          rw [hat]
          simp only
          rw [if_pos (by omega),dm_apply,if_neg (by rw [e1]; simp)]
        have g2:=g.next ri hlt r1
        show Goes p h (n + 1) (L.h ++ [L.next a]).length ((L.s.apply (L.next a)).2.dm d ((L.s.apply (L.next a)).2.made.map fix7))
        rw [hmade,List.length_append,List.length_singleton]
        exact g2
  · by_cases h2:a.kind = 2
    · by_cases tk:L.s.taskE (L.clock a) = 0
      · have e:=step_task lv a h1 h2 tk
        rw [e] at li' bi' ⊢
        have t:=LS.task_of lv a tk
        refine ⟨li',bi',(t.ends ok).2,fun h hb hp hc=>?_⟩
        have hc:Cut h (L.h.length + ((L.s.ready_ a.value).task p (L.clock a)).made.length):=by
          have:Cut h (L.h ++ ((L.s.ready_ a.value).task p (L.clock a)).made.map fix7).length:=hc
          rw [List.length_append,List.length_map] at this; exact this
        have hp:L.h ++ ((L.s.ready_ a.value).task p (L.clock a)).made.map fix7 <+: h:=hp
        obtain ⟨-,r0,-,hpos⟩:=t.first ok
        have hat:h[L.h.length]? = some ⟨L.s.count + 1,L.clock a,2,L.s.count,0,0,0,0,0⟩:=by
          have:=pre_at hp (j:=0) (by rw [List.length_map]; exact hpos)
          rw [Nat.add_zero] at this
          rw [this,List.getElem?_map,r0,Option.map_some,fix7_row]
        obtain ⟨n,d,g⟩:=lv.goes h hb ((List.prefix_append _ _).trans hp) (fun x hx hcm=>by rw [hat] at hx; cases hx; cases hcm)
        have hlt:=get_lt hat
        obtain ⟨o1,-,o3,-⟩:=taskE_ok tk
        have ri:=lv.repIn hb hlt d (fun e he hk2=>⟨o1,by omega⟩)
        obtain ⟨d',r1⟩:=t.next ok hp hc d
        refine ⟨n + 1,d',?_⟩
        have g2:=g.next ri hlt r1
        show Goes p h (n + 1) (L.h ++ ((L.s.ready_ a.value).task p (L.clock a)).made.map fix7).length _
        rw [List.length_append,List.length_map]
        exact g2
      · have e : L.step p a = ⟨L.s, L.h, L.clock a⟩ := by
          have tk':(L.s.Task p (L.clock a) a.value).1.2 ≠ 0:=by rw [Task_ok]; exact tk
          unfold LS.step
          rw [if_neg h1,if_pos h2,if_pos tk',Task_no tk']
        rw [e]; exact idle lv _ (clock_ok lv.bi a)
    · have e:L.step p a = L:=by unfold LS.step; rw [if_neg h1,if_neg h2]
      rw [e]; exact lv
theorem Lived.all (ok:Okp p) (l:List ActM):Lived p (liveAll p l):=by
  have:∀ (l:List ActM) (L:LS),Lived p L → Lived p (l.foldl (LS.step p) L):=fun l=>by
    induction l with
    | nil=>exact fun L h=>h
    | cons a l ih=>exact fun L h=>ih _ (h.step ok a)
  exact this l _ Lived.init
structure Seg (p:Prg) (H:List Ev) (i:Nat):Prop where
  ex:∃ L now draw rows,TaskOf p L now draw rows ∧ L.h ++ rows.map fix7 <+: H ∧ L.h.length ≤ i ∧ i < L.h.length + rows.length
theorem Seg.all (ok:Okp p) (l:List ActM):∀ i x,(liveAll p l).h[i]? = some x → cmdM x.kind = true → outsideM x = false → Seg p (liveAll p l).h i:=by
  have:∀ (l:List ActM) (L:LS),Lived p L → (∀ i x,L.h[i]? = some x → cmdM x.kind = true → outsideM x = false → Seg p L.h i) → ∀ i x,(l.foldl (LS.step p) L).h[i]? = some x → cmdM x.kind = true → outsideM x = false → Seg p (l.foldl (LS.step p) L).h i:=fun l=>by
    induction l with
    | nil=>exact fun L _ h=>h
    | cons a l ih =>
      refine fun L lv hs=>ih _ (lv.step ok a) fun i x hx hc ho=>?_
      have old:∀ {t:List Ev},i < L.h.length → (L.h ++ t)[i]? = some x → Seg p (L.h ++ t) i:=fun {t} hi hx=>by
        rw [List.getElem?_append_left hi] at hx
        obtain ⟨L1,now,draw,rows,q1,q2,q3,q4⟩:=(hs i x hx hc ho).ex
        exact ⟨L1,now,draw,rows,q1,q2.trans (List.prefix_append _ _),q3,q4⟩
      by_cases h1:a.kind = 1
      · by_cases hst:stand (L.h ++ [L.next a]) < (L.h ++ [L.next a]).length
        · have e:L.step p a = L:=by unfold LS.step; rw [if_pos h1,if_pos hst]
          rw [e] at hx ⊢; exact hs i x hx hc ho
        · rcases apply_cases L.s (L.next a) with ⟨e1,e2⟩ | ⟨e1,-,hr,e2⟩
          · have e:L.step p a = L:=by unfold LS.step; rw [if_pos h1,if_neg hst,if_neg e1,e2]
            rw [e] at hx ⊢; exact hs i x hx hc ho
          · have e:L.step p a = ⟨(L.s.apply (L.next a)).2,L.h ++ [L.next a],L.now⟩:=by unfold LS.step; rw [if_pos h1,if_neg hst,if_pos e1]
            rw [e] at hx ⊢
            rcases snoc_get hx with ⟨hi,-⟩ | ⟨-,rfl⟩
            · exact old hi hx
            · rw [(taken hr).out] at ho; cases ho
      · by_cases h2:a.kind = 2
        · by_cases tk:L.s.taskE (L.clock a) = 0
          · have e:=step_task lv a h1 h2 tk
            rw [e] at hx ⊢
            by_cases hi:i < L.h.length
            · exact old hi hx
            · have hl:=get_lt hx
              rw [List.length_append,List.length_map] at hl
              exact ⟨L,_,_,_,LS.task_of lv a tk,List.prefix_rfl,by omega,hl⟩
          · have tk':(L.s.Task p (L.clock a) a.value).1.2 ≠ 0:=by rw [Task_ok]; exact tk
            have e:L.step p a = ⟨L.s,L.h,L.clock a⟩:=by
              unfold LS.step
              rw [if_neg h1,if_pos h2,if_pos tk',Task_no tk']
            rw [e] at hx ⊢; exact hs i x hx hc ho
        · have e:L.step p a = L:=by unfold LS.step; rw [if_neg h1,if_neg h2]
          rw [e] at hx ⊢; exact hs i x hx hc ho
  exact this l _ Lived.init fun i x hx=>by cases hx
end
end Go.Proofs.Ytjmdoiakcakfoaa
set_option maxRecDepth 100000
namespace Go.Proofs.Ytjmdoiakcakfoaa
open Go.Ax
theorem FStep.longer {p:Prg} {b:Bool} {s s':VS} (q:FStep p b s s'):s.made.length ≤ s'.made.length:=by
  have live:∀ e:Ev,s.made.length ≤ (s.emit0 e).2.made.length:=fun e=>by
    have k:=emits s e
    generalize s.emit0 e = q at k ⊢
    cases k with
    | live h=>show _ ≤ (s.made ++ [e]).length; rw [List.length_append]; omega
    | none h=>exact Nat.le_refl _
    | other w l h=>exact Nat.le_refl _
    | same w l h=>show _ ≤ (s.made ++ [w]).length; rw [List.length_append]; omega
  cases q with
  | emit e ho hc=>unfold VS.emit; split <;> exact live _
  | fails c ho=>exact live _
  | done i v k=>rcases setDone_cases s i v k with e | ⟨f,-,-,-,e⟩ <;> rw [e] <;> exact Nat.le_refl _
  | mark i=>rcases mark_cases s i with e | ⟨c,-,e⟩ <;> rw [e] <;> exact Nat.le_refl _
  | _=>exact Nat.le_refl _
theorem FSteps.longer {p:Prg} {b:Bool} {s s':VS} (q:FSteps p b s s'):s.made.length ≤ s'.made.length:=by
  induction q with
  | refl=>exact Nat.le_refl _
  | tail _ q ih=>exact Nat.le_trans ih q.longer
theorem retask_ok {p:Prg} (ok:Okp p) {s:VS} {l:List Ev} (iv:Inv p (s.exp l)) (tk:Tasks (s.exp l)) (now:Int):Inv p ((s.exp l).task p now) ∧ ((s.exp l).task p now).expect.isSome = true ∧ 1 ≤ ((s.exp l).task p now).made.length:=by
  have h0:=begin_inv iv tk now
  have st:=task_steps ok iv tk now
  exact ⟨(st.inv h0.1 h0.2).1,st.some_ rfl,st.longer⟩
section
variable {p:Prg} {G H:Heap} {m:Nat} {pf po:SlH} {sl:Nat → SlH} {F:Heap} {ex:Value} {st:List SlH} {s:VS}
theorem VMX.c35 (h:VMX G H m pf po sl F ex st s):At H ((⟨m,0,none⟩:Addr).add 35) [.bool s.drift]:=h.cell rfl
structure RRep (p:Prg) (h:List Ev) (H0:Heap) (m:Nat) (pf po:SlH) (x:Int) (H1:Heap):Prop where
  out:∃ j k s,x = (k:Nat) ∧ k ≤ 600 ∧ repN p h j = .inr (k,s) ∧ VMP p H0 H1 m pf po .nilFunc s
structure RepR (p:Prg) (h:List Ev) (H0:Heap) (v:Value) (H':Heap):Prop where
  out:(∃ j a,repN p h j = .inl a ∧ v = .tuple #[.pointer none,.int .i64 53,.int .i64 (a:Nat)] ∧ Sub H0 H') ∨
    (∃ j k s m pf po,repN p h j = .inr (k,s) ∧ h.length ≤ k ∧ v = .tuple #[.pointer (some ⟨m,0,none⟩),.int .i64 0,.int .i64 0] ∧ VMP p H0 H' m pf po .nilFunc s)
theorem repN_succ {h:List Ev} {j k:Nat} {s:VS} (e:repN p h j = .inr (k,s)) (hk:k < h.length):repN p h (j + 1) = rep1 p h k s:=by
  show (match repN p h j with | .inl a=>_ | .inr (k,s)=>_) = _
  rw [e]
  show (if k < h.length then _ else _) = _
  rw [if_pos hk]
theorem t22 {H : Heap} {fA oA : Option Addr} {fn fc on oc : Nat} {p : Prg} (ok : Okp p) (hp : HasP H fA fn oA on p) {A : Option Addr} {n c : Nat} {h : List Ev} (he : HasEvs H A n h) (hcap : n ≤ c) (hb : h.length ≤ 256) (hs : stand h = h.length)
    (hok:∀ j k s,repN p h j = .inr (k,s) → k < h.length → RepIn p h k s) :
    Tr Try.prog 22 #[.agg #[.slice fA fn fc,.slice oA on oc],.slice A n c] H fun v H'=>RepR p h H v H':=by
  have hn:=he.len
  apply v22; unfold F22
  refine (t25 hp).mono fun v H1 hr=>?_
  rcases hr with ⟨hne,-⟩ | ⟨-,m,pf,po,hv,s1,w⟩
  · exact absurd (ok_check ok) (fun e=>hne (by rw [e]))
  have gc:=t21 (c:=c) (by omega) (he.sub s1)
  have hcv:¬ stand h < h.length:=by omega
  have cv:checkV h = .tuple #[.int .i64 0,.int .i64 0]:=by unfold checkV; rw [if_neg hcv]
  rw [cv] at gc
  refine ⟨some ⟨m,0,none⟩,0,hv,fun e=>absurd e (by simp),fun _=>⟨_,_,gc,fun e=>absurd e (by simp),fun _=>⟨RRep p h H m pf po,fun x _=>((n:Int) - x).toNat,⟨0,0,VS.init,rfl,by decide,rfl,w⟩,fun x H2 r=>?_⟩⟩⟩
  obtain ⟨j,k,s,rfl,hk6,hj,w2⟩:=r.out
  refine ⟨fun hlt=>?_,fun hge=>?_⟩
  · have hlt:(k:Int) < (n:Int):=of_decide_eq_true hlt
    have hkl:k < h.length:=by omega
    have ri:=hok j k s hj hkl
    obtain ⟨e,hek⟩:=get_some hkl
    have g2:=w2.gh
    obtain ⟨a,ha,hat⟩:=he.at_ k e hek
    have bd:A = some a ∧ (0:Int) ≤ (k:Int) ∧ (k:Int) < (n:Int):=⟨ha,by omega,hlt⟩
    have hw1:IntKind.i64.wrap ((k:Int) + 1) = ((k + 1:Nat):Int):=by rw [wrapi (by omega) (by omega)]; rfl
    rw [hw1]
    obtain ⟨sl2,F2,st2,v2,p2⟩:=w2.out
    refine ⟨a,bd,e.kind,at_one 2 (hat.sub g2) rfl,fun e2=>?_,fun e2=>?_⟩
    · have e2:e.kind ≠ 2:=by simpa using e2
      refine ⟨a,bd,_,_,_,_,_,_,_,_,_,hat.sub g2,(t12 ok v2 p2 ri.inv e).mono fun v3 H3 ⟨hv3,w3⟩=>⟨_,hv3,fun e3=>?_,fun e3=>?_⟩⟩
      · have e3:(s.apply e).1 ≠ 0:=by simpa using e3
        refine ⟨.inl ⟨j + 1,k,?_,rfl,w3.gh⟩⟩
        rw [repN_succ hj hkl]
        unfold rep1
        rw [hek]
        simp only
        rw [if_pos e2,if_pos e3]
      · have e3:(s.apply e).1 = 0:=by simpa using e3
        refine ⟨⟨j + 1,k + 1,_,rfl,by omega,?_,w3⟩,by show ((n:Int) - ((k + 1:Nat):Int)).toNat < ((n:Int) - (k:Int)).toNat; omega⟩
        rw [repN_succ hj hkl]
        unfold rep1
        rw [hek]
        simp only
        rw [if_pos e2,if_neg (by rw [e3]; simp)]
    · have e2:e.kind = 2:=by simpa using e2
      obtain ⟨tk,ivx⟩:=ri.tk e hek e2
      obtain ⟨iv5,so5,len5⟩:=retask_ok ok ivx tk e.time
      refine (t40 (fr:=k + 1)).mono fun v3 H3 ⟨b,b1,hv3,hb3,hb4,s3⟩=>⟨_,_,_,hv3,?_⟩
      have s03:Sub H H3:=g2.trans s3
      rw [hn] at hb3
      refine (t39 (l:=h) hb3 hb4 (by omega) (by omega) (by rw [← hn]; exact he.sub s03) (by omega)).mono fun v4 H4 ⟨A4,n4,c4,hv4,o4⟩=>⟨A4,n4,c4,hv4,?_⟩
      apply v38; unfold F38
      intro xb hxb H5 e5
      refine ⟨_,_,_,rfl,_,rfl,?_⟩
      refine v2.expects s3 o4 hxb e5 fun F6 H6 v6 d6=>?_
      have w6:VMP p H H6 m pf po (.func (.func 60) #[] #[.pointer (some ⟨xb,0,none⟩)]) (s.exp (cmds (h.drop (k + 1)))):=⟨sl2,F6,st2,v6,p2.sub d6⟩
      refine ⟨a,bd,e.time,at_one 1 (hat.sub w6.gh) rfl,(t31 ok v6 (p2.sub d6) ivx tk e.time).mono fun v7 H7 ⟨hv7,w7⟩=>⟨hv7,?_⟩⟩
      obtain ⟨sl7,F7,st7,v7',p7⟩:=w7.out
      obtain ⟨l7,hl7⟩:=Option.isSome_iff_exists.1 so5
      obtain ⟨all,hf,td⟩:=t60 v7' hl7
      have hml:=iv5.made
      have hc5:=iv5.c0
      have r1:repN p h (j + 1) = if ((s.retask p h k e.time).drift || (s.retask p h k e.time).more) = true then .inl (k + (s.retask p h k e.time).made.length) else .inr (k + (s.retask p h k e.time).made.length,(s.retask p h k e.time).noExp):=by
        rw [repN_succ hj hkl]
        unfold rep1
        rw [hek]
        simp only
        rw [if_neg (by omega)]
      have eS:(s.exp (cmds (h.drop (k + 1)))).task p e.time = s.retask p h k e.time:=rfl
      rw [eS] at v7' hl7 hml hc5 len5 td
      generalize s.retask p h k e.time = S at v7' hl7 hml hc5 len5 td r1
      refine ⟨_,_,hf,td.mono fun v8 H8 r8=>?_⟩
      have nx:∃ (y:Ev) (b:Bool) (l8:List Ev),v8 = .tuple #[y.val,.bool b] ∧ VMX H H8 m pf po sl7 F7 (.func (.func 60) #[] #[.pointer (some ⟨xb,0,none⟩)]) st7 { S with expect:=some l8 } ∧ S.more = (b && !outsideM y):=by
        rcases r8 with ⟨e8,e9,e10⟩ | ⟨y,l8,e8,e9,v9⟩
        · refine ⟨Ev.zero,false,l7,e9,?_,?_⟩
          · rw [e10,← hl7]; exact v7'
          · unfold VS.more; rw [hl7,e8]; rfl
        · refine ⟨y,true,l8,e9,v9,?_⟩
          unfold VS.more; rw [hl7,e8]; rfl
      obtain ⟨y,b,l8,hv8,v8',hmore⟩:=nx
      refine ⟨_,_,_,_,_,_,_,_,_,b,hv8,_,rfl,v8'.noEx fun H9 v9=>?_⟩
      have hml9:=v9.madeLen
      have hml9:(sl7 5).n = S.made.length:=hml9
      have w9:VMP p H H9 m pf po .nilFunc S.noExp:=⟨sl7,F7,st7,v9,p7⟩
      have hw2:IntKind.i64.wrap ((k:Int) + ((sl7 5).n:Int)) = ((k + S.made.length:Nat):Int):=by rw [hml9,wrapi (by omega) (by omega)]; rfl
      refine ⟨_,rfl,_,_,_,v9.c32,_,rfl,S.drift,v9.c35,outsideM y,fun _=>t28 y H9,fun e=>?_,fun e=>?_⟩
      · rw [hw2]
        refine ⟨.inl ⟨j + 1,k + S.made.length,?_,rfl,w9.gh⟩⟩
        rw [r1,hmore,if_pos e]
      · rw [hw2]
        refine ⟨⟨j + 1,k + S.made.length,_,rfl,by omega,?_,w9⟩,by show ((n:Int) - ((k + S.made.length:Nat):Int)).toNat < ((n:Int) - (k:Int)).toNat; omega⟩
        rw [r1,hmore,if_neg (by rw [e]; decide)]
  · have hge:=of_decide_eq_false hge
    exact ⟨.inr ⟨j,k,s,m,pf,po,hj,by omega,rfl,w2⟩⟩
end
end Go.Proofs.Ytjmdoiakcakfoaa
set_option maxRecDepth 100000
namespace Go.Proofs.Ytjmdoiakcakfoaa
open Go.Ax
structure Grow (s s':VS):Prop where
  futs:∀ (i:Nat) (f:Fut),s.futures[i]? = some f → ∃ f',s'.futures[i]? = some f' ∧ f'.kind = f.kind ∧ f'.event = f.event ∧ f'.scope = f.scope ∧ (f.done = true → f' = f)
  scps:∀ (i:Nat) (c:Scp),s.scopes[i]? = some c → ∃ c',s'.scopes[i]? = some c' ∧ c'.parent = c.parent ∧ (c.cancelled = true → c'.cancelled = true)
theorem Grow.refl (s:VS):Grow s s:=⟨fun _ f h=>⟨f,h,rfl,rfl,rfl,fun _=>rfl⟩,fun _ c h=>⟨c,h,rfl,id⟩⟩
theorem Grow.trans {a b c:VS} (h:Grow a b) (k:Grow b c):Grow a c:=by
  refine ⟨fun i f hf=>?_,fun i x hx=>?_⟩
  · obtain ⟨g,h1,h2,h3,h4,h5⟩:=h.futs i f hf
    obtain ⟨g2,k1,k2,k3,k4,k5⟩:=k.futs i g h1
    exact ⟨g2,k1,k2.trans h2,k3.trans h3,k4.trans h4,fun e=>by have:=h5 e; subst this; exact k5 e⟩
  · obtain ⟨g,h1,h2,h3⟩:=h.scps i x hx
    obtain ⟨g2,k1,k2,k3⟩:=k.scps i g h1
    exact ⟨g2,k1,k2.trans h2,fun e=>k3 (h3 e)⟩
theorem Ext.grow {s s':VS} (h:Ext s s'):Grow s s':=⟨h.futs,h.scps⟩
theorem Grow.same {s s':VS} (h1:s'.futures = s.futures) (h2:s'.scopes = s.scopes):Grow s s' :=
  ⟨fun i f h=>⟨f,by rw [h1]; exact h,rfl,rfl,rfl,fun _=>rfl⟩,fun i c h=>⟨c,by rw [h2]; exact h,rfl,id⟩⟩
theorem Task_grow {p:Prg} (ok:Okp p) {s:VS} (iv:Inv p s) (now draw:Int):Grow s (s.Task p now draw).2:=by
  rw [Task_eq]
  split
  · exact .refl s
  · rename_i h
    have st:=task_steps ok (ready_inv iv draw) (ready_tasks (Decidable.not_not.1 h) draw) now
    have g:Grow s ((s.ready_ draw).begin_ now):=.same rfl rfl
    exact g.trans st.ext.grow
theorem applied_grow (s:VS) (e:Ev):Grow s (s.applied e):=by
  have c:∀ {P:Prop} [Decidable P] {x y:VS},Grow s x → Grow s y → Grow s (if P then x else y):=fun h1 h2=>by split; exact h1; exact h2
  have d:∀ i v k,Grow s (s.setDone i v k):=fun i v k=>(Ext.done s i v k).grow
  unfold VS.applied
  exact c (.same rfl rfl) (c (.same rfl rfl) (c (.same rfl rfl) (c (.same rfl rfl) (c (d _ _ _) (c (d _ _ _) (c (d _ _ _) (c (d _ _ _) (c (d _ _ _) (c (.same rfl rfl) (.refl s))))))))))
theorem apply_grow (s:VS) (e:Ev):Grow s (s.apply e).2:=by
  rcases apply_cases s e with ⟨-,h⟩ | ⟨-,-,-,h⟩
  · rw [h]; exact .refl s
  · rw [h]
    have g:Grow s s.counted:=.same rfl rfl
    exact g.trans (applied_grow _ _)
def moreStep (p:Prg) (s:VS) (a:ActM):VS :=
  if a.kind = 1 then (s.apply { a.e with id:=s.count + 1 }).2 else if a.kind = 2 then (s.Task p a.time a.value).2 else s
def moreAll (p:Prg) (s:VS) (l:List ActM):VS:=l.foldl (moreStep p) s
theorem apply_expect (s:VS) (e:Ev):(s.apply e).2.expect = s.expect:=by
  rcases apply_cases s e with ⟨-,h⟩ | ⟨-,-,-,h⟩
  · rw [h]
  · rw [h,(applied_count _ _).2]; rfl
structure More (p:Prg) (s s':VS):Prop where
  inv:Inv p s'
  x:s'.expect = none
  g:Grow s s'
theorem More.step {p:Prg} (ok:Okp p) {s0 s:VS} (h:More p s0 s) (a:ActM):More p s0 (moreStep p s a):=by
  unfold moreStep
  split
  · exact ⟨apply_inv ok h.inv h.x,(apply_expect _ _).trans h.x,h.g.trans (apply_grow _ _)⟩
  · split
    · exact ⟨Task_inv ok h.inv _ _,Task_expect ok h.inv h.x _ _,h.g.trans (Task_grow ok h.inv _ _)⟩
    · exact h
theorem More.all {p:Prg} (ok:Okp p) {s:VS} (iv:Inv p s) (hx:s.expect = none) (l:List ActM):More p s (moreAll p s l):=by
  have:∀ (l:List ActM) (s':VS),More p s s' → More p s (l.foldl (moreStep p) s'):=fun l=>by
    induction l with
    | nil=>exact fun s' h=>h
    | cons a l ih=>exact fun s' h=>ih _ (h.step ok a)
  exact this l s ⟨iv,hx,.refl s⟩
def Fut.beq (a b:Fut):Bool:=a.kind == b.kind && (a.event == b.event && (a.scope == b.scope && (a.done == b.done && (a.value == b.value && (a.status == b.status && true)))))
end Go.Proofs.Ytjmdoiakcakfoaa
set_option maxRecDepth 100000
set_option linter.unusedVariables false
namespace Go.Proofs.Ytjmdoiakcakfoaa
open Go.Ax
theorem hasL_at {H:Heap} {q:SlH} {l:List Int} (h:HasL H q l) {i:Nat} {x:Int} (hi:l[i]? = some x):∃ a,q.A = some a ∧ At H (a.add (i * 1)) [.int .i64 x]:=by
  rcases h.src with e | ⟨a,ha,hat⟩
  · have:=congrArg List.length e
    unfold intsC at this
    rw [List.length_map] at this
    have this:l.length = 0:=this
    have:=get_lt hi
    omega
  · refine ⟨a,ha,?_⟩
    rw [Nat.mul_one]
    exact at_one i hat (by unfold intsC; rw [List.getElem?_map,hi]; rfl)
theorem t42 {H:Heap} {q q':SlH} {l:List Int} (h:HasL H q l) (h':HasL H q' l) (hb:l.length ≤ 100000000):Tr Try.prog 42 #[.slice q.A q.n q.c,.slice q'.A q'.n q'.c] H fun v H'=>v = .bool true ∧ Sub H H':=by
  have e1:=h.len
  have e2:=h'.len
  apply v42; unfold F42
  refine ⟨fun e=>?_,fun _=>⟨fun x H'=>H' = H ∧ ∃ j:Nat,x = j ∧ j ≤ l.length,fun x _=>((l.length:Int) - x).toNat,⟨rfl,0,rfl,Nat.zero_le _⟩,fun x H1 ⟨h1,j,hj,hl⟩=>?_⟩⟩
  · rw [e1,e2] at e; simp at e
  subst h1; subst hj
  refine ⟨fun hlt=>?_,fun _=>⟨rfl,Sub.refl _⟩⟩
  have hlt:(j:Int) < (q.n:Int):=of_decide_eq_true hlt
  obtain ⟨x,hx⟩:=get_some (l:=l) (i:=j) (by omega)
  obtain ⟨a,ha,hat⟩:=hasL_at h hx
  obtain ⟨a',ha',hat'⟩:=hasL_at h' hx
  have hw:IntKind.i64.wrap ((j:Int) + 1) = ((j + 1:Nat):Int):=by rw [wrapi (by omega) (by omega)]; rfl
  rw [hw]
  refine ⟨a,⟨ha,by omega,hlt⟩,x,hat,a',⟨ha',by omega,by omega⟩,x,hat',fun e=>?_,fun _=>⟨⟨rfl,j + 1,rfl,by omega⟩,by show ((l.length:Int) - ((j + 1:Nat):Int)).toNat < ((l.length:Int) - (j:Int)).toNat; omega⟩⟩
  simp at e
structure ThrsAt (H:Heap) (A:Option Addr) (n:Nat) (l:List Thr):Prop where
  out:∃ ths:List (Thr × SlH),ths.map (·.1) = l ∧ n = ths.length ∧ Src H A (ths.flatMap thrC) ∧ ∀ z ∈ ths,HasL H z.2 z.1.stack
theorem ThrsAt.nil (H:Heap) (A:Option Addr):ThrsAt H A 0 []:=⟨[],rfl,rfl,.inl rfl,fun z hz=>by cases hz⟩
theorem ThrsAt.at_ {H:Heap} {A:Option Addr} {n:Nat} {l:List Thr} (h:ThrsAt H A n l) {i:Nat} {t:Thr} (ht:l[i]? = some t):∃ a q,A = some a ∧ At H (a.add (i * 9)) (thrC (t,q)) ∧ HasL H q t.stack:=by
  obtain ⟨ths,h1,-,h3,h4⟩:=h.out
  rw [← h1,List.getElem?_map] at ht
  cases hz:ths[i]? with
  | none=>rw [hz] at ht; cases ht
  | some z =>
    rw [hz] at ht; cases ht
    obtain ⟨a,ha,hat⟩:=src_elem (cells:=thrC) (sz:=9) (fun _=>rfl) (by decide) h3 _ _ hz
    exact ⟨a,z.2,ha,hat,h4 z (List.mem_of_getElem? hz)⟩
theorem ThrsAt.len {H:Heap} {A:Option Addr} {n:Nat} {l:List Thr} (h:ThrsAt H A n l):n = l.length:=by
  obtain ⟨ths,h1,h2,-⟩:=h.out
  rw [← h1,List.length_map]; exact h2
theorem t41 {H:Heap} {A A':Option Addr} {n c n' c':Nat} {l:List Thr} (h:ThrsAt H A n l) (h':ThrsAt H A' n' l) (hb:l.length ≤ 100000000) (hs:∀ t ∈ l,t.stack.length ≤ 100000000):Tr Try.prog 41 #[.slice A n c,.slice A' n' c'] H fun v H'=>v = .bool true ∧ Sub H H':=by
  have e1:=h.len
  have e2:=h'.len
  apply v41; unfold F41
  refine ⟨fun e=>?_,fun _=>⟨fun x H'=>H' = H ∧ ∃ j:Nat,x = j ∧ j ≤ l.length,fun x _=>((l.length:Int) - x).toNat,⟨rfl,0,rfl,Nat.zero_le _⟩,fun x H1 ⟨h1,j,hj,hl⟩=>?_⟩⟩
  · rw [e1,e2] at e; simp at e
  subst h1; subst hj
  refine ⟨fun hlt=>?_,fun _=>⟨rfl,Sub.refl _⟩⟩
  have hlt:(j:Int) < (n:Int):=of_decide_eq_true hlt
  obtain ⟨t,ht⟩:=get_some (l:=l) (i:=j) (by omega)
  obtain ⟨a,q,ha,hat,hq⟩:=h.at_ ht
  obtain ⟨a',q',ha',hat',hq'⟩:=h'.at_ ht
  have hw:IntKind.i64.wrap ((j:Int) + 1) = ((j + 1:Nat):Int):=by rw [wrapi (by omega) (by omega)]; rfl
  rw [hw]
  refine ⟨a,⟨ha,by omega,hlt⟩,_,_,_,_,_,_,_,_,_,_,_,hat,a',⟨ha',by omega,by omega⟩,_,_,_,_,_,_,_,_,_,_,_,hat',true,t42 hq hq' (hs t (List.mem_of_getElem? ht)),fun e=>?_,fun _=>⟨⟨rfl,j + 1,rfl,by omega⟩,by show ((l.length:Int) - ((j + 1:Nat):Int)).toNat < ((l.length:Int) - (j:Int)).toNat; omega⟩⟩
  simp at e
def lookL (s:VS) (t f c g:Value):List Value:=cellsV 16 s.vars ++ cellsV 4 s.attrs ++ [.int .i64 s.now,t,f,c,g,.bool s.over]
theorem t23 {p : Prg} {H : Heap} {b : Nat} {T : TypeId} {s : VS} {tA fA cA gA tA' fA' cA' gA' : Option Addr} {tn fn cn gn tc fc cc gc tn' fn' cn' gn' tc' fc' cc' gc' : Nat} {rest : List Value}
    (hm:H b = some (.cells ⟨[.slice none 0 0,.slice none 0 0] ++ lookL s (.slice tA tn tc) (.slice fA fn fc) (.slice cA cn cc) (.slice gA gn gc) ++ rest⟩ T (0,0))) (la:LookAt H s tA fA cA gA tn fn cn gn) (la':LookAt H s tA' fA' cA' gA' tn' fn' cn' gn') (iv:Inv p s) :
    Tr Try.prog 23 #[.pointer (some ⟨b,0,none⟩),lookV s (.slice tA' tn' tc') (.slice fA' fn' fc') (.slice cA' cn' cc') (.slice gA' gn' gc')] H fun v H'=>v = .bool true ∧ Sub H H':=by
  have hall:At H (⟨b,0,none⟩:Addr) ([.slice none 0 0,.slice none 0 0] ++ lookL s (.slice tA tn tc) (.slice fA fn fc) (.slice cA cn cc) (.slice gA gn gc) ++ rest):=⟨⟨_,_,_,hm,rfl,fun j v hv=>by simpa using hv⟩⟩
  have hL:At H ((⟨b,0,none⟩:Addr).add 2) (lookL s (.slice tA tn tc) (.slice fA fn fc) (.slice cA cn cc) (.slice gA gn gc)):=at_take 26 (at_drop 2 hall)
  have h16:=iv.t16
  have hfm:=iv.many
  have hfu:=iv.fuel
  have hc0:=iv.c0
  have hsc:=iv.sc32
  have hg8:=iv.sg8
  have f1:=la.fut.1; have f2:=la'.fut.1; have c1:=la.scp.1; have c2:=la'.scp.1; have g1:=la.sig.1; have g2:=la'.sig.1
  obtain ⟨ths,th1,th2,th3,th4⟩:=la.thr
  obtain ⟨ths',th1',th2',th3',th4'⟩:=la'.thr
  have T1:ThrsAt H tA tn (if s.over = true then [] else s.threads):=⟨ths,th1,th2,th3,th4⟩
  have T2:ThrsAt H tA' tn' (if s.over = true then [] else s.threads):=⟨ths',th1',th2',th3',th4'⟩
  have hstk:∀ t ∈ (if s.over = true then [] else s.threads),t.stack.length ≤ 100000000:=fun t ht=>by
    split at ht
    · cases ht
    · have:=(iv.thr t ht).stack; omega
  have hthl:(if s.over = true then [] else s.threads).length ≤ 100000000:=by
    split
    · exact Nat.zero_le _
    · omega
  have thr0:s.over = true → Tr Try.prog 41 #[.slice tA' tn' tc',.slice none 0 0] H fun v H'=>v = .bool true ∧ Sub H H':=fun ho=>by
    rw [if_pos ho] at T2
    exact t41 T2 (ThrsAt.nil H none) (by simp) (fun t ht=>by cases ht)
  have thr1:Tr Try.prog 41 #[.slice tA' tn' tc',.slice tA tn tc] H fun v H'=>v = .bool true ∧ Sub H H':=t41 T2 T1 hthl hstk
  apply v23; unfold F23
  refine ⟨_,rfl,_,_,_,at_one 21 hL rfl,_,rfl,s.over,at_one 25 hL rfl,fun hb=>⟨true,thr0 hb,?_⟩,fun hb=>⟨true,thr1,?_⟩⟩
  all_goals
    refine ⟨_,fun _=>rfl,_,_,_,_,_,_,_,_,_,_,_,_,_,_,_,_,fun _=>at_take 16 (at_drop 0 hL),_,fun _=>rfl,_,_,_,_,fun _=>at_take 4 (at_drop 16 hL),_,fun _=>rfl,_,fun _=>at_one 20 hL rfl,_,fun _=>rfl,_,fun _=>at_one 25 hL rfl,_,fun _=>rfl,_,_,_,fun _=>at_one 22 hL rfl,_,fun _=>rfl,_,_,_,fun _=>at_one 23 hL rfl,fun e=>?_,
      fun _=>⟨fun x H'=>H' = H ∧ ∃ j:Nat,x = j ∧ j ≤ s.futures.length,fun x _=>((s.futures.length:Int) - x).toNat,⟨rfl,0,rfl,Nat.zero_le _⟩,fun x H1 ⟨h1,j,hj,hl⟩=>?_⟩⟩
    · exfalso
      rw [f1,f2,c1,c2,g2,hg8] at e
      simp at e
    subst h1; subst hj
    refine ⟨fun hlt=>?_,fun _=>⟨fun x H'=>H' = H1 ∧ ∃ j:Nat,x = j ∧ j ≤ s.scopes.length,fun x _=>((s.scopes.length:Int) - x).toNat,⟨rfl,0,rfl,Nat.zero_le _⟩,fun x H2 ⟨h2,i,hi,hil⟩=>?_⟩⟩
    · have hlt:(j:Int) < (fn':Int):=of_decide_eq_true hlt
      obtain ⟨f,hf⟩:=get_some (l:=s.futures) (i:=j) (by omega)
      obtain ⟨a,ha,hat⟩:=src_elem (cells:=futC) (sz:=6) (fun _=>rfl) (by decide) la.fut.2 _ _ hf
      obtain ⟨a',ha',hat'⟩:=src_elem (cells:=futC) (sz:=6) (fun _=>rfl) (by decide) la'.fut.2 _ _ hf
      have hw:IntKind.i64.wrap ((j:Int) + 1) = ((j + 1:Nat):Int):=by rw [wrapi (by omega) (by omega)]; rfl
      rw [hw]
      refine ⟨a',⟨ha',by omega,hlt⟩,_,_,_,_,_,_,hat',_,rfl,_,_,_,at_one 22 hL rfl,a,⟨ha,by omega,by omega⟩,_,_,_,_,_,_,hat,fun e=>?_,fun _=>⟨⟨rfl,j + 1,rfl,by omega⟩,by show ((s.futures.length:Int) - ((j + 1:Nat):Int)).toNat < ((s.futures.length:Int) - (j:Int)).toNat; omega⟩⟩
      simp at e
    subst h2; subst hi
    refine ⟨fun hlt=>?_,fun _=>⟨fun x H'=>H' = H2 ∧ ∃ j:Nat,x = j ∧ j ≤ 8,fun x _=>((8:Int) - x).toNat,⟨rfl,0,rfl,Nat.zero_le _⟩,fun x H3 ⟨h3,k,hk,hkl⟩=>?_⟩⟩
    · have hlt:(i:Int) < (cn':Int):=of_decide_eq_true hlt
      obtain ⟨f,hf⟩:=get_some (l:=s.scopes) (i:=i) (by omega)
      obtain ⟨a,ha,hat⟩:=src_elem (cells:=scpC) (sz:=2) (fun _=>rfl) (by decide) la.scp.2 _ _ hf
      obtain ⟨a',ha',hat'⟩:=src_elem (cells:=scpC) (sz:=2) (fun _=>rfl) (by decide) la'.scp.2 _ _ hf
      have hw:IntKind.i64.wrap ((i:Int) + 1) = ((i + 1:Nat):Int):=by rw [wrapi (by omega) (by omega)]; rfl
      rw [hw]
      refine ⟨a',⟨ha',by omega,hlt⟩,_,_,hat',_,rfl,_,_,_,at_one 23 hL rfl,a,⟨ha,by omega,by omega⟩,_,_,hat,fun e=>?_,fun _=>⟨⟨rfl,i + 1,rfl,by omega⟩,by show ((s.scopes.length:Int) - ((i + 1:Nat):Int)).toNat < ((s.scopes.length:Int) - (i:Int)).toNat; omega⟩⟩
      simp at e
    subst h3; subst hk
    refine ⟨fun hlt=>?_,fun _=>⟨rfl,Sub.refl _⟩⟩
    have hlt:(k:Int) < 8:=of_decide_eq_true hlt
    obtain ⟨-,hs,q1,q2,q3⟩:=la.sig
    obtain ⟨-,hs',q1',q2',q3'⟩:=la'.sig
    obtain ⟨lf,hlf⟩:=get_some (l:=s.signals) (i:=k) (by omega)
    obtain ⟨q,hq⟩:=get_some (l:=hs) (i:=k) (by omega)
    obtain ⟨q',hq'⟩:=get_some (l:=hs') (i:=k) (by omega)
    have sg:∀ {A:Option Addr} {zs:List SlH} {z:SlH},zs.length = s.signals.length → Src H3 A (zs.map SlH.v) → zs[k]? = some z → ∃ a,A = some a ∧ At H3 (a.add ((k:Int).toNat * 1)) [.slice z.A z.n z.c]:=fun {A zs z} e1 e2 e3=>by
      rcases e2 with e | ⟨a,ha,hat⟩
      · have:=congrArg List.length e
        rw [List.length_map] at this
        have this:zs.length = 0:=this
        omega
      · refine ⟨a,ha,?_⟩
        rw [Nat.mul_one]
        exact at_one _ hat (by rw [Int.toNat_natCast,List.getElem?_map,e3]; rfl)
    obtain ⟨a,ha,hat⟩:=sg q1 q2 hq
    obtain ⟨a',ha',hat'⟩:=sg q1' q2' hq'
    have hsl:(lf.length:Int) ≤ s.count:=iv.sig lf (List.mem_of_getElem? hlf)
    have hw:IntKind.i64.wrap ((k:Int) + 1) = ((k + 1:Nat):Int):=by rw [wrapi (by omega) (by omega)]; rfl
    rw [hw]
    refine ⟨a',⟨ha',by omega,by omega⟩,_,_,_,hat',_,rfl,_,_,_,at_one 24 hL rfl,a,⟨ha,by omega,by omega⟩,_,_,_,hat,true,t42 (q3' k q' lf hq' hlf) (q3 k q lf hq hlf) (by omega),fun e=>absurd e (by simp),fun _=>⟨⟨rfl,k + 1,rfl,by omega⟩,by show ((8:Int) - ((k + 1:Nat):Int)).toNat < ((8:Int) - (k:Int)).toNat; omega⟩⟩
end Go.Proofs.Ytjmdoiakcakfoaa
set_option maxRecDepth 100000
set_option linter.unusedVariables false
namespace Go.Proofs.Ytjmdoiakcakfoaa
open Go.Ax
section
variable {p:Prg} {G H:Heap} {m:Nat} {pf po:SlH} {ex:Value} {s:VS}
theorem VMP.ext (w:VMP p G H m pf po ex s) {b:Nat} (hb:H b = none) (o:Obj):VMP p (G.upd b o) (H.upd b o) m pf po ex s:=by
  obtain ⟨sl,F,st,h,pr⟩:=w.out
  exact ⟨sl,_,st,h.ext hb o,pr.sub (dif_ext (none_below h.fh hb) o)⟩
end
theorem back_rep {p : Prg} (ok : Okp p) (l : List ActM) : (∀ j k s, repN p (liveAll p l).h j = .inr (k, s) → k < (liveAll p l).h.length → RepIn p (liveAll p l).h k s) ∧
    ∃ (n:Nat) (d:Int),∀ H v H',RepR p (liveAll p l).h H v H' → ∃ m pf po,v = .tuple #[.pointer (some ⟨m,0,none⟩),.int .i64 0,.int .i64 0] ∧ VMP p H H' m pf po .nilFunc ((liveAll p l).s.dm d ((liveAll p l).s.made.map fix7)):=by
  have lv:=Lived.all ok l
  have h256:(liveAll p l).h.length ≤ 256:=by have:=lv.li.c; have:=lv.li.inv.c0; omega
  obtain ⟨n0,d,g⟩:=lv.goes _ h256 List.prefix_rfl (fun x hx=>by rw [List.getElem?_eq_none (Nat.le_refl _)] at hx; cases hx)
  generalize liveAll p l = L at *
  have st:=repN_inr g.at_ (Nat.le_refl _)
  refine ⟨fun j k s hj hk=>?_,n0,d,fun H v H' r=>?_⟩
  · rcases Nat.lt_or_ge j n0 with q | q
    · exact g.ok j q k s hj
    · have:=st (j - n0)
      rw [show n0 + (j - n0) = j by omega,hj] at this
      cases this; omega
  · rcases r.out with ⟨j,a,hj,-,-⟩ | ⟨j,k,s,m,pf,po,hj,hk,hv,w⟩
    · have e1:=repN_inl hj n0
      have e2:=st j
      rw [Nat.add_comm,e1] at e2; cases e2
    · have e1:=repN_inr hj hk n0
      have e2:=st j
      rw [Nat.add_comm,e1] at e2
      cases e2
      exact ⟨m,pf,po,hv,w⟩
end Go.Proofs.Ytjmdoiakcakfoaa
set_option maxRecDepth 100000
set_option linter.unusedVariables false
namespace Go.Ax
def addH (X H H0:Heap):Heap:=fun b=>match X b with
  | some o=>some o
  | none=>if (H0 b).isSome = true then none else H b
theorem Tr.frame {P : Program} {f : FuncId} {args : Array Value} {H0 H : Heap} {K : Value → Heap → Prop} (h : Tr P f args H0 K) (s : Sub H0 H) :
    Tr P f args H fun v H'=>∃ X,K v X ∧ Sub X H' ∧ ∀ b o,H0 b = none → H b = some o → H' b = some o ∧ X b = none:=by
  refine ⟨fun w hw=>(h.run w (hw.sub s)).mono fun e w' ⟨v,X,e1,kp,kk⟩=>⟨v,addH X H H0,e1,⟨fun b o hb=>?_,fun b hb hn=>?_,kp.size,kp.tape,kp.os,kp.output⟩,X,kk,⟨fun b o hb=>?_⟩,fun b o h0 hb=>?_⟩⟩
  · unfold addH at hb
    cases hX:X b with
    | some o'=>rw [hX] at hb; cases hb; exact kp.holds b o hX
    | none =>
      rw [hX] at hb
      simp only at hb
      split at hb
      · cases hb
      · rename_i hq
        have h0:H0 b = none:=by simpa using hq
        rw [(kp.old b (heap_lt (hw b o hb)) h0).1]; exact hw b o hb
  · have h0:=none_below s hn
    have:=kp.old b hb h0
    refine ⟨this.1,?_⟩
    unfold addH
    rw [this.2,h0]
    exact hn
  · unfold addH; rw [hb]
  · have hX:=(kp.old b (heap_lt (hw b o hb)) h0).2
    refine ⟨?_,hX⟩
    unfold addH
    rw [hX,h0]
    exact hb
structure Apart (G X Y H:Heap):Prop where
  gx:Sub G X
  gy:Sub G Y
  xh:Sub X H
  yh:Sub Y H
  ap:∀ b,(X b).isSome = true → (Y b).isSome = true → (G b).isSome = true
theorem Apart.symm {G X Y H:Heap} (a:Apart G X Y H):Apart G Y X H:=⟨a.gy,a.gx,a.yh,a.xh,fun b h1 h2=>a.ap b h2 h1⟩
theorem Apart.grow {G X Y H H':Heap} (a:Apart G X Y H) (s:Sub H H'):Apart G X Y H':=⟨a.gx,a.gy,a.xh.trans s,a.yh.trans s,a.ap⟩
theorem Apart.left {G X Y H X' H':Heap} (a:Apart G X Y H) (g:Sub G X') (s:Sub X' H') (k:∀ b o,X b = none → H b = some o → H' b = some o ∧ X' b = none):Apart G X' Y H':=by
  refine ⟨g,a.gy,s,⟨fun b o hb=>?_⟩,fun b h1 h2=>?_⟩
  · cases hX:X b with
    | none=>exact (k b o hX (a.yh.sub _ _ hb)).1
    | some x =>
      have:=a.ap b (by rw [hX]; rfl) (by rw [hb]; rfl)
      obtain ⟨y,hy⟩:=Option.isSome_iff_exists.1 this
      have:=a.gy.sub _ _ hy
      rw [hb] at this; cases this
      exact s.sub _ _ (g.sub _ _ hy)
  · cases hX:X b with
    | none =>
      obtain ⟨y,hy⟩:=Option.isSome_iff_exists.1 h2
      rw [(k b y hX (a.yh.sub _ _ hy)).2] at h1; cases h1
    | some x=>exact a.ap b (by rw [hX]; rfl) h2
end Go.Ax
namespace Go.Proofs.Ytjmdoiakcakfoaa
open Go.Ax
def BackP (m1 m2:Option Addr) (n:Nat) (now draw:Int) (b b5 b6 b7:Bool) (x49 x50:Int) (H1:Heap) (K:Value → Heap → Prop):Prop :=
 Tr Try.prog 13 #[Value.pointer m1,Value.int IntKind.i64 now,Value.int IntKind.i64 draw] H1 fun (v12:Value) (H10:Heap) =>
 ∃ (A9:Option Addr),
 ∃ (n9:Nat),
 ∃ (c9:Nat),
 ∃ (x52:Int),
 v12 = Value.tuple #[Value.slice A9 n9 c9,Value.int IntKind.i64 x52] ∧
 Tr Try.prog 13 #[Value.pointer m2,Value.int IntKind.i64 now,Value.int IntKind.i64 draw] H10 fun (v13:Value) (H11:Heap) =>
 ∃ (A10:Option Addr),
 ∃ (n10:Nat),
 ∃ (c10:Nat),
 ∃ (x53:Int),
 v13 = Value.tuple #[Value.slice A10 n10 c10,Value.int IntKind.i64 x53] ∧ ∃ (b8:Bool),(Tr Try.prog 24 #[Value.slice A9 n9 c9,Value.slice A10 n10 c10] H11 fun (v14:Value) (H12:Heap)=>v14 = Value.bool b8 ∧ Ax.Sub H11 H12) ∧ K (Value.bool (b && b5 && x49 == x50 && b6 == b7 && x49 == (↑n:Int) && b8 && x52 == x53)) H11
theorem task_dm (p:Prg) (s:VS) (d:Int) (m:List Ev) (now draw:Int):((s.dm d m).Task p now draw).1 = (s.Task p now draw).1:=by
  rw [Task_eq,Task_eq]
  show (if s.taskE now ≠ 0 then _ else _:(List Ev × Int) × VS).1 = _
  split
  · rfl
  · rfl
theorem evs_of {H:Heap} {A:Option Addr} {n:Nat} {l:List Ev} (hn:n = l.length) (h:Src H A (l.flatMap Ev.cells)):HasEvs H A n l:=⟨hn,fun i x hx=>src_elem (cells:=Ev.cells) (sz:=9) (fun _=>rfl) (by decide) h i x hx⟩
theorem backP {p : Prg} (ok : Okp p) {H0 G G1 G2 X1 X2 H : Heap} {m1 m2 : Nat} {pf1 po1 pf2 po2 : SlH} {s : VS} {d : Int} (w1 : VMP p G1 X1 m1 pf1 po1 .nilFunc s) (w2 : VMP p G2 X2 m2 pf2 po2 .nilFunc (s.dm d (s.made.map fix7))) (g1 : Sub G G1) (g2 : Sub G G2) (a : Apart G X1 X2 H) (iv : Inv p s) (hx : s.expect = none)
    (h0:Sub H0 G) {n:Nat} (hn:s.count = n) (now draw:Int):BackP (some ⟨m1,0,none⟩) (some ⟨m2,0,none⟩) n now draw true true s.over s.over s.count s.count H fun v H'=>v = .bool true ∧ Sub H0 H':=by
  obtain ⟨sl1,F1,st1,v1,p1⟩:=w1.out
  obtain ⟨sl2,F2,st2,v2,p2⟩:=w2.out
  refine ((t13 ok v1 p1 iv hx now draw).frame a.xh).mono fun v3 H3 ⟨X3,r3,s3,k3⟩=>?_
  obtain ⟨A3,n3,c3,G3,hv3,g3,hn3,src3,w3⟩:=r3.out
  have a3:=a.left (g1.trans (g3.trans w3.gh)) s3 k3
  refine ⟨_,_,_,_,hv3,?_⟩
  refine ((t13 ok v2 p2 (dm_inv iv d) hx now draw).frame a3.yh).mono fun v4 H4 ⟨X4,r4,s4,k4⟩=>?_
  obtain ⟨A4,n4,c4,G4,hv4,g4,hn4,src4,w4⟩:=r4.out
  have a4:=a3.symm.left (g2.trans (g4.trans w4.gh)) s4 k4
  rw [task_dm] at hv4 hn4 src4
  have hml:(s.Task p now draw).1.1.length ≤ 9223372036854775807:=by
    by_cases tk:s.taskE now = 0
    · obtain ⟨hm,tm⟩:=Task_tm ok iv (draw:=draw) tk
      have i2:=Task_inv ok iv now draw
      have h1:=i2.made
      have h2:=i2.c0
      rw [hm]; omega
    · rw [Task_eq,if_pos tk]; exact Nat.zero_le _
  have same:=t24 (c:=c3) (c':=c4) hml (evs_of hn3 (src_sub src3 (w3.gh.trans a4.yh))) (evs_of hn4 (src_sub src4 (w4.gh.trans a4.xh)))
  have hs:sameM (s.Task p now draw).1.1 (s.Task p now draw).1.1 = true:=sameM_iff.2 rfl
  rw [hs] at same
  refine ⟨_,_,_,_,hv4,true,same,?_,h0.trans (g2.trans (g4.trans (w4.gh.trans a4.xh)))⟩
  rw [hn]
  simp
theorem t9 {H : Heap} {fA oA : Option Addr} {fn fc on oc : Nat} {p : Prg} (hp : HasP H fA fn oA on p) {lA : Option Addr} {ln lc : Nat} {l : List ActM} (ha : HasActs H lA ln l) (draw : Int) :
    Tr Try.prog 9 #[.agg #[.slice fA fn fc,.slice oA on oc],.slice lA ln lc,.int .i64 draw] H fun v H'=>v = .bool true ∧ Sub H H':=by
  apply v9; unfold F9
  refine ⟨true,t11 H,_,_,_,t17 hp,fun _=>⟨rfl,Sub.refl _⟩,fun e=>?_⟩
  obtain ⟨-,ok⟩:=check_ok (p:=p) (by simpa using e)
  refine (t18 ok hp ha).mono fun v H1 hr=>?_
  obtain ⟨m,pf,po,A,n,c,G1,hv,w1,hd⟩:=hr.out
  have li:=LInv.all ok l
  have bi:=BI.all ok l
  obtain ⟨hok,n0,d,hrep⟩:=back_rep ok l
  have hhl:n = (liveAll p l).h.length:=hd.len
  have hc:=li.c
  have hc0:=li.inv.c0
  generalize liveAll p l = L at *
  have hst:stand L.h = L.h.length:=gram_stand bi.gram
  obtain ⟨sl1,F1,st1,v1,p1⟩:=w1.out
  have he:=hand_evs hd.sl
  have he:HasEvs G1 A n L.h:=he
  have gc:=t21 (c:=c) (by omega) (he.sub w1.gh)
  have cv:checkV L.h = .tuple #[.int .i64 0,.int .i64 0]:=by unfold checkV; rw [if_neg (by omega)]
  rw [cv] at gc
  refine ⟨_,_,_,_,_,hv,fun e=>absurd e (by simp),fun _=>⟨_,_,gc,?_⟩⟩
  refine ((t22 (fc:=fc) (oc:=oc) ok (hp.sub hd.g) he (by exact hd.sl.cap) (by omega) hst hok).frame w1.gh).mono fun v2 H2 ⟨X2,rr,s2,k2⟩=>?_
  obtain ⟨m2,pf2,po2,hv2,w2⟩:=hrep _ _ _ rr
  have a0:Apart G1 G1 H1 H1:=⟨Sub.refl _,w1.gh,w1.gh,Sub.refl _,fun b h _=>h⟩
  have a2:=(a0.left w2.gh s2 k2).symm
  refine ⟨_,_,_,hv2,fun e=>absurd e (by simp),fun _=>?_⟩
  refine ((t16 v1 p1 li.inv).frame a2.xh).mono fun v3 H3 ⟨X3,lr3,s3,k3⟩=>?_
  obtain ⟨tA,tn,tc,uA,un,uc,cA,cn,cc,gA,gn,gc',G3,hv3,g3,la,w3⟩:=lr3.out
  have a3:=a2.left (g3.trans w3.gh) s3 k3
  refine ⟨_,_,_,_,_,_,_,_,_,_,_,_,_,_,_,_,_,_,_,_,_,_,_,_,_,_,_,_,_,_,_,_,_,_,hv3,?_⟩
  obtain ⟨sl2,F2,st2,v2',p2⟩:=w2.out
  refine ((t16 v2' p2 (dm_inv li.inv d)).frame a3.yh).mono fun v4 H4 ⟨X4,lr4,s4,k4⟩=>?_
  obtain ⟨tA',tn',tc',uA',un',uc',cA',cn',cc',gA',gn',gc'',G4,hv4,g4,la',w4⟩:=lr4.out
  have a4:=a3.symm.left (g4.trans w4.gh) s4 k4
  refine ⟨_,_,_,_,_,_,_,_,_,_,_,_,_,_,_,_,_,_,_,_,_,_,_,_,_,_,_,_,_,_,_,_,_,_,hv4,fun b4 hb4 H5 e5=>?_⟩
  have e5':H5 = H4.upd b4 (.cells ⟨[.slice none 0 0,.slice none 0 0] ++ lookL L.s (.slice tA tn tc) (.slice uA un uc) (.slice cA cn cc) (.slice gA gn gc') ++ [.slice none 0 0,.bool false,.int .i64 0,.int .i64 0,.slice none 0 0,.int .u64 0,.bool false,.slice none 0 0,.int .i64 0,.bool false]⟩ 78 (0,0)):=e5
  clear e5
  have s5:Sub H4 H5:=by rw [e5']; exact Sub.upd_new hb4
  have hM:=congrFun e5' b4
  rw [Heap.upd_same] at hM
  clear e5'
  have a5:=a4.grow s5
  have la5:LookAt H5 L.s tA uA cA gA tn un cn gn:=la.sub (w3.gh.trans a5.yh)
  have la5':LookAt H5 L.s tA' uA' cA' gA' tn' un' cn' gn':=(show LookAt G4 L.s tA' uA' cA' gA' tn' un' cn' gn' from ⟨la'.thr,la'.fut,la'.scp,la'.sig⟩).sub (w4.gh.trans a5.xh)
  obtain ⟨sl3,F3,st3,v3',p3⟩:=w3.out
  obtain ⟨sl4,F4,st4,v4',p4⟩:=w4.out
  refine ⟨true,t23 (s:=L.s) hM la5 la5' li.inv,_,_,t15 (v3'.grow a5.yh),_,_,t15 (v4'.grow a5.xh),fun hn=>?_,fun hn=>?_⟩
  · have hn:(n:Int) > 0:=of_decide_eq_true hn
    have hw:IntKind.i64.wrap ((n:Int) - 1) = (n:Int) - 1:=wrapi (by omega) (by omega)
    obtain ⟨x,hx⟩:=get_some (l:=L.h) (i:=n - 1) (by omega)
    obtain ⟨a,haa,hat⟩:=he.at_ _ _ hx
    have ht:((n:Int) - 1).toNat = n - 1:=by omega
    rw [hw,ht]
    exact ⟨a,⟨haa,by omega,by omega⟩,x.time,at_one 1 (hat.sub (a5.gx.trans a5.xh)) rfl,backP ok w3 w4 g3 g4 a5.symm li.inv li.x hd.g (by omega) x.time draw⟩
  · exact backP ok w3 w4 g3 g4 a5.symm li.inv li.x hd.g (by omega) L.s.now draw
end Go.Proofs.Ytjmdoiakcakfoaa
namespace Go.Ax
open Go.RowKit Go.ChangeShapes Go.WideShapes Go.ChangeAt
def FitS (P:Program) (H:Heap):Nat → TypeId → List Value → Prop
  | 0,_,_=>True
  | n + 1,t,cs=>match P.underlying t with
    | some .bool=>∃ b,cs = [.bool b]
    | some (.int k)=>∃ x,cs = [.int k x] ∧ (Lit.int k x).wf = true
    | some .string=>∃ s,cs = [.string s] ∧ s.size ≤ 140737488351232
    | some (.slice e) => ∃ A len cap, cs = [.slice A len cap] ∧ len ≤ cap ∧ cap ≤ maxLen ∧ len * P.bytesOf e ≤ 140737488351232 ∧ (A = none → len = 0 ∧ cap = 0) ∧
        ∀ a,A = some a → ∀ i,i < len → ∃ cs',cs'.length = P.cellsOf e ∧ (0 < P.cellsOf e → At H (a.add (i * P.cellsOf e)) cs') ∧ FitS P H n e cs'
    | some (.struct fs)=>cs.length = P.cellsOf t ∧ FitFs (FitS P H n) P cs fs.toList
    | _=>True
theorem weights_all {H:Type} {P:Program} {e:TypeId}:∀ {l:List (DataW H)} {d:DataW H},d ∈ l → ∀ n ∈ d.weights P e,n ∈ DataW.weightsAll P e l
  | x :: l,d,h,n,hn=>by
    simp only [DataW.weightsAll,List.mem_append]
    rcases List.mem_cons.1 h with rfl | h
    · exact .inl hn
    · exact .inr (weights_all h n hn)
theorem fits_of_trod {H : Type} {enc : TypeId × Value → H} {P : Program} {w : World} {base : Nat} {spare : Nat → Bool} {held : Bool} : ∀ (n fuel : Nat) (t : TypeId) (cs : List Value) (x : DataW H × List MemPlace),
    DataW.trod enc P w base spare held fuel t cs = some x → (∀ m ∈ x.1.weights P t,m ≤ 140737488351232) → FitS P (hp w) n t cs:=by
  intro n
  induction n with
  | zero=>intro _ _ _ _ _ _; trivial
  | succ n ih =>
    intro fuel t cs x h hw
    unfold FitS
    cases hu:P.underlying t with
    | none=>trivial
    | some ti =>
      cases ti with
      | bool=>obtain ⟨b,e,_⟩:=DataW.trod_bool hu h; exact ⟨b,e⟩
      | int k=>obtain ⟨b,e,_,wf⟩:=DataW.trod_int hu h; exact ⟨b,e,wf⟩
      | string =>
        obtain ⟨b,e,hx,wf⟩:=DataW.trod_string hu h
        refine ⟨b,e,?_⟩
        have:=hw b.data.toList.length (by rw [hx]; simp [DataW.weights])
        have e2:b.data.toList.length = b.size:=by simp
        omega
      | slice e =>
        rcases Deep.open_slice hu h with ⟨rfl,_⟩ | ⟨a,len,cap,m,k,D,Pl,rfl,hb,hl,hm,hmm,hx0,hx⟩
        · exact ⟨none,0,0,rfl,Nat.le_refl _,Nat.zero_le _,by omega,fun _=>⟨rfl,rfl⟩,fun a ha=>nomatch ha⟩
        · subst hx0
          refine ⟨some a,len,cap,rfl,hl,hm,?_,(fun ha=>nomatch ha),fun a' ha i hi=>?_⟩
          · have:=hw ((((List.range len).map D).length + ((List.range (m - len)).map fun j=>D (len + j)).length) * P.bytesOf e) (by simp [DataW.weights,hu])
            refine Nat.le_trans (Nat.mul_le_mul_right _ ?_) this
            simp
          · cases ha
            obtain ⟨cs',h1,h2⟩:=hx i (by rw [hmm]; split <;> omega)
            refine ⟨cs',(World.cells?_some h1).2.1,fun hp=>at_of_cells hp h1,ih _ _ _ _ h2 fun q hq=>hw q ?_⟩
            simp only [DataW.weights,hu,List.mem_cons,List.mem_append]
            exact .inr (.inl (weights_all (l:=(List.range len).map D) (List.mem_map.2 ⟨i,by simpa using hi,rfl⟩) q hq))
      | struct fs =>
        obtain ⟨xs,k,_,hxe,hl,hlen,hf⟩:=DataW.trod_struct hu h
        subst hxe
        refine ⟨hl,?_⟩
        have aux:∀ (l:List Field),(∀ f ∈ l,∃ i:Nat,fs[i]? = some f) → FitFs (FitS P (hp w) n) P cs l:=by
          intro l
          induction l with
          | nil=>intro _; trivial
          | cons f l il =>
            intro hm
            refine ⟨?_,il fun g hg=>hm g (List.mem_cons_of_mem _ hg)⟩
            obtain ⟨i,hi⟩:=hm f (List.mem_cons_self ..)
            have hi':i < xs.length:=by
              have:i < fs.size:=by
                rcases Nat.lt_or_ge i fs.size with h | h
                · exact h
                · rw [Array.getElem?_eq_none h] at hi; cases hi
              omega
            have hq:=hf i f hi
            rw [List.getElem?_eq_getElem hi'] at hq
            refine ih _ _ _ _ hq fun q hq2=>hw q ?_
            simp only [DataW.weights,hu]
            exact DataW.weights_mem_each (j:=i) (t:=f.type) (d:=xs[i].1) (by simp [hi]) (by simp [List.getElem?_eq_getElem hi']) q hq2
        exact aux _ fun f hf=>by
          obtain ⟨i,hi,rfl⟩:=List.getElem_of_mem hf
          exact ⟨i,by simp at hi ⊢⟩
      | _=>trivial
theorem fits_of_Trod {H : Type} {enc : TypeId × Value → H} {P : Program} {w : World} {base : Nat} {spare : Nat → Bool} {held : Bool} {t : TypeId} {v : Value} {d : DataW H} {p : List MemPlace} (n : Nat)
    {ts:List TypeId} {ds:List (DataW H)} (hsz:(DataW.weightsEach P ts ds).all (· ≤ reachBytes) = true) {j:Nat} (ht:ts[j]? = some t) (hd:ds[j]? = some d)
    (h:DataW.Trod enc P w base spare held t v d p):FitS P (hp w) n t v.cells.toList:=by
  obtain ⟨fuel,hf⟩:=h
  refine fits_of_trod n fuel t _ _ hf fun m hm=>?_
  have:=List.all_eq_true.1 hsz _ (DataW.weights_mem_each ht hd m hm)
  have hr:reachBytes = 140737488351232:=by decide
  rw [hr] at this
  simpa using this
end Go.Ax
set_option maxRecDepth 100000
namespace Go.Proofs.Ytjmdoiakcakfoaa
open Go.Ax Go.RowKit Go.ChangeShapes Go.WideShapes Go.ChangeAt
theorem fitI {H:Heap} {n:Nat} {l:List Value} (h:FitS Try.prog H (n + 1) 3 l):∃ x,l = [.int .i64 x] ∧ intOk x:=by
  obtain ⟨x,e,wf⟩:=Eq.mp (show FitS Try.prog H (n + 1) 3 l = (∃ x,l = [.int .i64 x] ∧ (Lit.int .i64 x).wf = true) by kernel_rfl) h
  exact ⟨x,e,wf_i64 wf⟩
theorem fitL {H:Heap} {n:Nat} {l:List Value} (h:FitS Try.prog H (n + 1) 2 l):∃ x,l = [.int .i64 x] ∧ intOk x:=by
  obtain ⟨x,e,wf⟩:=Eq.mp (show FitS Try.prog H (n + 1) 2 l = (∃ x,l = [.int .i64 x] ∧ (Lit.int .i64 x).wf = true) by kernel_rfl) h
  exact ⟨x,e,wf_i64 wf⟩
theorem fitOp {H:Heap} {n:Nat} {l:List Value} (h:FitS Try.prog H (n + 2) 120 l):∃ c x,l = [.int .i64 c,.int .i64 x] ∧ intOk c ∧ intOk x:=by
  obtain ⟨hl,h0,h1,-⟩:=Eq.mp (show FitS Try.prog H (n + 2) 120 l = (l.length = 2 ∧ FitS Try.prog H (n + 1) 3 ((l.drop 0).take 1) ∧ FitS Try.prog H (n + 1) 2 ((l.drop 1).take 1) ∧ True) by kernel_rfl) h
  match l,hl with
  | [a,b],_ =>
    obtain ⟨c,e0,w0⟩:=fitI h0
    obtain ⟨x,e1,w1⟩:=fitL h1
    simp at e0 e1; subst e0 e1
    exact ⟨c,x,rfl,w0,w1⟩
theorem fitO {H:Heap} {n:Nat} {l:List Value} (h:FitS Try.prog H (n + 2) 99 l):∃ o:O,l = o.cells ∧ (∀ x ∈ o.nums,intOk x) ∧ intOk o.never:=by
  obtain ⟨hl,h0,h1,h2,h3,h4,h5,h6,h7,h8,h9,h10,-⟩:=Eq.mp (show FitS Try.prog H (n + 2) 99 l = (l.length = 11 ∧ FitS Try.prog H (n + 1) 3 ((l.drop 0).take 1) ∧ FitS Try.prog H (n + 1) 2 ((l.drop 1).take 1) ∧
    FitS Try.prog H (n + 1) 2 ((l.drop 2).take 1) ∧ FitS Try.prog H (n + 1) 2 ((l.drop 3).take 1) ∧ FitS Try.prog H (n + 1) 2 ((l.drop 4).take 1) ∧ FitS Try.prog H (n + 1) 2 ((l.drop 5).take 1) ∧ FitS Try.prog H (n + 1) 2 ((l.drop 6).take 1) ∧
    FitS Try.prog H (n + 1) 2 ((l.drop 7).take 1) ∧ FitS Try.prog H (n + 1) 2 ((l.drop 8).take 1) ∧ FitS Try.prog H (n + 1) 3 ((l.drop 9).take 1) ∧ FitS Try.prog H (n + 1) 2 ((l.drop 10).take 1) ∧ True) by kernel_rfl) h
  match l,hl with
  | [c0,c1,c2,c3,c4,c5,c6,c7,c8,c9,c10],_ =>
    obtain ⟨x0,e0,w0⟩:=fitI h0; obtain ⟨x1,e1,w1⟩:=fitL h1; obtain ⟨x2,e2,w2⟩:=fitL h2; obtain ⟨x3,e3,w3⟩:=fitL h3
    obtain ⟨x4,e4,w4⟩:=fitL h4; obtain ⟨x5,e5,w5⟩:=fitL h5; obtain ⟨x6,e6,w6⟩:=fitL h6; obtain ⟨x7,e7,w7⟩:=fitL h7
    obtain ⟨x8,e8,w8⟩:=fitL h8; obtain ⟨x9,e9,w9⟩:=fitI h9; obtain ⟨x10,e10,w10⟩:=fitL h10
    simp at e0 e1 e2 e3 e4 e5 e6 e7 e8 e9 e10
    subst e0 e1 e2 e3 e4 e5 e6 e7 e8 e9 e10
    refine ⟨⟨x0,x1,x2,x3,x4,x5,x6,x7,x8,x9,x10⟩,rfl,fun x hx=>?_,w10⟩
    simp only [O.nums,List.mem_cons,List.not_mem_nil,or_false] at hx
    rcases hx with h | h | h | h | h | h | h | h | h | h <;> subst h <;> assumption
theorem fitSl {H : Heap} {n : Nat} {t e : TypeId} (ht : Try.prog.underlying t = some (.slice e)) {l : List Value} (h : FitS Try.prog H (n + 1) t l) : ∃ A len cap, l = [.slice A len cap] ∧ len ≤ 9223372036854775807 ∧ len * Try.prog.bytesOf e ≤ 140737488351232 ∧
    ∀ i,i < len → ∃ a cs',A = some a ∧ cs'.length = Try.prog.cellsOf e ∧ (0 < Try.prog.cellsOf e → At H (a.add (i * Try.prog.cellsOf e)) cs') ∧ FitS Try.prog H n e cs':=by
  unfold FitS at h
  rw [ht] at h
  obtain ⟨A,len,cap,e1,h1,h2,h3,h4,h5⟩:=h
  refine ⟨A,len,cap,e1,by unfold maxLen at h2; omega,h3,fun i hi=>?_⟩
  cases hA:A with
  | none=>have:=(h4 hA).1; omega
  | some a =>
    obtain ⟨cs',q1,q2,q3⟩:=h5 a hA i hi
    exact ⟨a,cs',rfl,q1,q2,q3⟩
theorem fitOps {H:Heap} {n:Nat} {l:List Value} (h:FitS Try.prog H (n + 3) 101 l):∃ A m c ops,l = [.slice A m c] ∧ HasOps H A m ops ∧ ops.length * 16 ≤ 140737488355328 ∧ ∀ o ∈ ops,intOk o.1 ∧ intOk o.2:=by
  obtain ⟨A,m,c,e,hb,hz,hx⟩:=fitSl (e:=120) Try.underlying101 h
  have c67:Try.prog.cellsOf 120 = 2:=by kernel_rfl
  have b67:Try.prog.bytesOf 120 = 16:=by kernel_rfl
  rw [c67] at hx; rw [b67] at hz
  obtain ⟨ops,hl,hp⟩:=list_of (p:=fun i (o:Int × Int)=>(∃ a,A = some a ∧ At H (a.add (i * 2)) [.int .i64 o.1,.int .i64 o.2]) ∧ intOk o.1 ∧ intOk o.2) m fun i hi=>by
    obtain ⟨a,cs',ha,-,hat,hf⟩:=hx i hi
    obtain ⟨c,x,rfl,w1,w2⟩:=fitOp hf
    exact ⟨(c,x),⟨a,ha,hat (by decide)⟩,w1,w2⟩
  refine ⟨A,m,c,ops,e,⟨hl.symm,hb,fun i c x hi=>(hp i (c,x) hi).1⟩,by omega,fun o ho=>?_⟩
  obtain ⟨i,hi⟩:=List.getElem?_of_mem ho
  exact (hp i o hi).2
theorem fitFn {H:Heap} {n:Nat} {l:List Value} (h:FitS Try.prog H (n + 4) 103 l):∃ (f:Fnc) (A:Option Addr) (m c:Nat),l = [.int .i64 f.kind,.int .i64 f.name,.slice A m c] ∧ HasOps H A m f.ops ∧ f.ops.length * 16 ≤ 140737488355328 ∧ (∀ o ∈ f.ops,intOk o.1 ∧ intOk o.2) ∧ intOk f.kind ∧ intOk f.name:=by
  obtain ⟨hl,h0,h1,h2,-⟩:=Eq.mp (show FitS Try.prog H (n + 4) 103 l = (l.length = 3 ∧ FitS Try.prog H (n + 3) 3 ((l.drop 0).take 1) ∧ FitS Try.prog H (n + 3) 3 ((l.drop 1).take 1) ∧ FitS Try.prog H (n + 3) 101 ((l.drop 2).take 1) ∧ True) by kernel_rfl) h
  match l,hl with
  | [a,b,d],_ =>
    obtain ⟨k,e0,w0⟩:=fitI h0
    obtain ⟨x,e1,w1⟩:=fitI h1
    obtain ⟨A,m,c,ops,e2,ho,hz,hw⟩:=fitOps h2
    simp at e0 e1 e2; subst e0 e1 e2
    exact ⟨⟨k,x,ops⟩,A,m,c,rfl,ho,hz,hw,w0,w1⟩
theorem fitP {H:Heap} {n:Nat} {l:List Value} (h:FitS Try.prog H (n + 6) 48 l):∃ fA fn fc oA on oc p,l = [.slice fA fn fc,.slice oA on oc] ∧ HasP H fA fn oA on p ∧ p.Wf ∧ p.Sz:=by
  obtain ⟨hl,h0,h1,-⟩:=Eq.mp (show FitS Try.prog H (n + 6) 48 l = (l.length = 2 ∧ FitS Try.prog H (n + 5) 45 ((l.drop 0).take 1) ∧ FitS Try.prog H (n + 5) 46 ((l.drop 1).take 1) ∧ True) by kernel_rfl) h
  match l,hl with
  | [a,b],_ =>
    obtain ⟨fA,fn,fc,e0,hb0,hz0,hx0⟩:=fitSl (e:=103) Try.underlying45 h0
    obtain ⟨oA,on,oc,e1,hb1,hz1,hx1⟩:=fitSl (e:=99) Try.underlying46 h1
    simp at e0 e1; subst e0 e1
    have c70:Try.prog.cellsOf 103 = 3:=by kernel_rfl
    have b70:Try.prog.bytesOf 103 = 40:=by kernel_rfl
    have c23:Try.prog.cellsOf 99 = 11:=by kernel_rfl
    have b23:Try.prog.bytesOf 99 = 88:=by kernel_rfl
    rw [c70] at hx0; rw [b70] at hz0; rw [c23] at hx1; rw [b23] at hz1
    obtain ⟨fs,hl0,hp0⟩:=list_of (p:=fun i (f:Fnc)=>(∃ a A m c,fA = some a ∧ At H (a.add (i * 3)) [.int .i64 f.kind,.int .i64 f.name,.slice A m c] ∧ HasOps H A m f.ops) ∧ f.ops.length * 16 ≤ 140737488355328 ∧ (∀ o ∈ f.ops,intOk o.1 ∧ intOk o.2) ∧ intOk f.kind ∧ intOk f.name) fn fun i hi=>by
      obtain ⟨a,cs',ha,-,hat,hf⟩:=hx0 i hi
      obtain ⟨f,A,m,c,rfl,ho,q⟩:=fitFn hf
      exact ⟨f,⟨a,A,m,c,ha,hat (by decide),ho⟩,q⟩
    obtain ⟨os,hl1,hp1⟩:=list_of (p:=fun i (o:O)=>(∃ a,oA = some a ∧ At H (a.add (i * 11)) o.cells) ∧ (∀ x ∈ o.nums,intOk x) ∧ intOk o.never) on fun i hi=>by
      obtain ⟨a,cs',ha,-,hat,hf⟩:=hx1 i hi
      obtain ⟨o,rfl,q⟩:=fitO hf
      exact ⟨o,⟨a,ha,hat (by decide)⟩,q⟩
    have mf:∀ f ∈ fs,f.ops.length * 16 ≤ 140737488355328 ∧ (∀ o ∈ f.ops,intOk o.1 ∧ intOk o.2) ∧ intOk f.kind ∧ intOk f.name:=fun f hf=>by
      obtain ⟨i,hi⟩:=List.getElem?_of_mem hf
      exact (hp0 i f hi).2
    have mo:∀ o ∈ os,(∀ x ∈ o.nums,intOk x) ∧ intOk o.never:=fun o ho=>by
      obtain ⟨i,hi⟩:=List.getElem?_of_mem ho
      exact (hp1 i o hi).2
    exact ⟨fA,fn,fc,oA,on,oc,⟨fs,os⟩,rfl,⟨⟨hl0.symm,hb0,fun i f hi=>(hp0 i f hi).1⟩,⟨hl1.symm,hb1,fun i o hi=>(hp1 i o hi).1⟩⟩,
      ⟨fun f hf=>(mf f hf).2.1,fun f hf=>(mf f hf).2.2,mo⟩,⟨by simp only; omega,by simp only; omega,fun f hf=>(mf f hf).1⟩⟩
theorem openP {W : World} {base : Nat} {r : Reach} {v : Value} {fs : Array Field} (hs : Try.prog.underlying 48 = some (.struct fs)) (hv : Value.okWide Try.prog W r base 48 v)
    {H:Type} {enc:TypeId × Value → H} {b0:Nat} {spare:Nat → Bool} {held:Bool} {d:DataW H} {p:List MemPlace} {ts:List TypeId} {ds:List (DataW H)} (hsz:(DataW.weightsEach Try.prog ts ds).all (· ≤ reachBytes) = true) {j:Nat} (ht:ts[j]? = some 48) (hd:ds[j]? = some d)
    (h:DataW.Trod enc Try.prog W b0 spare held 48 v d p):∃ fA fn fc oA on oc q,v = .agg #[.slice fA fn fc,.slice oA on oc] ∧ HasP (hp W) fA fn oA on q ∧ q.Wf ∧ q.Sz:=by
  obtain ⟨cs,rfl,hsz'⟩:=okWide_struct hs hv
  obtain ⟨fA,fn,fc,oA,on,oc,q,e,k⟩:=fitP (n:=0) (fits_of_Trod 6 hsz ht hd h)
  refine ⟨fA,fn,fc,oA,on,oc,q,?_,k⟩
  congr 1
  exact Array.toList_inj.mp e
end Go.Proofs.Ytjmdoiakcakfoaa
