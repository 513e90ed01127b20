/- The statement that provedRunsFollows proves, and the last lemmas that it needs. Conditions: none but the row's own. -/
import Derived.Test.YtkofafcgcnciaaaGreatDoorWke
import Derived.Test.YtkofafcgcnciaaaGreatDoorRows
set_option maxRecDepth 100000
namespace Go.Proofs.YtkofafcgcnciaaaGreatDoor
open Go.Ax
theorem Hand.app {G0 H : Heap} {q : SlH} {sz : Nat} {cs : List Value} (hd : Hand G0 H q sz cs) {e : TypeId} {bytes : Nat} {new : List Value} {k : Nat} (hk : new.length = k * sz) (h1 : allOne new = true) (hb : (q.n + k) * bytes ≤ 140737488355328) (hl : q.n + k ≤ 9223372036854775807)
    {K:Option Addr → Nat → Nat → Heap → Prop} (r:∀ A' c' H',Hand G0 H' ⟨A',q.n + k,c'⟩ sz (cs ++ new) → K A' (q.n + k) c' H'):appC e sz bytes H q.A q.n q.c new k K:=by
  have ok:=hd.sl
  have hlen:=ok.len
  refine ⟨⟨cs,ok.src,ok.len,hk,h1,hb,hl,fun hcap=>?_,fun hcap i cap rest hbn hle hr=>?_⟩⟩
  · rcases ok.at_ with ⟨a1,a2,a3⟩ | ⟨i,off,cur,T,a1,a2,a3,a4⟩
    · left
      have k0:k = 0:=by omega
      subst k0
      have hn:new = []:=List.length_eq_zero_iff.1 (by omega)
      subst hn
      refine ⟨rfl,r _ _ _ ⟨hd.g,⟨by rw [List.append_nil]; simpa using ok.len,hcap,.inl ⟨a1,by simp only; omega,a3⟩⟩,fun i hi=>?_⟩⟩
      unfold SlH.blk at hi; simp only at hi; rw [a1] at hi; cases hi
    · right
      have hsz:(off + q.n * sz) + new.length ≤ cur.size:=by
        have:(q.n + k) * sz ≤ q.c * sz:=Nat.mul_le_mul_right _ hcap
        rw [Nat.add_mul] at this
        omega
      have hblk:q.blk = some i:=by unfold SlH.blk; rw [a1]; rfl
      refine ⟨⟨i,off,none⟩,cur,T,a1,rfl,a2,hsz,r _ _ _ ⟨base_upd hd.g (hd.free i hblk) _,⟨?_,hcap,.inr ⟨i,off,_,T,a1,Heap.upd_same,?_,fun j v hv=>?_⟩⟩,fun b' hb'=>?_⟩⟩
      · rw [List.length_append,hlen,hk,Nat.add_mul]
      · rw [splice_size hsz]; exact a3
      · by_cases hj:j < q.n * sz
        · rw [List.getElem?_append_left (by omega)] at hv
          rw [splice_get hsz,if_pos (by omega)]; exact a4 j v hv
        · have hlt:=get_lt hv
          rw [List.length_append] at hlt
          rw [List.getElem?_append_right (by omega),hlen] at hv
          rw [splice_get hsz,if_neg (by omega),if_pos (by omega)]
          rw [← hv]; congr 1; omega
      · unfold SlH.blk at hb'; simp only at hb'; rw [a1] at hb'; cases hb'
        exact hd.free i hblk
  · refine r _ _ _ ⟨hd.g.trans (Sub.upd_new hbn),⟨by rw [List.length_append,ok.len,hk,Nat.add_mul],hle,.inr ⟨i,0,_,e,rfl,Heap.upd_same,?_,fun j v hv=>?_⟩⟩,fun b' hb'=>?_⟩
    · simp only [List.size_toArray,List.length_append,ok.len,hk,hr]
      rw [← Nat.add_mul,← Nat.add_mul]
      have:q.n + k + (cap - (q.n + k)) = cap:=by omega
      rw [this]; simp
    · have hj:=get_lt hv
      simp only [List.getElem?_toArray,Nat.zero_add]
      rw [List.getElem?_append_left hj]; exact hv
    · unfold SlH.blk at hb'; simp only at hb'; cases hb'
      exact none_below hd.g hbn
structure RunL (G H:Heap) (sl:Nat → SlH) (R:RS):Prop where
  gh:Sub G H
  own:∀ c,c < 5 → ∀ i,(sl c).blk = some i → G i = none
  inj:∀ c c' i,c < 5 → c' < 5 → (sl c).blk = some i → (sl c').blk = some i → c = c'
  ok:∀ c,c < 5 → SlOk H (sl c) (szR c) (contR R c)
  attrs:R.attrs.length = 4
theorem RunX.l {G H:Heap} {b:Nat} {sl:Nat → SlH} {R:RS} (h:RunX G H b sl R):RunL G H sl R:=⟨h.gh,fun c hc i hi=>(h.own c hc i hi).1,h.inj,h.ok,h.attrs⟩
theorem RunL.box {G H:Heap} {sl:Nat → SlH} {R:RS} (h:RunL G H sl R) {b:Nat} (hb:H b = none):RunX G (H.upd b (.cells ⟨rCells sl R⟩ 34 (0,0))) b sl R :=
  ⟨h.gh.trans (Sub.upd_new hb),none_below h.gh hb,Heap.upd_same,fun c hc i hi=>⟨h.own c hc i hi,fun e=>(by subst e; have:=(h.ok c hc).blk_some hi; rw [hb] at this; cases this)⟩,h.inj,fun c hc=>(h.ok c hc).sub (Sub.upd_new hb),h.attrs⟩
theorem splice_all {cur:Array Value} {vs:List Value} (h:cur.size = vs.length):splice cur 0 vs = ⟨vs⟩:=by
  unfold splice
  rw [List.take_zero,List.nil_append,Nat.zero_add,List.drop_of_length_le (by simp [h]),List.append_nil]
theorem RunL.var {G H : Heap} {sl : Nat → SlH} {R : RS} (h : RunL G H sl R) {b : Nat} (hb : H b = none) {cur : List Value} (hc : cur.length = 20) {H1 : Heap} (e1 : H1 = H.upd b (.cells ⟨cur⟩ 34 (0, 0))) {K : Heap → Prop} (k : ∀ H', RunX G H' b sl R → K H') :
    ∃ (c:Array Value) (T:TypeId),H1 (⟨b,0,none⟩:Addr).block = some (.cells c T (0,0)) ∧ (⟨b,0,none⟩:Addr).spot = none ∧ (⟨b,0,none⟩:Addr).off + (rCells sl R).length ≤ c.size ∧ ∀ H2,H2 = H1.upd (⟨b,0,none⟩:Addr).block (.cells (splice c (⟨b,0,none⟩:Addr).off (rCells sl R)) T (0,0)) → K H2:=by
  subst e1
  refine ⟨⟨cur⟩,_,Heap.upd_same,rfl,by show 0 + 20 ≤ cur.length; omega,fun H2 e2=>k H2 ?_⟩
  rw [e2]
  show RunX G ((H.upd b _).upd b (.cells (splice ⟨cur⟩ 0 (rCells sl R)) 34 (0,0))) b sl R
  rw [Heap.upd_upd,splice_all (by show cur.length = 20; exact hc)]
  exact h.box hb
def RS.start (number:Int) (id:ByteArray):RS:={ RS.zero with number:=number,id:=id }
def RS.new (number:Int) (id:ByteArray) (x:Ev):RS:=(RS.start number id).book { x with id:=1,kind:=1 }
def slNil:Nat → SlH:=fun _=>⟨none,0,0⟩
theorem zero_l (H:Heap) (number:Int) (id:ByteArray):RunL H H slNil (RS.start number id) :=
  ⟨Sub.refl _,fun c hc i hi=>(by cases hi),fun c c' i _ _ hi=>(by cases hi),five (P:=fun c=>SlOk H (slNil c) (szR c) (contR (RS.start number id) c)) (Hand.nil (Sub.refl H) 9).sl (Hand.nil (Sub.refl H) 10).sl (Hand.nil (Sub.refl H) 2).sl (Hand.nil (Sub.refl H) 5).sl (Hand.nil (Sub.refl H) 4).sl,rfl⟩
structure NewR (G:Heap) (R:RS) (v:Value) (H':Heap):Prop where
  out:∃ sl,v = .agg ⟨rCells sl R⟩ ∧ RunL G H' sl R
theorem t21 (number:Int) (id:ByteArray) (x:Ev) (H:Heap):Tr Tryz.prog 21 #[.int .i64 number,.string id,x.val] H fun v H'=>NewR H (RS.new number id x) v H':=by
  apply v21; unfold F21
  intro b hb H1 e1
  refine (zero_l H number id).var hb (cur:=rCells slNil RS.zero) rfl e1 fun H2 h2=>?_
  refine (t43 h2 ⟨Nat.zero_le _,Nat.zero_le _,Nat.zero_le _,Nat.zero_le _,Nat.zero_le _⟩ { x with id:=1,kind:=1 } (fun e=>by cases e)).mono fun v H3 ⟨A,n,c,hv,⟨sl3,h3⟩,_,_⟩=>?_
  exact ⟨A,n,c,hv,_,_,_,_,_,_,_,_,_,_,_,_,_,_,_,_,_,_,_,_,_,_,_,_,_,_,_,_,_,_,h3.at,⟨sl3,rfl,h3.l⟩⟩
theorem t26 (sl:Nat → SlH) (R:RS) (H:Heap):Tr Tryz.prog 26 #[.agg ⟨rCells sl R⟩] H fun v H'=>v = .bool (R.status == 1) ∧ Sub H H':=v26 (show _ from ⟨rfl,Sub.refl _⟩)
def fullM (id now:Int):Ev:=⟨id,now,16,-4,0,0,0,0,0⟩
def RS.next (R:RS) (e:Ev) (now:Int):Ev:={ e with id:=(R.events.length:Int) + 1,time:=now }
def RS.Add (R:RS) (e:Ev) (now:Int):(Int × List OutM × Int) × RS :=
  if (!(R.status == 1)) = true then ((0,[],46),R) else
  if (!outR (R.next e now) || decide (stand (R.events ++ [R.next e now]) < (R.events ++ [R.next e now]).length)) = true then ((0,[],54),R) else
  if ((R.next e now).id == 256 && !closeM e.kind) = true then (((R.next e now).id,R.tells (fullM (R.next e now).id now),49),R.book (fullM (R.next e now).id now)) else
  (((R.next e now).id,R.tells (R.next e now),0),R.book (R.next e now))
structure AddR (G:Heap) (b:Nat) (z:(Int × List OutM × Int) × RS) (v:Value) (H':Heap):Prop where
  out:∃ A n c,v = .tuple #[.int .i64 z.1.1,.slice A n c,.int .i64 z.1.2.2] ∧ RunE G H' b z.2 ∧ n = z.1.2.1.length ∧ Src H' A (z.1.2.1.flatMap OutM.cells)
theorem t54 (id now:Int) (H:Heap):Tr Tryz.prog 54 #[.int .i64 id,.int .i64 now] H fun v H'=>v = (fullM id now).val ∧ H' = H:=v54 (show _ from ⟨rfl,rfl⟩)
structure RAdd (G H:Heap) (b:Nat) (sl:Nat → SlH) (R:RS) (l:List Ev) (x:Int) (H1:Heap):Prop where
  x:x = if stand l < l.length then 52 else 0
  h:RunX G H1 b sl R
theorem t16 {G H:Heap} {b:Nat} {sl:Nat → SlH} {R:RS} (h:RunX G H b sl R) (sm:R.Small) (e:Ev) (now:Int):Tr Tryz.prog 16 #[.pointer (some ⟨b,0,none⟩),e.val,.int .i64 now] H fun v H'=>AddR G b (R.Add e now) v H':=by
  have sE:=sm.e
  have l0:=h.len0
  apply v16; unfold F16
  refine ⟨fun e=>absurd e (by simp),fun _=>⟨_,rfl,_,_,_,_,_,_,_,_,_,_,_,_,_,_,_,_,_,_,_,_,_,_,_,_,_,_,_,_,_,_,h.at,_,t26 sl R H,fun q=>?_,fun q=>⟨_,rfl,_,_,_,h.cell (k:=15) rfl,?_⟩⟩⟩
  · have ea:R.Add e now = ((0,[],46),R):=by unfold RS.Add; rw [if_pos q]
    rw [ea]
    exact ⟨none,0,0,rfl,h.e,rfl,.inl rfl⟩
  have hw:IntKind.i64.wrap (((sl 0).n:Int) + 1) = (R.events.length:Int) + 1:=by rw [wrapi (by omega) (by omega),l0]
  rw [hw]
  have ea : R.Add e now = if (!outR (R.next e now) || decide (stand (R.events ++ [R.next e now]) < (R.events ++ [R.next e now]).length)) = true then ((0, [], 54), R) else
      if ((R.next e now).id == 256 && !closeM e.kind) = true then (((R.next e now).id,R.tells (fullM (R.next e now).id now),49),R.book (fullM (R.next e now).id now)) else (((R.next e now).id,R.tells (R.next e now),0),R.book (R.next e now)):=by
    conv=>lhs; unfold RS.Add
    rw [if_neg (by rw [q]; decide)]
  have hx:R.next e now = { e with id:=(R.events.length:Int) + 1,time:=now }:=rfl
  refine ⟨RAdd G H b sl R (R.events ++ [R.next e now]),?_,fun x H1 ⟨hxx,h1⟩=>?_⟩
  · have core : Tr Tryz.prog 51 #[(sl 0).v] H fun v H1 => ∃ A n c, v = .slice A n c ∧ appC 47 9 72 H1 A n c (R.next e now).cells 1 fun A' n' c' H2 => ∃ x y : Int, (Tr Tryz.prog 36 #[.slice A' n' c'] H2 fun v H3 => v = .tuple #[.int .i64 x, .int .i64 y] ∧ Sub H2 H3) ∧ RAdd G H b sl R (R.events ++ [R.next e now]) x H2 := by
      refine Tr.mono (K:=fun v H1=>∃ q1:SlH,v = q1.v ∧ q1.n = R.events.length ∧ Hand H H1 q1 9 (R.events.flatMap Ev.cells)) ?_ fun v H1 ⟨q1,hv,hqn,hd⟩=>⟨_,_,_,hv,?_⟩
      · apply v51; unfold F51
        have ok:=h.ok 0 (by decide)
        exact clone_in (bytes:=72) (K:=fun v H1=>∃ q1:SlH,v = q1.v ∧ q1.n = R.events.length ∧ Hand H H1 q1 9 (R.events.flatMap Ev.cells)) ok.src ok.len ok.nil_n (evs_one _) (by omega) (by omega) fun q1 H1 hq hd=>⟨q1,rfl,by rw [hq,l0],hd⟩
      · refine hd.app (new:=(R.next e now).cells) (k:=1) rfl rfl (by omega) (by omega) fun A' c' H2 hd2=>?_
        have hd2:Hand H H2 ⟨A',q1.n + 1,c'⟩ 9 ((R.events ++ [R.next e now]).flatMap Ev.cells):=by rw [List.flatMap_append,List.flatMap_singleton]; exact hd2
        have he:=hand_evs hd2.sl
        have gc:=t36 (c:=c') (by rw [List.length_append,List.length_singleton]; omega) he
        rcases check_one (l:=R.events ++ [R.next e now]) with ⟨cv,hs⟩ | ⟨cv,hs⟩
        · rw [cv] at gc
          exact ⟨_,_,gc,by rw [if_pos hs],h.grow hd2.g⟩
        · rw [cv] at gc
          exact ⟨_,_,gc,by rw [if_neg hs],h.grow hd2.g⟩
    exact ⟨_,rfl,⟨_,_,_,h.cell (k:=15) rfl,core,core⟩,_,_,_,h.cell (k:=15) rfl,core⟩
  · have key : (!outR (R.next e now) || x != 0) = (!outR (R.next e now) || decide (stand (R.events ++ [R.next e now]) < (R.events ++ [R.next e now]).length)) := by
      rw [hxx]
      by_cases hs:stand (R.events ++ [R.next e now]) < (R.events ++ [R.next e now]).length
      · rw [if_pos hs,decide_eq_true hs]; rfl
      · rw [if_neg hs,decide_eq_false hs]; rfl
    refine ⟨_,t52 (R.next e now) H1,fun q2=>?_,fun q2=>?_⟩
    · rw [ea,if_pos (by rw [← key]; exact q2)]
      exact ⟨none,0,0,rfl,h1.e,rfl,.inl rfl⟩
    have q4:¬ (!outR (R.next e now) || decide (stand (R.events ++ [R.next e now]) < (R.events ++ [R.next e now]).length)) = true:=by rw [← key,q2]; decide
    rw [if_neg q4] at ea
    refine ⟨_,fun _=>t53 e.kind H1,fun q3=>?_,fun q3=>?_⟩
    · rw [if_pos (show ((R.next e now).id == 256 && !closeM e.kind) = true from q3)] at ea
      rw [ea]
      refine (t54 ((R.events.length:Int) + 1) now H1).mono fun v H2 ⟨hv,eH⟩=>⟨_,_,_,_,_,_,_,_,_,hv,?_⟩
      rw [eH]
      exact (t43 h1 sm (fullM ((R.events.length:Int) + 1) now) (fun e=>by cases e)).mono fun v H3 ⟨A,n,c,hv,h3,hn,hs⟩=>⟨A,n,c,hv,A,n,c,rfl,h3,hn,hs⟩
    · rw [if_neg (by rw [show ((R.next e now).id == 256 && !closeM e.kind) = false from q3]; decide)] at ea
      rw [ea]
      have hk:(R.next e now).kind = 10 → 0 ≤ (R.next e now).a ∧ (R.next e now).a < 4:=fun k=>by
        exfalso
        apply q4
        have:outR (R.next e now) = false:=by unfold outR; rw [k]; rfl
        rw [this]; rfl
      exact (t43 h1 sm (R.next e now) hk).mono fun v H3 ⟨A,n,c,hv,h3,hn,hs⟩=>⟨A,n,c,hv,A,n,c,rfl,h3,hn,hs⟩
end Go.Proofs.YtkofafcgcnciaaaGreatDoor
set_option maxRecDepth 100000
namespace Go.Proofs.YtkofafcgcnciaaaGreatDoor
open Go.Ax
def Gram (h:List Ev):Prop:=∀ (j:Nat) (x:Ev),h[j]? = some x → mayP (h.take j) x = true
theorem standG_all:∀ (l pre:List Ev),¬ standG pre l < l.length → ∀ (j:Nat) (x:Ev),l[j]? = some x → mayP (pre ++ l.take j) x = true
  | [],_,_,j,x,hx=>by cases hx
  | y :: l,pre,h,j,x,hx=>by
    unfold standG at h
    by_cases hm:mayP pre y = true
    · rw [if_pos hm,List.length_cons] at h
      cases j with
      | zero=>cases hx; simpa using hm
      | succ j =>
        have:=standG_all l (pre ++ [y]) (by omega) j x (by simpa using hx)
        simpa using this
    · rw [if_neg hm,List.length_cons] at h
      exact absurd (Nat.succ_pos _) h
theorem gram_of {h:List Ev} (hs:¬ stand h < h.length):Gram h:=fun j x hx=>by
  have:=standG_all h [] hs j x hx
  simpa using this
theorem may_names {pre:List Ev} {e:Ev} (h:mayP pre e = true) (hp:pre ≠ []):namesP pre e = true:=by
  unfold mayP at h
  split at h
  · cases h
  · split at h
    · cases h
    · split at h
      · cases h
      · exact h
theorem may_head {pre:List Ev} {e:Ev} (h:mayP pre e = true):validM e = true ∧ e.id = pre.length + 1 ∧ ((e.kind = 1) ↔ pre = []):=by
  unfold mayP at h
  split at h
  · cases h
  · rename_i hx
    simp only [Bool.or_eq_true,not_or,Bool.not_eq_true,Bool.and_eq_false_iff] at hx
    obtain ⟨⟨⟨h1,h2⟩,h3⟩,h4⟩:=hx
    refine ⟨by simpa using h1,by simpa using h2,fun hk=>?_,fun hp=>?_⟩
    · rcases h3 with h3 | h3
      · rw [hk] at h3; cases h3
      · have:(pre.length:Int) = 0:=by simpa using h3
        exact List.length_eq_zero_iff.1 (by omega)
    · rcases h4 with h4 | h4
      · simpa using h4
      · subst hp; cases h4
theorem may_last {pre:List Ev} {e:Ev} (h:mayP pre e = true) (hp:pre ≠ []):(lastP pre).time ≤ e.time ∧ closeM (lastP pre).kind = false:=by
  unfold mayP at h
  split at h
  · cases h
  · split at h
    · cases h
    · rename_i hx
      simp only [Bool.or_eq_true,not_or,Bool.not_eq_true] at hx
      exact ⟨by have:=hx.1.1; simpa using this,hx.1.2⟩
end Go.Proofs.YtkofafcgcnciaaaGreatDoor
set_option maxRecDepth 100000
namespace Go.Proofs.YtkofafcgcnciaaaGreatDoor
open Go.Ax
def nameL (h:List Ev) (id:Int) (ks:List Int):Option Ev:=h.foldl (fun o x=>if (ks.contains x.kind && x.a == id) = true then some x else o) none
theorem nameL_snoc (h:List Ev) (e:Ev) (id:Int) (ks:List Int):nameL (h ++ [e]) id ks = if (ks.contains e.kind && e.a == id) = true then some e else nameL h id ks:=by
  unfold nameL; rw [List.foldl_append]; rfl
theorem nameL_go (id:Int) (ks:List Int):∀ (h:List Ev) (o:Option Ev),(∀ x ∈ h,(ks.contains x.kind && x.a == id) = false) → h.foldl (fun o x=>if (ks.contains x.kind && x.a == id) = true then some x else o) o = o
  | [],_,_=>rfl
  | x :: h,o,n=>by
    rw [List.foldl_cons,if_neg (by rw [n x (List.mem_cons_self ..)]; decide)]
    exact nameL_go id ks h o fun y hy=>n y (List.mem_cons_of_mem _ hy)
theorem nameL_none {h:List Ev} {id:Int} {ks:List Int} (n:∀ x ∈ h,(ks.contains x.kind && x.a == id) = false):nameL h id ks = none:=nameL_go id ks h none n
def valD (o:Option Ev):Int:=match o with | some x=>x.b | none=>0
def updD (id:Int) (o:Option Ev):UpM:=match o with | none=>⟨id,0,0,0⟩ | some x=>⟨id,x.kind - 11,if x.kind = 12 then 0 else x.b,if x.kind = 14 then x.c else 0⟩
def kidD (e:Ev) (o p:Option Ev):KdM:=⟨e.id,e.a,e.b,valD o,p.isSome⟩
def actsD (h l:List Ev):List AcM:=l.filterMap fun e=>if e.kind = 3 ∧ nameL h e.id [6,22,23,24] = none then some (AcM.new e.id e.a e.b e.time) else none
def timersD (h l:List Ev):List TmM:=l.filterMap fun e=>if e.kind = 4 ∧ nameL h e.id [7,25] = none then some ⟨e.id,e.a⟩ else none
def kidsD (h l:List Ev):List KdM:=l.filterMap fun e=>if e.kind = 5 then some (kidD e (nameL h e.id [26]) (nameL h e.id [27,28])) else none
def updsD (h l:List Ev):List UpM:=l.filterMap fun e=>if e.kind = 21 then some (updD e.id (nameL h e.id [12,13,14])) else none
def attrD (A:List Int) (e:Ev):List Int:=if e.kind = 10 then A.set e.a.toNat e.b else A
def attrsD (l:List Ev):List Int:=l.foldl attrD [0,0,0,0]
def seeD (s:Int) (e:Ev):Int:=if (e.kind == 2 || cmdM e.kind && (e.kind != 16 || e.a != -4)) = true then e.id else s
def seenD (l:List Ev):Int:=l.foldl seeD 0
def headP (h:List Ev):Ev:=(h.head?).getD Ev.zero
def docR (number:Int) (id:ByteArray) (h:List Ev):RS :=
  { number:=number,id:=id,type:=(headP h).a,deadline:=(headP h).c,parent:=(headP h).d,event:=(headP h).e,begun:=(headP h).time
    status:=if closeM (lastP h).kind = true then statusM (lastP h).kind else 1
    value:=if closeM (lastP h).kind = true then (lastP h).a else 0
    ended:=if closeM (lastP h).kind = true then (lastP h).time else 0
    seen:=seenD h,attrs:=attrsD h,events:=h
    acts:=if closeM (lastP h).kind = true then [] else actsD h h
    timers:=if closeM (lastP h).kind = true then [] else timersD h h
    kids:=kidsD h h,updates:=updsD h h }
section
variable (R:RS) (e:Ev)
theorem see_same:((R.add e).see e).number = R.number ∧ ((R.add e).see e).id = R.id ∧ ((R.add e).see e).type = R.type ∧ ((R.add e).see e).deadline = R.deadline ∧ ((R.add e).see e).parent = R.parent ∧ ((R.add e).see e).event = R.event ∧ ((R.add e).see e).begun = R.begun ∧ ((R.add e).see e).status = R.status ∧ ((R.add e).see e).value = R.value ∧ ((R.add e).see e).ended = R.ended ∧ ((R.add e).see e).attrs = R.attrs ∧ ((R.add e).see e).events = R.events ++ [e] ∧ ((R.add e).see e).acts = R.acts ∧ ((R.add e).see e).timers = R.timers ∧ ((R.add e).see e).kids = R.kids ∧ ((R.add e).see e).updates = R.updates:=by
  unfold RS.see RS.add
  split <;> exact ⟨rfl,rfl,rfl,rfl,rfl,rfl,rfl,rfl,rfl,rfl,rfl,rfl,rfl,rfl,rfl,rfl⟩
theorem see_seen:((R.add e).see e).seen = if (e.kind == 2 || cmdM e.kind && !outR e) = true then e.id else R.seen:=by
  unfold RS.see RS.add
  split <;> rfl
def Same12 (X Y:RS):Prop:=Y.number = X.number ∧ Y.id = X.id ∧ Y.type = X.type ∧ Y.deadline = X.deadline ∧ Y.parent = X.parent ∧ Y.event = X.event ∧ Y.begun = X.begun ∧ Y.status = X.status ∧ Y.value = X.value ∧ Y.ended = X.ended ∧ Y.events = X.events ∧ Y.seen = X.seen
theorem sw_same (X:RS) (h1:e.kind ≠ 1):Same12 X (X.sw e):=by
  have c:∀ {P:Prop} [Decidable P] {x y:RS},Same12 X x → Same12 X y → Same12 X (if P then x else y):=fun h1 h2=>by split; exact h1; exact h2
  have r:Same12 X X:=⟨rfl,rfl,rfl,rfl,rfl,rfl,rfl,rfl,rfl,rfl,rfl,rfl⟩
  unfold RS.sw
  rw [if_neg h1]
  exact c r (c r (c r (c r (c r (c r (c r (c r (c r (c r (c r (c r r)))))))))))
theorem sw_cases (P : Prop) (c1 : e.kind = 1 → P) (c3 : e.kind = 3 → P) (c4 : e.kind = 4 → P) (c5 : e.kind = 5 → P) (c6 : e.kind = 6 ∨ e.kind = 22 ∨ e.kind = 23 ∨ e.kind = 24 → P) (c7 : e.kind = 7 ∨ e.kind = 25 → P) (c10 : e.kind = 10 → P) (c21 : e.kind = 21 → P) (c12 : e.kind = 12 → P) (c13 : e.kind = 13 → P) (c14 : e.kind = 14 → P) (c26 : e.kind = 26 → P) (c27 : e.kind = 27 ∨ e.kind = 28 → P)
    (c0:e.kind ≠ 1 ∧ e.kind ≠ 3 ∧ e.kind ≠ 4 ∧ e.kind ≠ 5 ∧ ¬ (e.kind = 6 ∨ e.kind = 22 ∨ e.kind = 23 ∨ e.kind = 24) ∧ ¬ (e.kind = 7 ∨ e.kind = 25) ∧ e.kind ≠ 10 ∧ e.kind ≠ 21 ∧ e.kind ≠ 12 ∧ e.kind ≠ 13 ∧ e.kind ≠ 14 ∧ e.kind ≠ 26 ∧ ¬ (e.kind = 27 ∨ e.kind = 28) → P):P:=by
  by_cases h1:e.kind = 1
  · exact c1 h1
  by_cases h3:e.kind = 3
  · exact c3 h3
  by_cases h4:e.kind = 4
  · exact c4 h4
  by_cases h5:e.kind = 5
  · exact c5 h5
  by_cases h6:e.kind = 6 ∨ e.kind = 22 ∨ e.kind = 23 ∨ e.kind = 24
  · exact c6 h6
  by_cases h7:e.kind = 7 ∨ e.kind = 25
  · exact c7 h7
  by_cases h10:e.kind = 10
  · exact c10 h10
  by_cases h21:e.kind = 21
  · exact c21 h21
  by_cases h12:e.kind = 12
  · exact c12 h12
  by_cases h13:e.kind = 13
  · exact c13 h13
  by_cases h14:e.kind = 14
  · exact c14 h14
  by_cases h26:e.kind = 26
  · exact c26 h26
  by_cases h27:e.kind = 27 ∨ e.kind = 28
  · exact c27 h27
  exact c0 ⟨h1,h3,h4,h5,h6,h7,h10,h21,h12,h13,h14,h26,h27⟩
def swActs (X:RS):List AcM:=if e.kind = 3 then X.acts ++ [AcM.new e.id e.a e.b e.time] else if e.kind = 6 ∨ e.kind = 22 ∨ e.kind = 23 ∨ e.kind = 24 then X.acts.filter (fun a=>!(a.event == e.a)) else X.acts
def swTimers (X:RS):List TmM:=if e.kind = 4 then X.timers ++ [⟨e.id,e.a⟩] else if e.kind = 7 ∨ e.kind = 25 then X.timers.filter (fun a=>!(a.event == e.a)) else X.timers
def swKids (X:RS):List KdM:=if e.kind = 5 then X.kids ++ [⟨e.id,e.a,e.b,0,false⟩] else if e.kind = 26 then X.kids.map (kidR e.a e.b) else if e.kind = 27 ∨ e.kind = 28 then X.kids.map (kidO e.a) else X.kids
def swUpds (X:RS):List UpM:=if e.kind = 21 then X.updates ++ [⟨e.id,0,0,0⟩] else if e.kind = 12 then X.updates.map (upd1 e.a 1 0 0) else if e.kind = 13 then X.updates.map (upd1 e.a 2 e.b 0) else if e.kind = 14 then X.updates.map (upd1 e.a 3 e.b e.c) else X.updates
def Lists (X Y:RS):Prop:=Y.acts = swActs e X ∧ Y.timers = swTimers e X ∧ Y.kids = swKids e X ∧ Y.updates = swUpds e X ∧ Y.attrs = attrD X.attrs e
theorem sw_lists (X:RS):Lists e X (X.sw e):=by
  refine sw_cases e _ (fun k=>?_) (fun k=>?_) (fun k=>?_) (fun k=>?_) (fun k=>?_) (fun k=>?_) (fun k=>?_) (fun k=>?_) (fun k=>?_) (fun k=>?_) (fun k=>?_) (fun k=>?_) (fun k=>?_) (fun k=>?_)
  case _=>unfold Lists RS.sw swActs swTimers swKids swUpds attrD; rw [k]; exact ⟨rfl,rfl,rfl,rfl,rfl⟩
  case _=>unfold Lists RS.sw swActs swTimers swKids swUpds attrD; rw [k]; exact ⟨rfl,rfl,rfl,rfl,rfl⟩
  case _=>unfold Lists RS.sw swActs swTimers swKids swUpds attrD; rw [k]; exact ⟨rfl,rfl,rfl,rfl,rfl⟩
  case _=>unfold Lists RS.sw swActs swTimers swKids swUpds attrD; rw [k]; exact ⟨rfl,rfl,rfl,rfl,rfl⟩
  case _=>unfold Lists RS.sw swActs swTimers swKids swUpds attrD; rcases k with k | k | k | k <;> rw [k] <;> exact ⟨rfl,rfl,rfl,rfl,rfl⟩
  case _=>unfold Lists RS.sw swActs swTimers swKids swUpds attrD; rcases k with k | k <;> rw [k] <;> exact ⟨rfl,rfl,rfl,rfl,rfl⟩
  case _=>unfold Lists RS.sw swActs swTimers swKids swUpds attrD; rw [k]; exact ⟨rfl,rfl,rfl,rfl,rfl⟩
  case _=>unfold Lists RS.sw swActs swTimers swKids swUpds attrD; rw [k]; exact ⟨rfl,rfl,rfl,rfl,rfl⟩
  case _=>unfold Lists RS.sw swActs swTimers swKids swUpds attrD; rw [k]; exact ⟨rfl,rfl,rfl,rfl,rfl⟩
  case _=>unfold Lists RS.sw swActs swTimers swKids swUpds attrD; rw [k]; exact ⟨rfl,rfl,rfl,rfl,rfl⟩
  case _=>unfold Lists RS.sw swActs swTimers swKids swUpds attrD; rw [k]; exact ⟨rfl,rfl,rfl,rfl,rfl⟩
  case _=>unfold Lists RS.sw swActs swTimers swKids swUpds attrD; rw [k]; exact ⟨rfl,rfl,rfl,rfl,rfl⟩
  case _=>unfold Lists RS.sw swActs swTimers swKids swUpds attrD; rcases k with k | k <;> rw [k] <;> exact ⟨rfl,rfl,rfl,rfl,rfl⟩
  case _ =>
    obtain ⟨k1,k3,k4,k5,k6,k7,k10,k21,k12,k13,k14,k26,k27⟩:=k
    unfold Lists swActs swTimers swKids swUpds attrD
    rw [if_neg k3,if_neg k6,if_neg k4,if_neg k7,if_neg k5,if_neg k26,if_neg k27,if_neg k21,if_neg k12,if_neg k13,if_neg k14,if_neg k10]
    have:X.sw e = X:=by unfold RS.sw; rw [if_neg k1,if_neg k3,if_neg k4,if_neg k5,if_neg k6,if_neg k7,if_neg k10,if_neg k21,if_neg k12,if_neg k13,if_neg k14,if_neg k26,if_neg k27]
    rw [this]
    exact ⟨rfl,rfl,rfl,rfl,rfl⟩
end
section
variable {h:List Ev} {e:Ev}
theorem actsD_old (l:List Ev):actsD (h ++ [e]) l = if e.kind = 6 ∨ e.kind = 22 ∨ e.kind = 23 ∨ e.kind = 24 then (actsD h l).filter (fun a=>!(a.event == e.a)) else actsD h l:=by
  have hc:(([6,22,23,24]:List Int).contains e.kind = true) ↔ (e.kind = 6 ∨ e.kind = 22 ∨ e.kind = 23 ∨ e.kind = 24):=by simp
  by_cases q:e.kind = 6 ∨ e.kind = 22 ∨ e.kind = 23 ∨ e.kind = 24
  · rw [if_pos q]
    unfold actsD
    rw [List.filter_filterMap]
    refine congrArg (fun f=>l.filterMap f) (funext fun x=>?_)
    rw [nameL_snoc,hc.2 q]
    by_cases k:x.kind = 3
    · by_cases m:e.a = x.id
      · rw [if_neg (by simp [m])]
        split
        · rw [Option.filter_some,if_neg (by simp [AcM.new,m])]
        · rfl
      · rw [if_neg (c:=(true && e.a == x.id) = true) (by simp [m])]
        split
        · rw [Option.filter_some,if_pos (by simp [AcM.new]; exact fun r=>m r.symm)]
        · rfl
    · rw [if_neg (fun r=>k r.1),if_neg (fun r=>k r.1)]; rfl
  · rw [if_neg q]
    unfold actsD
    refine congrArg (fun f=>l.filterMap f) (funext fun x=>?_)
    rw [nameL_snoc,show ([6,22,23,24]:List Int).contains e.kind = false from by cases r:([6,22,23,24]:List Int).contains e.kind with | false=>rfl | true=>exact absurd (hc.1 r) q]
    rfl
theorem timersD_old (l:List Ev):timersD (h ++ [e]) l = if e.kind = 7 ∨ e.kind = 25 then (timersD h l).filter (fun a=>!(a.event == e.a)) else timersD h l:=by
  have hc:(([7,25]:List Int).contains e.kind = true) ↔ (e.kind = 7 ∨ e.kind = 25):=by simp
  by_cases q:e.kind = 7 ∨ e.kind = 25
  · rw [if_pos q]
    unfold timersD
    rw [List.filter_filterMap]
    refine congrArg (fun f=>l.filterMap f) (funext fun x=>?_)
    rw [nameL_snoc,hc.2 q]
    by_cases k:x.kind = 4
    · by_cases m:e.a = x.id
      · rw [if_neg (by simp [m])]
        split
        · rw [Option.filter_some,if_neg (by simp [m])]
        · rfl
      · rw [if_neg (c:=(true && e.a == x.id) = true) (by simp [m])]
        split
        · rw [Option.filter_some,if_pos (by simp; exact fun r=>m r.symm)]
        · rfl
    · rw [if_neg (fun r=>k r.1),if_neg (fun r=>k r.1)]; rfl
  · rw [if_neg q]
    unfold timersD
    refine congrArg (fun f=>l.filterMap f) (funext fun x=>?_)
    rw [nameL_snoc,show ([7,25]:List Int).contains e.kind = false from by cases r:([7,25]:List Int).contains e.kind with | false=>rfl | true=>exact absurd (hc.1 r) q]
    rfl
theorem kidsD_old (l:List Ev):kidsD (h ++ [e]) l = if e.kind = 26 then (kidsD h l).map (kidR e.a e.b) else if e.kind = 27 ∨ e.kind = 28 then (kidsD h l).map (kidO e.a) else kidsD h l:=by
  have key:∀ (u:KdM → KdM),(∀ x:Ev,kidD x (nameL (h ++ [e]) x.id [26]) (nameL (h ++ [e]) x.id [27,28]) = u (kidD x (nameL h x.id [26]) (nameL h x.id [27,28]))) → kidsD (h ++ [e]) l = (kidsD h l).map u:=fun u hu=>by
    unfold kidsD
    rw [List.map_filterMap]
    refine congrArg (fun f=>l.filterMap f) (funext fun x=>?_)
    rw [hu]
    split <;> rfl
  split
  · rename_i q
    refine key _ fun x=>?_
    rw [nameL_snoc,nameL_snoc,q]
    unfold kidR kidD
    by_cases m:e.a = x.id <;> simp [m,valD]
    exact fun r=>absurd r.symm m
  · split
    · rename_i q1 q
      refine key _ fun x=>?_
      rw [nameL_snoc,nameL_snoc]
      unfold kidO kidD
      rcases q with q | q <;> rw [q] <;> by_cases m:e.a = x.id <;> simp [m]
      all_goals exact fun r=>absurd r.symm m
    · rename_i q1 q
      rw [key id fun x=>?_]
      · simp
      · rw [nameL_snoc,nameL_snoc,if_neg (by simp [q1]),if_neg (by simp; intro r; exact absurd r q)]
        rfl
theorem updsD_old (l:List Ev):updsD (h ++ [e]) l = if e.kind = 12 then (updsD h l).map (upd1 e.a 1 0 0) else if e.kind = 13 then (updsD h l).map (upd1 e.a 2 e.b 0) else if e.kind = 14 then (updsD h l).map (upd1 e.a 3 e.b e.c) else updsD h l:=by
  have key:∀ (u:UpM → UpM),(∀ x:Ev,updD x.id (nameL (h ++ [e]) x.id [12,13,14]) = u (updD x.id (nameL h x.id [12,13,14]))) → updsD (h ++ [e]) l = (updsD h l).map u:=fun u hu=>by
    unfold updsD
    rw [List.map_filterMap]
    refine congrArg (fun f=>l.filterMap f) (funext fun x=>?_)
    rw [hu]
    split <;> rfl
  have hid:∀ (x:Ev) (o:Option Ev),(updD x.id o).event = x.id:=fun x o=>by unfold updD; cases o <;> rfl
  have one:∀ (st v k:Int),(updD e.a (some e) = ⟨e.a,st,v,k⟩) → ([12,13,14]:List Int).contains e.kind = true → ∀ x:Ev,updD x.id (nameL (h ++ [e]) x.id [12,13,14]) = upd1 e.a st v k (updD x.id (nameL h x.id [12,13,14])):=fun st v k hv hc x=>by
    rw [nameL_snoc,hc]
    unfold upd1
    rw [hid]
    by_cases m:e.a = x.id
    · rw [if_pos (by simp [m]),if_pos (by simp [m])]
      rw [m] at hv
      rw [hv]
    · rw [if_neg (by simp [m]),if_neg (by simp; exact fun r=>m r.symm)]
  split
  · rename_i q
    exact key _ (one 1 0 0 (by unfold updD; simp [q]) (by rw [q]; rfl))
  · split
    · rename_i q
      exact key _ (one 2 e.b 0 (by unfold updD; simp [q]) (by rw [q]; rfl))
    · split
      · rename_i q
        exact key _ (one 3 e.b e.c (by unfold updD; simp [q]) (by rw [q]; rfl))
      · rename_i q1 q2 q3
        rw [key id fun x=>?_]
        · simp
        · rw [nameL_snoc,if_neg (by simp [q1,q2,q3])]
          rfl
end
def nmK:List Int:=[6,22,23,24,7,25,26,27,28,12,13,14]
theorem names_ref {pre:List Ev} {x:Ev} (n:namesP pre x = true) (k:nmK.contains x.kind = true):x.a ≤ pre.length:=by
  have hp:∀ kk b,(isP pre x.a kk && b) = true → x.a ≤ pre.length:=fun kk b q=>by
    unfold isP at q
    simp only [Bool.and_eq_true,decide_eq_true_eq] at q
    exact q.1.1.2
  have hk:x.kind = 6 ∨ x.kind = 22 ∨ x.kind = 23 ∨ x.kind = 24 ∨ x.kind = 7 ∨ x.kind = 25 ∨ x.kind = 26 ∨ x.kind = 27 ∨ x.kind = 28 ∨ x.kind = 12 ∨ x.kind = 13 ∨ x.kind = 14:=by simpa [nmK] using k
  unfold namesP at n
  repeat' split at n
  all_goals first | exact hp _ _ n | (rw [Bool.and_assoc] at n; exact hp _ _ n) | (exfalso; omega)
theorem gram_ref {h:List Ev} (g:Gram h) {j:Nat} {x:Ev} (hx:h[j]? = some x) (k:nmK.contains x.kind = true):x.a ≤ j:=by
  have hj:=get_lt hx
  have m:=g j x hx
  by_cases hp:h.take j = []
  · have h1:=(may_head m).2.2.2 hp
    rw [h1] at k; cases k
  · have:=names_ref (may_names m hp) k
    rw [List.length_take,Nat.min_eq_left (by omega)] at this
    exact this
theorem name_new {h:List Ev} {e:Ev} (g:Gram (h ++ [e])) {ks:List Int} (hk:∀ k,ks.contains k = true → nmK.contains k = true):nameL (h ++ [e]) e.id ks = none:=by
  have he:=(may_head (g h.length e (by simp))).2.1
  rw [List.take_left] at he
  refine nameL_none fun x hx=>?_
  obtain ⟨j,hj⟩:=List.getElem?_of_mem hx
  have hl:=get_lt hj
  rw [List.length_append,List.length_singleton] at hl
  cases q:(ks.contains x.kind && x.a == e.id) with
  | false=>rfl
  | true =>
    rw [Bool.and_eq_true] at q
    have:=gram_ref g hj (hk _ q.1)
    have q2:x.a = e.id:=by simpa using q.2
    omega
theorem docR_snoc {h:List Ev} {e:Ev} (number:Int) (id:ByteArray) (g:Gram (h ++ [e])) (hn:h ≠ []):docR number id (h ++ [e]) = (docR number id h).book e:=by
  have m:=g h.length e (by simp)
  rw [List.take_left] at m
  have h1:e.kind ≠ 1:=fun q=>hn ((may_head m).2.2.1 q)
  have hcl:=(may_last m hn).2
  have hlast:lastP (h ++ [e]) = e:=by unfold lastP; simp
  have hhead:headP (h ++ [e]) = headP h:=by unfold headP; cases h with | nil=>exact absurd rfl hn | cons y l=>rfl
  have hsee:(e.kind == 2 || cmdM e.kind && (e.kind != 16 || e.a != -4)) = (e.kind == 2 || cmdM e.kind && !outR e):=by
    cases q:cmdM e.kind with
    | false=>rfl
    | true =>
      have:¬ e.kind ≥ 19:=by unfold cmdM at q; simp only [Bool.and_eq_true,decide_eq_true_eq] at q; omega
      unfold outR
      rw [decide_eq_false this]
      cases (e.kind == 2) <;> cases q1:(e.kind == 16) <;> cases q2:(e.a == -4) <;> simp [bne,q1,q2]
  have hacts:actsD (h ++ [e]) (h ++ [e]) = if e.kind = 3 then actsD h h ++ [AcM.new e.id e.a e.b e.time] else if e.kind = 6 ∨ e.kind = 22 ∨ e.kind = 23 ∨ e.kind = 24 then (actsD h h).filter (fun a=>!(a.event == e.a)) else actsD h h:=by
    have:actsD (h ++ [e]) (h ++ [e]) = actsD (h ++ [e]) h ++ actsD (h ++ [e]) [e]:=by unfold actsD; rw [List.filterMap_append]
    rw [this,actsD_old]
    have h2:actsD (h ++ [e]) [e] = if e.kind = 3 then [AcM.new e.id e.a e.b e.time] else []:=by
      unfold actsD
      rw [List.filterMap_cons,name_new g (by intro k; simp [nmK]; omega)]
      by_cases q:e.kind = 3 <;> simp [q]
    rw [h2]
    by_cases q:e.kind = 3
    · rw [if_pos q,if_pos q,if_neg (by omega)]
    · rw [if_neg q,if_neg q,List.append_nil]
  have htimers:timersD (h ++ [e]) (h ++ [e]) = if e.kind = 4 then timersD h h ++ [⟨e.id,e.a⟩] else if e.kind = 7 ∨ e.kind = 25 then (timersD h h).filter (fun a=>!(a.event == e.a)) else timersD h h:=by
    have:timersD (h ++ [e]) (h ++ [e]) = timersD (h ++ [e]) h ++ timersD (h ++ [e]) [e]:=by unfold timersD; rw [List.filterMap_append]
    rw [this,timersD_old]
    have h2:timersD (h ++ [e]) [e] = if e.kind = 4 then [⟨e.id,e.a⟩] else []:=by
      unfold timersD
      rw [List.filterMap_cons,name_new g (by intro k; simp [nmK]; omega)]
      by_cases q:e.kind = 4 <;> simp [q]
    rw [h2]
    by_cases q:e.kind = 4
    · rw [if_pos q,if_pos q,if_neg (by omega)]
    · rw [if_neg q,if_neg q,List.append_nil]
  have hkids:kidsD (h ++ [e]) (h ++ [e]) = if e.kind = 5 then kidsD h h ++ [⟨e.id,e.a,e.b,0,false⟩] else if e.kind = 26 then (kidsD h h).map (kidR e.a e.b) else if e.kind = 27 ∨ e.kind = 28 then (kidsD h h).map (kidO e.a) else kidsD h h:=by
    have:kidsD (h ++ [e]) (h ++ [e]) = kidsD (h ++ [e]) h ++ kidsD (h ++ [e]) [e]:=by unfold kidsD; rw [List.filterMap_append]
    rw [this,kidsD_old]
    have h2:kidsD (h ++ [e]) [e] = if e.kind = 5 then [⟨e.id,e.a,e.b,0,false⟩] else []:=by
      unfold kidsD
      rw [List.filterMap_cons,name_new g (by intro k; simp [nmK]; omega),name_new g (by intro k; simp [nmK]; omega)]
      by_cases q:e.kind = 5 <;> simp [q,kidD,valD]
    rw [h2]
    by_cases q:e.kind = 5
    · rw [if_pos q,if_pos q,if_neg (by omega),if_neg (by omega)]
    · rw [if_neg q,if_neg q,List.append_nil]
  have hupds:updsD (h ++ [e]) (h ++ [e]) = if e.kind = 21 then updsD h h ++ [⟨e.id,0,0,0⟩] else if e.kind = 12 then (updsD h h).map (upd1 e.a 1 0 0) else if e.kind = 13 then (updsD h h).map (upd1 e.a 2 e.b 0) else if e.kind = 14 then (updsD h h).map (upd1 e.a 3 e.b e.c) else updsD h h:=by
    have:updsD (h ++ [e]) (h ++ [e]) = updsD (h ++ [e]) h ++ updsD (h ++ [e]) [e]:=by unfold updsD; rw [List.filterMap_append]
    rw [this,updsD_old]
    have h2:updsD (h ++ [e]) [e] = if e.kind = 21 then [⟨e.id,0,0,0⟩] else []:=by
      unfold updsD
      rw [List.filterMap_cons,name_new g (by intro k; simp [nmK]; omega)]
      by_cases q:e.kind = 21 <;> simp [q,updD]
    rw [h2]
    by_cases q:e.kind = 21
    · rw [if_pos q,if_pos q,if_neg (by omega),if_neg (by omega),if_neg (by omega)]
    · rw [if_neg q,if_neg q,List.append_nil]
  have hattrs:attrsD (h ++ [e]) = attrD (attrsD h) e:=by unfold attrsD; rw [List.foldl_append]; rfl
  have hseen:seenD (h ++ [e]) = seeD (seenD h) e:=by unfold seenD; rw [List.foldl_append]; rfl
  have d:=see_same (docR number id h) e
  have ds:=see_seen (docR number id h) e
  unfold RS.book
  have k:=sw_same e (((docR number id h).add e).see e) h1
  obtain ⟨ka,kt,kk,ku,kr⟩:=sw_lists e (((docR number id h).add e).see e)
  unfold swActs at ka; unfold swTimers at kt; unfold swKids at kk; unfold swUpds at ku
  generalize (((docR number id h).add e).see e).sw e = Y at k ka kt kk ku kr ⊢
  generalize ((docR number id h).add e).see e = X at d ds k ka kt kk ku kr
  obtain ⟨d1,d2,d3,d4,d5,d6,d7,d8,d9,d10,d11,d12,d13,d14,d15,d16⟩:=d
  obtain ⟨k1,k2,k3,k4,k5,k6,k7,k8,k9,k10,k11,k12⟩:=k
  rw [d1] at k1; rw [d2] at k2; rw [d3] at k3; rw [d4] at k4; rw [d5] at k5; rw [d6] at k6; rw [d7] at k7; rw [d8] at k8; rw [d9] at k9; rw [d10] at k10; rw [d12] at k11; rw [ds] at k12
  rw [d13] at ka; rw [d14] at kt; rw [d15] at kk; rw [d16] at ku; rw [d11] at kr
  unfold docR at *
  simp only [hcl,Bool.false_eq_true,if_false] at k1 k2 k3 k4 k5 k6 k7 k8 k9 k10 k11 k12 ka kt kk ku kr
  rw [hlast,hhead,hacts,htimers,hkids,hupds,hattrs,hseen]
  unfold seeD
  rw [hsee,← k12,← ka,← kt,← kk,← ku,← kr]
  unfold RS.close
  cases Y
  simp only at *
  subst_vars
  split <;> simp_all
theorem docR_one (number:Int) (id:ByteArray) {e:Ev} (h1:e.kind = 1) (h2:e.id = 1):docR number id [e] = (RS.start number id).book { e with id:=1,kind:=1 }:=by
  cases e; simp only at h1 h2; subst h1 h2; rfl
theorem docR_fold (number:Int) (id:ByteArray) (a:Ev) (l:List Ev):∀ (k:Nat),k ≤ l.length → Gram (a :: l) → docR number id (a :: l.take k) = (l.take k).foldl RS.book ((RS.start number id).book { a with id:=1,kind:=1 })
  | 0,_,g=>by
    have m:=may_head (g 0 a rfl)
    exact docR_one number id (m.2.2.2 rfl) m.2.1
  | k + 1,hk,g=>by
    obtain ⟨x,hx⟩:∃ x,l[k]? = some x:=⟨l[k],List.getElem?_eq_getElem (by omega)⟩
    rw [List.take_add_one,hx]
    show docR number id ((a :: l.take k) ++ [x]) = _
    rw [docR_snoc number id ?_ (by simp),docR_fold number id a l k (by omega) g,List.foldl_append]
    · rfl
    · intro j y hy
      have e:(a :: l.take k) ++ [x] = (a :: l).take (k + 2):=by rw [List.take_succ_cons,List.take_add_one,hx]; rfl
      rw [e] at hy ⊢
      have hj:=get_lt hy
      rw [List.length_take] at hj
      rw [List.getElem?_take,if_pos (by omega)] at hy
      rw [List.take_take,Nat.min_eq_left (by omega)]
      exact g j y hy
end Go.Proofs.YtkofafcgcnciaaaGreatDoor
set_option maxRecDepth 100000
namespace Go.Proofs.YtkofafcgcnciaaaGreatDoor
open Go.Ax Go.RowKit Go.Shelf
attribute [local go_sem] Oper.semAt_some
def ofU (l:List Ev) (ks:List Int) (k:Nat):List (Fin l.length):=((List.finRange l.length).take k).filter fun i=>hasM ks (l[i]).kind
theorem ofU_succ {l:List Ev} {ks:List Int} {k:Nat} {x:Ev} (hk:k < l.length) (hx:l[k]? = some x):ofU l ks (k + 1) = ofU l ks k ++ (if hasM ks x.kind = true then [⟨k,hk⟩] else []):=by
  unfold ofU
  have h1:(List.finRange l.length)[k]? = some ⟨k,hk⟩:=by simp [hk]
  rw [List.take_add_one,h1,List.filter_append]
  have:l[k] = x:=by rw [List.getElem?_eq_getElem hk] at hx; simpa using hx
  simp only [Option.toList_some,List.filter_cons,List.filter_nil,Fin.getElem_fin,this]
theorem ofU_lt {l:List Ev} {ks:List Int} {k:Nat} {x:Ev} (hk:k < l.length) (hx:l[k]? = some x) (h:hasM ks x.kind = true):(ofU l ks k).length < (ofU l ks l.length).length:=by
  have h1:(ofU l ks (k + 1)).length = (ofU l ks k).length + 1:=by rw [ofU_succ hk hx,if_pos h]; simp
  have h2:∀ j,(ofU l ks (k + 1)).length ≤ (ofU l ks (k + 1 + j)).length:=by
    intro j
    unfold ofU
    have:((List.finRange l.length).take (k + 1)) = ((List.finRange l.length).take (k + 1 + j)).take (k + 1):=by rw [List.take_take,Nat.min_eq_left (by omega)]
    rw [this]
    exact ((List.take_sublist _ _).filter _).length_le
  have:=h2 (l.length - (k + 1))
  rw [show k + 1 + (l.length - (k + 1)) = l.length by omega] at this
  omega
theorem holds_alloc {H:Heap} {w:World} (h:Holds H w) (o:Obj):Holds H (w.alloc o):=fun b o' e=>by
  have hb:=heap_lt (h b o' e)
  have:=h b o' e
  show (w.heap.push o)[b]? = some o'
  rw [Array.getElem?_push_lt hb]
  rw [Array.getElem?_eq_getElem hb] at this
  exact this
theorem grown_alloc {H:Heap} {w:World} (h:Holds H w) (o:Obj):w.grownBy (w.alloc o) none ∧ Holds H (w.alloc o) ∧ (w.alloc o).heap[w.heap.size]? = some o:=by
  refine ⟨⟨rfl,rfl,rfl,?_,fun i hi _=>?_⟩,holds_alloc h o,?_⟩
  · show w.heap.size ≤ (w.heap.push o).size
    rw [Array.size_push]; omega
  · show (w.heap.push o)[i]? = w.heap[i]?
    rw [Array.getElem?_push_lt hi,Array.getElem?_eq_getElem hi]
  · show (w.heap.push o)[w.heap.size]? = some o
    exact Array.getElem?_push_size
theorem grown_keeps {H H':Heap} {w w':World} {o:Obj} (h:Holds H w) (k:Keeps H (w.alloc o) H' w') (s:Sub H H'):w.grownBy w' none ∧ Holds H w' ∧ w'.heap[w.heap.size]? = some o:=by
  obtain ⟨⟨a1,a2,a3,a4,a5⟩,b2,b3⟩:=grown_alloc h o
  have hlt:w.heap.size < (w.alloc o).heap.size:=by
    show w.heap.size < (w.heap.push o).size
    rw [Array.size_push]; omega
  have hn:H w.heap.size = none:=by
    cases hh:H w.heap.size with
    | none=>rfl
    | some o'=>have:=heap_lt (h _ _ hh); omega
  refine ⟨⟨?_,?_,?_,Nat.le_trans a4 k.size,fun i hi hr=>?_⟩,k.holds.sub s,(k.old _ hlt hn).1.trans b3⟩
  · first | exact k.os.trans a1 | exact k.tape.trans a1 | exact k.output.trans a1
  · first | exact k.os.trans a2 | exact k.tape.trans a2 | exact k.output.trans a2
  · first | exact k.os.trans a3 | exact k.tape.trans a3 | exact k.output.trans a3
  · cases hh:H i with
    | none=>exact (k.old i (by omega) hh).1.trans (a5 i hi hr)
    | some o'=>rw [k.holds.sub s i o' hh,h i o' hh]
theorem boxc {w:World} {b:Nat} {c:Array Value} {T:TypeId} (h:w.heap[b]? = some (.cells c T (0,0))) (j:Nat) (v:Value) (hv:c[j]? = some v):w.cell? ⟨b,j,none⟩ = some v:=by
  simp [World.cell?,h,hv]
theorem of1_in (n : Nat) (hn : 1 ≤ n) (lb : Nat) {HI : Heap} {B1 B2 : Nat} {A Bk : Option Addr} {cap kn kc : Nat} {T1 T2 : TypeId} {l : List Ev} {ks : List Int}
    (h1:HI B1 = some (.cells #[.slice A l.length cap] T1 (0,0))) (h2:HI B2 = some (.cells #[.slice Bk kn kc] T2 (0,0))) (hE:HasEvs HI A l.length l) (hK:HasI HI Bk kn ks) (hb:l.length ≤ 100000000000000000) (hkb:ks.length ≤ 9223372036854775807)
    (J Jx:List (Fin l.length) → World → Prop) (W:World) (hW:Holds HI W) (hJ:AbidesFrom W.heap.size J)
    (hY:∀ pre (x:Fin l.length) W1,J pre W1 → pre.length < (ofU l ks l.length).length → YieldAt Fence.wide (n - 1) Tryz.prog lb #[.int .i64 (x.1:Int),((l[x.1]?).getD Ev.zero).val] W1 fun e W' =>
      (e = .returned (.bool true) ∧ J (pre ++ [x]) W' ∧ (Holds HI W1 → Holds HI W')) ∨ (e = .returned (.bool false) ∧ Jx (pre ++ [x]) W'))
    (h0:J [] W) :
    CallsIn Fence.wide n Tryz.prog 87 #[.func (.yield lb) #[] #[],.pointer (some ⟨B1,0,none⟩),.pointer (some ⟨B2,0,none⟩)] W fun e W'=>(∃ v,e = .returned v) ∧
      ((∃ xs,xs = ofU l ks l.length ∧ J xs W') ∨ (∃ pre,(∃ j,pre = ofU l ks j) ∧ Jx pre W')):=by
  refine callsIn_of_wp Tryz.func87 rfl trivial ?_ rfl
  simp only [Tryz.ntmps87,List.size_toArray,List.length_cons,List.length_nil,Nat.reduceAdd,Nat.reduceSub,Array.replicate_succ,Array.replicate_zero,List.push_toArray,List.append_toArray,List.nil_append,List.cons_append]
  have c1:W.cell? ⟨B1,0,none⟩ = some (.slice A l.length cap):=(at_fld (k:=0) h1 rfl).cell hW 0 _ rfl
  gi_wp2
  gi_loopw [8] (fun i wr=>∃ k:Nat,k ≤ l.length ∧ i = .int .i64 k ∧ J (ofU l ks k) wr ∧ Holds HI wr)
    (fun i _=>l.length - (intOf i).toNat)
  case atStart=>exact ⟨0,Nat.zero_le _,rfl,h0,hW⟩
  case round =>
    obtain ⟨k,hk,rfl,hJs,hH⟩:=hrel
    by_cases hlt:k < l.length
    · obtain ⟨x,hx⟩:=get_some (l:=l) (i:=k) hlt
      obtain ⟨⟨ab,ao,asp⟩,ha,hat⟩:=hE.at_ k x hx
      obtain rfl:asp = none:=by
        obtain ⟨x0,hx0⟩:=get_some (l:=l) (i:=0) (by omega)
        obtain ⟨a0,ha0,hat0⟩:=hE.at_ 0 x0 hx0
        rw [ha] at ha0; cases ha0
        obtain ⟨_,_,_,_,q,_⟩:=hat0.out
        simpa [Addr.add] using q
      subst ha
      have hcell:∀ j v,x.cells[j]? = some v → wr.cell? ⟨ab,ao + k * 9 + j,none⟩ = some v:=fun j v hv=>by
        have:=hat.cell hH j v hv
        rw [addr_add,addr_add] at this; exact this
      have hc0:wr.cell? ⟨ab,ao + k * 9,none⟩ = some (.int .i64 x.id):=hcell 0 _ rfl
      have hc1:=hcell 1 _ rfl
      have hc2:=hcell 2 _ rfl
      have hc3:=hcell 3 _ rfl
      have hc4:=hcell 4 _ rfl
      have hc5:=hcell 5 _ rfl
      have hc6:=hcell 6 _ rfl
      have hc7:=hcell 7 _ rfl
      have hc8:=hcell 8 _ rfl
      have c2:wr.cell? ⟨B2,0,none⟩ = some (.slice Bk kn kc):=(at_fld (k:=0) h2 rfl).cell hH 0 _ rfl
      have l2:B2 < wr.heap.size:=heap_lt (hH _ _ h2)
      clear hat hcell
      gi_wp2
      · refine ⟨trivial,callsIn_wide.2 (((t88 hkb hK x.kind).run _ (holds_alloc hH _)).mono ?_)⟩
        rintro e w1 ⟨v,H',rfl,hkp,rfl,hs⟩
        obtain ⟨g1,g2,g3⟩:=grown_keeps hH hkp hs
        have hin0:hasM ks x.kind = ks.contains x.kind:=by
          unfold hasM
          have:ks.length ≠ 0:=by have:=hK.len; omega
          have:((ks.length:Int) == 0) = false:=by rw [beq_eq_false_iff_ne]; omega
          rw [this,Bool.or_false]
        clear hkp
        cases hin:ks.contains x.kind with
        | false =>
          rw [hin] at hin0
          gi_wp2
          go_roundw
          case rel=>exact ⟨k + 1,by omega,by simp,by rw [ofU_succ hlt hx,if_neg (by rw [hin0]; simp),List.append_nil]; exact hJ _ _ _ none hJs g1 (by simp),g2⟩
          case measure=>simp [intOf]; omega
        | true =>
          rw [hin] at hin0
          have hin:=hin0
          have hlx:(l[(⟨k,hlt⟩:Fin l.length).1]?).getD Ev.zero = x:=by show (l[k]?).getD Ev.zero = x; rw [hx]; rfl
          have hlen:(ofU l ks k).length < (ofU l ks l.length).length:=ofU_lt hlt hx hin
          obtain ⟨fn,tmps,assign,body,hy,hR⟩:=hY _ ⟨k,hlt⟩ w1 (hJ _ _ _ none hJs g1 (by simp)) hlen
          rw [hlx] at hy
          have hy:(Instr.yield lb #[.int .i64 (k:Int),.agg #[.int .i64 x.id,.int .i64 x.time,.int .i64 x.kind,.int .i64 x.a,.int .i64 x.b,.int .i64 x.c,.int .i64 x.d,.int .i64 x.e,.int .i64 x.f]]).run Tryz.prog w1 = .ok (.round lb fn tmps assign body) w1:=hy
          have d0:=boxc g3 0 _ rfl
          have d1:=boxc g3 1 _ rfl
          have d2:=boxc g3 2 _ rfl
          have d3:=boxc g3 3 _ rfl
          have d4:=boxc g3 4 _ rfl
          have d5:=boxc g3 5 _ rfl
          have d6:=boxc g3 6 _ rfl
          have d7:=boxc g3 7 _ rfl
          have d8:=boxc g3 8 _ rfl
          clear hc0 hc1 hc2 hc3 hc4 hc5 hc6 hc7 hc8
          gi_wp2
          refine hR.mono ?_
          rintro e W3 (⟨rfl,hJ3,hk3⟩ | ⟨rfl,hJx3⟩)
          · gi_wp2
            go_roundw
            case rel=>exact ⟨k + 1,by omega,by simp,by rw [ofU_succ hlt hx,if_pos hin]; exact hJ3,hk3 g2⟩
            case measure=>simp [intOf]; omega
          · gi_wp2
            refine bodyPost_ret (results_none rfl _ _ _) rfl ?_
            exact ⟨⟨_,rfl⟩,.inr ⟨_,⟨k + 1,by rw [ofU_succ hlt hx,if_pos hin]⟩,hJx3⟩⟩
      · refine ⟨trivial,?_⟩
        have hin:hasM ks x.kind = true:=by
          unfold hasM
          have:ks.length = 0:=by have:=hK.len; omega
          simp [this]
        obtain ⟨g1,g2,g3⟩:=grown_alloc hH (.cells #[.int .i64 x.id,.int .i64 x.time,.int .i64 x.kind,.int .i64 x.a,.int .i64 x.b,.int .i64 x.c,.int .i64 x.d,.int .i64 x.e,.int .i64 x.f] 47)
        generalize hw1:wr.alloc (.cells #[.int .i64 x.id,.int .i64 x.time,.int .i64 x.kind,.int .i64 x.a,.int .i64 x.b,.int .i64 x.c,.int .i64 x.d,.int .i64 x.e,.int .i64 x.f] 47) = w1 at g1 g2 g3 ⊢
        clear hw1
        have hlx:(l[(⟨k,hlt⟩:Fin l.length).1]?).getD Ev.zero = x:=by show (l[k]?).getD Ev.zero = x; rw [hx]; rfl
        have hlen:(ofU l ks k).length < (ofU l ks l.length).length:=ofU_lt hlt hx hin
        obtain ⟨fn,tmps,assign,body,hy,hR⟩:=hY _ ⟨k,hlt⟩ w1 (hJ _ _ _ none hJs g1 (by simp)) hlen
        rw [hlx] at hy
        have hy:(Instr.yield lb #[.int .i64 (k:Int),.agg #[.int .i64 x.id,.int .i64 x.time,.int .i64 x.kind,.int .i64 x.a,.int .i64 x.b,.int .i64 x.c,.int .i64 x.d,.int .i64 x.e,.int .i64 x.f]]).run Tryz.prog w1 = .ok (.round lb fn tmps assign body) w1:=hy
        have d0:=boxc g3 0 _ rfl
        have d1:=boxc g3 1 _ rfl
        have d2:=boxc g3 2 _ rfl
        have d3:=boxc g3 3 _ rfl
        have d4:=boxc g3 4 _ rfl
        have d5:=boxc g3 5 _ rfl
        have d6:=boxc g3 6 _ rfl
        have d7:=boxc g3 7 _ rfl
        have d8:=boxc g3 8 _ rfl
        clear hc0 hc1 hc2 hc3 hc4 hc5 hc6 hc7 hc8
        gi_wp2
        refine hR.mono ?_
        rintro e W3 (⟨rfl,hJ3,hk3⟩ | ⟨rfl,hJx3⟩)
        · gi_wp2
          go_roundw
          case rel=>exact ⟨k + 1,by omega,by simp,by rw [ofU_succ hlt hx,if_pos hin]; exact hJ3,hk3 g2⟩
          case measure=>simp [intOf]; omega
        · gi_wp2
          refine bodyPost_ret (results_none rfl _ _ _) rfl ?_
          exact ⟨⟨_,rfl⟩,.inr ⟨_,⟨k + 1,by rw [ofU_succ hlt hx,if_pos hin]⟩,hJx3⟩⟩
    · obtain rfl:k = l.length:=by omega
      gi_wp2
      go_end0
      exact ⟨⟨_,rfl⟩,.inl ⟨_,rfl,hJs⟩⟩
def evE (l:List Ev) (i:Nat):Int × Int × Int × Int × Int × Int × Int × Int × Int × Int × PUnit:=((i:Int),((l[i]?).getD Ev.zero).id,((l[i]?).getD Ev.zero).time,((l[i]?).getD Ev.zero).kind,((l[i]?).getD Ev.zero).a,((l[i]?).getD Ev.zero).b,((l[i]?).getD Ev.zero).c,((l[i]?).getD Ev.zero).d,((l[i]?).getD Ev.zero).e,((l[i]?).getD Ev.zero).f,())
def ofY (l:List Ev) (ks:List Int):List Nat:=(ofU l ks l.length).map (·.1)
theorem ofU_pre (l:List Ev) (ks:List Int) (j:Nat):List.IsPrefix ((ofU l ks j).map (·.1)) (ofY l ks):=by
  unfold ofY
  refine List.IsPrefix.map _ ?_
  unfold ofU
  refine List.IsPrefix.filter _ ?_
  have h1:(List.finRange l.length).take l.length = List.finRange l.length:=by rw [List.take_of_length_le]; simp
  rw [h1]
  exact List.take_prefix _ _
theorem it54 {HI : Heap} {B1 B2 : Nat} {A Bk : Option Addr} {cap kn kc : Nat} {T1 T2 : TypeId} {l : List Ev} {ks : List Int}
    (h1:HI B1 = some (.cells #[.slice A l.length cap] T1 (0,0))) (h2:HI B2 = some (.cells #[.slice Bk kn kc] T2 (0,0))) (hE:HasEvs HI A l.length l) (hK:HasI HI Bk kn ks) (hb:l.length ≤ 100000000000000000) (hkb:ks.length ≤ 9223372036854775807) :
    It Tryz.prog 87 [.pointer (some ⟨B1,0,none⟩),.pointer (some ⟨B2,0,none⟩)] HI l.length
      (fun i=>[Value.int .i64 (evE l i).1,Value.agg #[Value.int .i64 (evE l i).2.1,Value.int .i64 (evE l i).2.2.1,Value.int .i64 (evE l i).2.2.2.1,Value.int .i64 (evE l i).2.2.2.2.1,Value.int .i64 (evE l i).2.2.2.2.2.1,
        Value.int .i64 (evE l i).2.2.2.2.2.2.1,Value.int .i64 (evE l i).2.2.2.2.2.2.2.1,Value.int .i64 (evE l i).2.2.2.2.2.2.2.2.1,Value.int .i64 (evE l i).2.2.2.2.2.2.2.2.2.1]]) (ofY l ks):=by
  refine ⟨fun n w hn hw=>fun lb J Jx W hB hJ _ hY h0=>?_⟩
  have hW:Holds HI W:=fun b o e=>(hB.block b (heap_lt (hw b o e))).trans (hw b o e)
  have hlen:(ofY l ks).length = (ofU l ks l.length).length:=by simp [ofY]
  rw [hlen] at hY
  refine (of1_in n hn lb h1 h2 hE hK hb hkb J Jx W hW hJ hY h0).mono ?_
  rintro e W' ⟨he,⟨xs,rfl,hj⟩ | ⟨pre,⟨j,rfl⟩,hj⟩⟩
  · exact ⟨he,.inl ⟨_,rfl,hj⟩⟩
  · exact ⟨he,.inr ⟨_,ofU_pre l ks j,hj⟩⟩
end Go.Proofs.YtkofafcgcnciaaaGreatDoor
set_option maxRecDepth 100000
namespace Go.Proofs.YtkofafcgcnciaaaGreatDoor
open Go.Ax Go.RowKit Go.Shelf
attribute [local go_sem] Oper.semAt_some
def cmds (l:List Ev):List Ev:=l.takeWhile fun x=>cmdM x.kind
theorem cmds_pre (l:List Ev):cmds l <+: l:=List.takeWhile_prefix _
theorem cmds_le (l:List Ev):(cmds l).length ≤ l.length:=(cmds_pre l).length_le
theorem cmds_at:∀ (l:List Ev) (k:Nat) (x:Ev),k ≤ (cmds l).length → l[k]? = some x → (cmdM x.kind = true ↔ k < (cmds l).length)
  | [],k,x,_,hx=>by cases hx
  | y :: l,k,x,hk,hx=>by
    unfold cmds at hk ⊢
    rw [List.takeWhile_cons] at hk ⊢
    by_cases hy:cmdM y.kind = true
    · rw [if_pos hy] at hk ⊢
      cases k with
      | zero=>cases hx; simp [hy]
      | succ k =>
        have:=cmds_at l k x (by unfold cmds; simpa using hk) (by simpa using hx)
        rw [this]; unfold cmds; simp
    · rw [if_neg hy] at hk ⊢
      have:k = 0:=by simpa using hk
      subst this
      cases hx
      simp [hy]
def finTo (n k:Nat):List (Fin n):=(List.finRange n).take k
theorem finTo_succ {n k:Nat} (hk:k < n):finTo n (k + 1) = finTo n k ++ [⟨k,hk⟩]:=by
  unfold finTo
  rw [List.take_add_one]
  simp [hk]
theorem finTo_len {n k:Nat} (hk:k ≤ n):(finTo n k).length = k:=by simp [finTo,hk]
theorem rest1_in (n : Nat) (hn : 1 ≤ n) (lb : Nat) {HI : Heap} {B1 B2 : Nat} {A : Option Addr} {cap fr : Nat} {T1 T2 : TypeId} {l : List Ev}
    (h1:HI B1 = some (.cells #[.slice A l.length cap] T1 (0,0))) (h2:HI B2 = some (.cells #[.int .i64 (fr:Int)] T2 (0,0))) (hfr:fr ≤ l.length) (hcap:l.length ≤ cap) (hE:HasEvs HI A l.length l) (hb:l.length ≤ 100000000000000000)
    (J Jx:List (Fin (l.drop fr).length) → World → Prop) (W:World) (hW:Holds HI W) (hJ:AbidesFrom W.heap.size J)
    (hY:∀ pre (x:Fin (l.drop fr).length) W1,J pre W1 → pre.length < (cmds (l.drop fr)).length → YieldAt Fence.wide (n - 1) Tryz.prog lb #[(((l.drop fr)[x.1]?).getD Ev.zero).val] W1 fun e W' =>
      (e = .returned (.bool true) ∧ J (pre ++ [x]) W' ∧ (Holds HI W1 → Holds HI W')) ∨ (e = .returned (.bool false) ∧ Jx (pre ++ [x]) W'))
    (h0:J [] W) :
    CallsIn Fence.wide n Tryz.prog 114 #[.func (.yield lb) #[] #[],.pointer (some ⟨B1,0,none⟩),.pointer (some ⟨B2,0,none⟩)] W fun e W'=>(∃ v,e = .returned v) ∧
      ((∃ xs,xs = finTo (l.drop fr).length (cmds (l.drop fr)).length ∧ J xs W') ∨ (∃ pre,(∃ j,j ≤ (cmds (l.drop fr)).length ∧ pre = finTo (l.drop fr).length j) ∧ Jx pre W')):=by
  refine callsIn_of_wp Tryz.func114 rfl trivial ?_ rfl
  simp only [Tryz.ntmps114,List.size_toArray,List.length_cons,List.length_nil,Nat.reduceAdd,Nat.reduceSub,Array.replicate_succ,Array.replicate_zero,List.push_toArray,List.append_toArray,List.nil_append,List.cons_append]
  have c1:W.cell? ⟨B1,0,none⟩ = some (.slice A l.length cap):=(at_fld (k:=0) h1 rfl).cell hW 0 _ rfl
  have c2:W.cell? ⟨B2,0,none⟩ = some (.int .i64 (fr:Int)):=(at_fld (k:=0) h2 rfl).cell hW 0 _ rfl
  gi_wp2
  · rename_i hcf
    have hl0:(l.drop fr).length = 0:=by rw [List.length_drop]; omega
    have hc0:(cmds (l.drop fr)).length = 0:=by have:=cmds_le (l.drop fr); omega
    gi_loopw [10] (fun i wr=>i = .int .i64 0 ∧ J [] wr ∧ Holds HI wr)
      (fun i _=>0)
    case atStart=>exact ⟨rfl,h0,hW⟩
    case round =>
      obtain ⟨rfl,hJs,hH⟩:=hrel
      have:l.length - fr = 0:=by omega
      gi_wp2
      go_end0
      exact ⟨⟨_,rfl⟩,.inl ⟨_,rfl,by rw [hc0]; exact hJs⟩⟩
  · rename_i hcf
    generalize hA2:Option.map (fun x=>x.add (fr * 9)) A = A2
    gi_loopw [10] (fun i wr=>∃ k:Nat,k ≤ (cmds (l.drop fr)).length ∧ i = .int .i64 k ∧ J (finTo (l.drop fr).length k) wr ∧ Holds HI wr)
      (fun i _=>l.length - (intOf i).toNat)
    case atStart=>exact ⟨0,Nat.zero_le _,rfl,h0,hW⟩
    case round =>
      obtain ⟨k,hk,rfl,hJs,hH⟩:=hrel
      have hdl:(l.drop fr).length = l.length - fr:=List.length_drop
      have hcl:=cmds_le (l.drop fr)
      by_cases hlt:k < l.length - fr
      · obtain ⟨x,hx⟩:=get_some (l:=l.drop fr) (i:=k) (by omega)
        have hx0:l[fr + k]? = some x:=by rw [List.getElem?_drop] at hx; exact hx
        have hiff:=cmds_at (l.drop fr) k x hk hx
        obtain ⟨⟨ab,ao,asp⟩,ha,hat⟩:=hE.at_ (fr + k) x hx0
        obtain rfl:asp = none:=by
          obtain ⟨x0,hx0⟩:=get_some (l:=l) (i:=0) (by omega)
          obtain ⟨a0,ha0,hat0⟩:=hE.at_ 0 x0 hx0
          rw [ha] at ha0; cases ha0
          obtain ⟨_,_,_,_,q,_⟩:=hat0.out
          simpa [Addr.add] using q
        subst ha
        have hA3:A2 = some ⟨ab,ao + fr * 9,none⟩:=by rw [← hA2]; show some ((⟨ab,ao,none⟩:Addr).add (fr * 9)) = _; rw [addr_add]
        subst hA3
        clear hA2
        have hcell:∀ j v,x.cells[j]? = some v → wr.cell? ⟨ab,ao + fr * 9 + k * 9 + j,none⟩ = some v:=fun j v hv=>by
          have:=hat.cell hH j v hv
          rw [addr_add,addr_add] at this
          have e:ao + fr * 9 + k * 9 + j = ao + (fr + k) * 9 + j:=by omega
          rw [e]; exact this
        have hc0:wr.cell? ⟨ab,ao + fr * 9 + k * 9,none⟩ = some (.int .i64 x.id):=hcell 0 _ rfl
        have hc1:=hcell 1 _ rfl
        have hc2:=hcell 2 _ rfl
        have hc3:=hcell 3 _ rfl
        have hc4:=hcell 4 _ rfl
        have hc5:=hcell 5 _ rfl
        have hc6:=hcell 6 _ rfl
        have hc7:=hcell 7 _ rfl
        have hc8:=hcell 8 _ rfl
        clear hat hcell
        gi_wp2
        refine ⟨trivial,callsIn_wide.2 (((t89 x.kind HI).run _ (holds_alloc hH _)).mono ?_)⟩
        rintro e w1 ⟨v,H',rfl,hkp,rfl,hs⟩
        obtain ⟨g1,g2,g3⟩:=grown_keeps hH hkp hs
        clear hkp
        have hJ1:=hJ _ _ _ none hJs g1 (by simp)
        cases hin:cmdM x.kind with
        | false =>
          have hkk:k = (cmds (l.drop fr)).length:=by
            have:¬ k < (cmds (l.drop fr)).length:=fun h=>by rw [hiff.2 h] at hin; cases hin
            omega
          gi_wp2
          refine ⟨fun f hf=>(by cases hf),?_⟩
          gi_wp2
          refine bodyPost_ret (results_none rfl _ _ _) rfl ?_
          exact ⟨⟨_,rfl⟩,.inl ⟨_,rfl,by rw [← hkk]; exact hJ1⟩⟩
        | true =>
          have hkl:=hiff.1 hin
          have hlx:((l.drop fr)[(⟨k,by omega⟩:Fin (l.drop fr).length).1]?).getD Ev.zero = x:=by show ((l.drop fr)[k]?).getD Ev.zero = x; rw [hx]; rfl
          obtain ⟨fn,tmps,assign,body,hy,hR⟩:=hY _ ⟨k,by omega⟩ w1 hJ1 (by rw [finTo_len (by omega)]; exact hkl)
          rw [hlx] at hy
          have hy:(Instr.yield lb #[.agg #[.int .i64 x.id,.int .i64 x.time,.int .i64 x.kind,.int .i64 x.a,.int .i64 x.b,.int .i64 x.c,.int .i64 x.d,.int .i64 x.e,.int .i64 x.f]]).run Tryz.prog w1 = .ok (.round lb fn tmps assign body) w1:=hy
          have d0:=boxc g3 0 _ rfl
          have d1:=boxc g3 1 _ rfl
          have d2:=boxc g3 2 _ rfl
          have d3:=boxc g3 3 _ rfl
          have d4:=boxc g3 4 _ rfl
          have d5:=boxc g3 5 _ rfl
          have d6:=boxc g3 6 _ rfl
          have d7:=boxc g3 7 _ rfl
          have d8:=boxc g3 8 _ rfl
          clear hc0 hc1 hc2 hc3 hc4 hc5 hc6 hc7 hc8
          gi_wp2
          refine hR.mono ?_
          rintro e W3 (⟨rfl,hJ3,hk3⟩ | ⟨rfl,hJx3⟩)
          · gi_wp2
            go_roundw
            case rel=>exact ⟨k + 1,by omega,by simp,by rw [finTo_succ (by omega)]; exact hJ3,hk3 g2⟩
            case measure=>simp [intOf]; omega
          · gi_wp2
            refine bodyPost_ret (results_none rfl _ _ _) rfl ?_
            exact ⟨⟨_,rfl⟩,.inr ⟨_,⟨k + 1,by omega,by rw [finTo_succ (by omega)]⟩,hJx3⟩⟩
      · have hkk:k = (cmds (l.drop fr)).length:=by omega
        subst hkk
        gi_wp2
        go_end0
        exact ⟨⟨_,rfl⟩,.inl ⟨_,rfl,hJs⟩⟩
end Go.Proofs.YtkofafcgcnciaaaGreatDoor
set_option maxRecDepth 100000
namespace Go.Proofs.YtkofafcgcnciaaaGreatDoor
open Go.Ax
def VS.exp (s:VS) (l:List Ev):VS:={ s with expect:=some l }
def VS.noExp (s:VS):VS:={ s with expect:=none }
def VS.retask (s:VS) (p:Prg) (h:List Ev) (k:Nat) (now:Int):VS:=(s.exp (cmds (h.drop (k + 1)))).task p now
def VS.more (s:VS):Bool:=match s.expect with | some (x :: _)=>!outsideM x | _=>false
def rep1 (p:Prg) (h:List Ev) (k:Nat) (s:VS):Sum Nat (Nat × VS):=match h[k]? with
  | none=>.inr (k,s)
  | some e =>
    if e.kind ≠ 2 then (if (s.apply e).1 ≠ 0 then .inl k else .inr (k + 1,(s.apply e).2)) else
    if ((s.retask p h k e.time).drift || (s.retask p h k e.time).more) = true then .inl (k + (s.retask p h k e.time).made.length) else .inr (k + (s.retask p h k e.time).made.length,(s.retask p h k e.time).noExp)
def repN (p:Prg) (h:List Ev):Nat → Sum Nat (Nat × VS)
  | 0=>.inr (0,VS.init)
  | n + 1=>match repN p h n with
    | .inl a=>.inl a
    | .inr (k,s)=>if k < h.length then rep1 p h k s else .inr (k,s)
theorem repN_inl {p:Prg} {h:List Ev} {n a:Nat} (e:repN p h n = .inl a):∀ j,repN p h (n + j) = .inl a
  | 0=>e
  | j + 1=>by show (match repN p h (n + j) with | .inl a=>_ | .inr (k,s)=>_) = _; rw [repN_inl e j]
theorem repN_inr {p:Prg} {h:List Ev} {n k:Nat} {s:VS} (e:repN p h n = .inr (k,s)) (hk:h.length ≤ k):∀ j,repN p h (n + j) = .inr (k,s)
  | 0=>e
  | j + 1=>by
    show (match repN p h (n + j) with | .inl a=>_ | .inr (k,s)=>_) = _
    rw [repN_inr e hk j]
    show (if k < h.length then _ else _) = _
    rw [if_neg (by omega)]
structure RepIn (p:Prg) (h:List Ev) (k:Nat) (s:VS):Prop where
  inv:Inv p s
  x:s.expect = none
  tk:∀ e,h[k]? = some e → e.kind = 2 → Tasks (s.exp (cmds (h.drop (k + 1)))) ∧ Inv p (s.exp (cmds (h.drop (k + 1))))
theorem FStep.some_ {p:Prg} {b:Bool} {s s':VS} (q:FStep p b s s') (hx:s.expect.isSome = true):s'.expect.isSome = true:=by
  have live:∀ e:Ev,(s.emit0 e).2.expect.isSome = true:=fun e=>by
    have k:=emits s e
    generalize s.emit0 e = q at k ⊢
    cases k with
    | live h=>rw [h] at hx; cases hx
    | none h=>exact hx
    | other w l h=>rfl
    | same w l h=>rfl
  cases q with
  | emit e ho hc=>unfold VS.emit; split <;> exact live _
  | fails c ho=>exact live _
  | done i v k=>rcases setDone_cases s i v k with e | ⟨f,-,-,-,e⟩ <;> rw [e] <;> exact hx
  | mark i=>rcases mark_cases s i with e | ⟨c,-,e⟩ <;> rw [e] <;> exact hx
  | _=>exact hx
theorem FSteps.some_ {p:Prg} {b:Bool} {s s':VS} (q:FSteps p b s s') (hx:s.expect.isSome = true):s'.expect.isSome = true:=by
  induction q with
  | refl=>exact hx
  | tail k q ih=>exact q.some_ ih
section
variable {p:Prg}
theorem exp_inv {s:VS} (iv:Inv p s) {l:List Ev} (hl:s.count + l.length ≤ 256):Inv p (s.exp l) :=
  ⟨iv.scp,iv.scn,iv.sc32,iv.t16,fun t ht=>(iv.thr t ht).mono (Nat.le_refl _) (Nat.le_refl _),iv.futs,iv.fuel,iv.many,iv.c0,fun l' e=>(by cases e; exact hl),iv.made,iv.sig,iv.sg8,iv.upd,iv.updI,iv.v16,iv.a4⟩
end
end Go.Proofs.YtkofafcgcnciaaaGreatDoor
set_option maxRecDepth 100000
namespace Go.Proofs.YtkofafcgcnciaaaGreatDoor
open Go.Ax
def evR (l:List Ev) (i:Nat):Int × Int × Int × Int × Int × Int × Int × Int × Int × PUnit:=(((l[i]?).getD Ev.zero).id,((l[i]?).getD Ev.zero).time,((l[i]?).getD Ev.zero).kind,((l[i]?).getD Ev.zero).a,((l[i]?).getD Ev.zero).b,((l[i]?).getD Ev.zero).c,((l[i]?).getD Ev.zero).d,((l[i]?).getD Ev.zero).e,((l[i]?).getD Ev.zero).f,())
theorem finTo_map {n k:Nat} (hk:k ≤ n):(finTo n k).map (·.1) = List.range k:=by
  apply List.ext_getElem?
  intro j
  unfold finTo
  by_cases hj:j < k
  · rw [List.getElem?_map,List.getElem?_take_of_lt hj]
    have hjn:j < n:=by omega
    simp [hj,hjn]
  · rw [List.getElem?_eq_none (by simp; omega),List.getElem?_eq_none (by simp; omega)]
theorem range_pre {j k:Nat} (h:j ≤ k):List.range j <+: List.range k:=by
  refine List.prefix_iff_eq_take.2 ?_
  rw [List.length_range,List.take_range,Nat.min_eq_left h]
theorem itRest {HI : Heap} {B1 B2 : Nat} {A : Option Addr} {cap fr : Nat} {T1 T2 : TypeId} {l : List Ev}
    (h1:HI B1 = some (.cells #[.slice A l.length cap] T1 (0,0))) (h2:HI B2 = some (.cells #[.int .i64 (fr:Int)] T2 (0,0))) (hfr:fr ≤ l.length) (hcap:l.length ≤ cap) (hE:HasEvs HI A l.length l) (hb:l.length ≤ 100000000000000000) :
    It Tryz.prog 114 [.pointer (some ⟨B1,0,none⟩),.pointer (some ⟨B2,0,none⟩)] HI (l.drop fr).length
      (fun i=>[Value.agg #[Value.int .i64 (evR (l.drop fr) i).1,Value.int .i64 (evR (l.drop fr) i).2.1,Value.int .i64 (evR (l.drop fr) i).2.2.1,Value.int .i64 (evR (l.drop fr) i).2.2.2.1,Value.int .i64 (evR (l.drop fr) i).2.2.2.2.1,
        Value.int .i64 (evR (l.drop fr) i).2.2.2.2.2.1,Value.int .i64 (evR (l.drop fr) i).2.2.2.2.2.2.1,Value.int .i64 (evR (l.drop fr) i).2.2.2.2.2.2.2.1,Value.int .i64 (evR (l.drop fr) i).2.2.2.2.2.2.2.2.1]]) (List.range (cmds (l.drop fr)).length):=by
  refine ⟨fun n w hn hw=>fun lb J Jx W hB hJ _ hY h0=>?_⟩
  have hW:Holds HI W:=fun b o e=>(hB.block b (heap_lt (hw b o e))).trans (hw b o e)
  rw [List.length_range] at hY
  refine (rest1_in n hn lb h1 h2 hfr hcap hE hb J Jx W hW hJ hY h0).mono ?_
  rintro e W' ⟨he,⟨xs,rfl,hj⟩ | ⟨pre,⟨j,hj2,rfl⟩,hj⟩⟩
  · exact ⟨he,.inl ⟨_,finTo_map (cmds_le _),hj⟩⟩
  · exact ⟨he,.inr ⟨_,by show List.map (·.1) (finTo _ j) <+: _; rw [finTo_map (Nat.le_trans hj2 (cmds_le _))]; exact range_pre hj2,hj⟩⟩
theorem own_cut {H H1:Heap} {A:Option Addr} {n c sz:Nat} {cs:List Value} (h:OwnS H H1 A n c sz cs):OwnS H (cutN H H1) A n c sz cs:=by
  refine ⟨cutN_keep (Sub.refl _) h.sub,h.len,h.cap,?_⟩
  rcases h.at_ with q | ⟨bb,cur,T,q0,q1,q2,q3,q4⟩
  · exact .inl q
  · exact .inr ⟨bb,cur,T,q0,q1,by unfold cutN; rw [q2]; rfl,q3,q4⟩
theorem range_cmds (l:List Ev):(List.range (cmds l).length).map (fun i=>(l[i]?).getD Ev.zero) = cmds l:=by
  apply List.ext_getElem?
  intro j
  by_cases hj:j < (cmds l).length
  · obtain ⟨q,hq⟩:=cmds_pre l
    have:l[j]? = (cmds l)[j]?:=by
      have e:(cmds l ++ q)[j]? = (cmds l)[j]?:=List.getElem?_append_left hj
      rw [hq] at e; exact e
    rw [List.getElem?_map,List.getElem?_range hj,Option.map_some,this]
    obtain ⟨x,hx⟩:=get_some hj
    rw [hx]; rfl
  · rw [List.getElem?_eq_none (by simp; omega),List.getElem?_eq_none (by omega)]
theorem t113 {H : Heap} {B1 B2 : Nat} {A : Option Addr} {cap fr : Nat} {T1 T2 : TypeId} {l : List Ev}
    (h1:H B1 = some (.cells #[.slice A l.length cap] T1 (0,0))) (h2:H B2 = some (.cells #[.int .i64 (fr:Int)] T2 (0,0))) (hfr:fr ≤ l.length) (hcap:l.length ≤ cap) (hE:HasEvs H A l.length l) (hb:l.length * 72 ≤ 140737488355328) :
    Tr Tryz.prog 113 #[.slice none 0 0,.func (.func 114) #[] #[.pointer (some ⟨B1,0,none⟩),.pointer (some ⟨B2,0,none⟩)]] H
      fun v H'=>∃ A' n' c',v = .slice A' n' c' ∧ OwnS H H' A' n' c' 9 ((cmds (l.drop fr)).flatMap Ev.cells):=by
  have hdl:(l.drop fr).length = l.length - fr:=List.length_drop
  have hcl:=cmds_le (l.drop fr)
  apply v113; unfold F113
  refine ⟨114,[.pointer (some ⟨B1,0,none⟩),.pointer (some ⟨B2,0,none⟩)],⟨rfl,by kernel_rfl⟩,H,(l.drop fr).length,evR (l.drop fr),List.range (cmds (l.drop fr)).length,Sub.refl _,
    itRest h1 h2 hfr hcap hE (by omega),fun pre A n c Hc=>OwnS H Hc A n c 9 ((pre.map fun i=>((l.drop fr)[i]?).getD Ev.zero).flatMap Ev.cells),OwnS.nil _ _,fun pre i hi hpre A n c Hc o hsub hncs x x1 x2 x3 x4 x5 x6 x7 x8 he=>⟨⟨hncs,hsub⟩,?_⟩,fun A n c Hc o hncs=>?_⟩
  · rw [List.length_range] at hpre
    have ho:=o.len
    rw [flat_size (cells:=Ev.cells) (sz:=9) (fun _=>rfl),List.length_map] at ho
    have hn:n = pre.length:=by omega
    refine own_app o (m:=1) rfl rfl (Nat.le_trans (Nat.mul_le_mul_right 72 (show n + 1 ≤ l.length by omega)) hb) (by omega) fun A' c' H' o2=>⟨own_cut ?_,o2.sub⟩
    unfold evR at he
    cases he
    rw [List.map_append,List.flatMap_append]
    simpa [Ev.cells] using o2
  · simp only [range_cmds] at o
    exact ⟨_,_,_,rfl,o⟩
theorem t66 {H : Heap} {B1 B2 : Nat} {A : Option Addr} {cap fr : Nat} {T1 T2 : TypeId} {l : List Ev}
    (h1:H B1 = some (.cells #[.slice A l.length cap] T1 (0,0))) (h2:H B2 = some (.cells #[.int .i64 (fr:Int)] T2 (0,0))) (hfr:fr ≤ l.length) (hcap:l.length ≤ cap) (hE:HasEvs H A l.length l) (hb:l.length * 72 ≤ 140737488355328) :
    Tr Tryz.prog 66 #[.func (.func 114) #[] #[.pointer (some ⟨B1,0,none⟩),.pointer (some ⟨B2,0,none⟩)]] H
      fun v H'=>∃ A' n' c',v = .slice A' n' c' ∧ OwnS H H' A' n' c' 9 ((cmds (l.drop fr)).flatMap Ev.cells):=by
  apply v66; unfold F66
  exact (t113 h1 h2 hfr hcap hE hb).mono fun v H' ⟨A',n',c',e,o⟩=>⟨A',n',c',e,A',n',c',rfl,o⟩
theorem t67 {H : Heap} {A : Option Addr} {n c fr : Nat} :
    Tr Tryz.prog 67 #[.slice A n c,.int .i64 (fr:Int)] H fun v H'=>∃ b b1,v = .func (.func 114) #[] #[.pointer (some ⟨b,0,none⟩),.pointer (some ⟨b1,0,none⟩)] ∧
      H' b = some (.cells #[.slice A n c] 27 (0,0)) ∧ H' b1 = some (.cells #[.int .i64 (fr:Int)] 3 (0,0)) ∧ Sub H H':=by
  apply v67; unfold F67
  intro b hb H1 e1 b1 hb1 H2 e2
  have hne:b1 ≠ b:=fun e=>by subst e; rw [e1,Heap.upd_same] at hb1; cases hb1
  refine ⟨b,b1,rfl,?_,by rw [e2]; exact Heap.upd_same,?_⟩
  · rw [e2,Heap.upd_other hne.symm,e1]; exact Heap.upd_same
  · subst e2; subst e1; exact (Sub.upd_new hb).trans (Sub.upd_new hb1)
section
variable {p:Prg} {G H:Heap} {m:Nat} {pf po:SlH} {sl:Nat → SlH} {F:Heap} {ex:Value} {st:List SlH} {s:VS}
theorem VMX.slAt (h:VMX G H m pf po sl F ex st s) {c:Nat} (hc:c < 14) {b:Nat} (hb:(sl c).blk = some b):(H b).isSome = true:=by
  rcases (h.ok c hc).at_ with a | ⟨b',off,cur,T,a1,a2,a3,a4⟩
  · unfold SlH.blk at hb; rw [a.1] at hb; cases hb
  · unfold SlH.blk at hb; rw [a1] at hb; cases hb; rw [a2]; rfl
theorem VMX.newEx (h:VMX G H m pf po sl F ex st s) {ex':Value} {e':Option (List Ev)} (hE:∀ H',(∀ b,b ≠ m → H' b = H b) → ExpOk F G H' m sl ex' e') {Q:Heap → Prop} (q:∀ H',VMX G H' m pf po sl F ex' st { s with expect:=e' } → Q H'):Wr H ((⟨m,0,none⟩:Addr).add 34) ex' Q:=by
  refine wr_cells h.hm (by rw [mCells_len]; decide) (q _ ?_)
  have e:(mCells pf po sl ex s).set 34 ex' = mCells pf po sl ex' { s with expect:=e' }:=rfl
  rw [e]
  have ne:∀ c,c < 14 → ∀ b,(sl c).blk = some b → b ≠ m:=fun c hc b hb=>(h.own c hc b hb).2
  refine ⟨h.gf,⟨fun i o ho=>?_⟩,h.fm,Heap.upd_same,h.own,h.inj,fun c hc=>(h.ok c hc).mono fun b hb=>Heap.upd_other (ne c hc b hb),h.stl,h.stk,h.vars,h.attrs,h.sigs,hE _ fun b hb=>Heap.upd_other hb⟩
  rw [Heap.upd_other (fun e=>by subst e; rw [h.fm] at ho; cases ho)]; exact h.fh.sub _ _ ho
theorem VMX.noEx (h:VMX G H m pf po sl F ex st s) {Q:Heap → Prop} (q:∀ H',VMX G H' m pf po sl F .nilFunc st s.noExp → Q H'):Wr H ((⟨m,0,none⟩:Addr).add 34) .nilFunc Q :=
  h.newEx (e':=none) (fun _ _=>⟨fun _=>rfl,fun _ e=>by cases e⟩) q
theorem VMX.expects (h : VMX G H m pf po sl F ex st s) {l : List Ev} {A : Option Addr} {n c : Nat} {H0 H1 : Heap} (s0 : Sub H H0) (o : OwnS H0 H1 A n c 9 (l.flatMap Ev.cells)) {xb : Nat} {T : TypeId} (hxb : H1 xb = none) {H2 : Heap} (e2 : H2 = H1.upd xb (.cells #[.slice A n c] T (0, 0)))
    {Q:Heap → Prop} (q:∀ F' H3,VMX G H3 m pf po sl F' (.func (.func 112) #[] #[.pointer (some ⟨xb,0,none⟩)]) st (s.exp l) → Sub (dif F G) (dif F' G) → Q H3) :
    Wr H2 ((⟨m,0,none⟩:Addr).add 34) (.func (.func 112) #[] #[.pointer (some ⟨xb,0,none⟩)]) Q:=by
  have s1:Sub H H1:=s0.trans o.sub
  have hHx:H xb = none:=none_below s1 hxb
  have hnl:n = l.length:=by have:=o.len; rw [flat_size (cells:=Ev.cells) (sz:=9) (fun _=>rfl)] at this; omega
  have hm:H1 m = some _:=s1.sub _ _ h.hm
  have hxm:xb ≠ m:=fun e=>by rw [e,hm] at hxb; cases hxb
  have h2x:H2 xb = some (.cells #[.slice A n c] T (0,0)):=by rw [e2]; exact Heap.upd_same
  have h2o:∀ b,b ≠ xb → H2 b = H1 b:=fun b hb=>by rw [e2]; exact Heap.upd_other hb
  have slx:∀ c,c < 14 → (sl c).blk ≠ some xb:=fun c hc hb=>by have:=h.slAt hc hb; rw [hHx] at this; cases this
  have key:∀ F',VMX G H2 m pf po sl F' ex st s → F' xb = none → Src (dif F' G) A (l.flatMap Ev.cells) → Sub (dif F G) (dif F' G) → Wr H2 ((⟨m,0,none⟩:Addr).add 34) (.func (.func 112) #[] #[.pointer (some ⟨xb,0,none⟩)]) Q:=fun F' v f0 sr sd=>by
    refine v.newEx (e':=some l) (fun H' k=>⟨fun e=>(by cases e),fun l' e=>?_⟩) fun H' v'=>q F' H' v' sd
    cases e
    exact ⟨xb,A,n,c,T,rfl,by rw [k xb hxm]; exact h2x,f0,hxm,slx,⟨hnl,o.cap⟩,sr⟩
  have s2:Sub H H2:=⟨fun b ob hb=>by rw [h2o b (fun e=>by rw [e,hHx] at hb; cases hb)]; exact s1.sub _ _ hb⟩
  rcases o.at_ with ⟨a1,a2,a3⟩ | ⟨bb,cur,T',a1,a2,a3,a4,a5⟩
  · refine key F (h.grow s2) (none_below h.fh hHx) (.inl ?_) ⟨fun _ _ k=>k⟩
    have:l.length = 0:=by omega
    rw [List.length_eq_zero_iff.1 this]; rfl
  · have hHb:H bb = none:=none_below s0 a2
    have hFb:F bb = none:=none_below h.fh hHb
    have hGb:G bb = none:=none_below h.gf hFb
    have hbx:bb ≠ xb:=fun e=>by rw [e,hxb] at a3; cases a3
    have hd:Sub (dif F G) (dif (F.upd bb (.cells cur T' (0,0))) G):=⟨fun i x k=>by
      have hne:i ≠ bb:=fun e=>by subst e; unfold dif at k; split at k; cases k; rw [hFb] at k; cases k
      unfold dif at k ⊢
      rw [Heap.upd_other hne]; exact k⟩
    refine key (F.upd bb (.cells cur T' (0,0))) (h.frame (h.gf.trans (Sub.upd_new hFb)) ⟨fun i x k=>?_⟩ (fun b hn hs=>?_) hd) ?_ (.inr ⟨⟨bb,0,none⟩,a1,?_⟩) hd
    · by_cases hne:i = bb
      · subst hne; rw [Heap.upd_same] at k; rw [h2o _ hbx,a3]; exact k
      · rw [Heap.upd_other hne] at k; exact s2.sub _ _ (h.fh.sub _ _ k)
    · have hne:b ≠ bb:=fun e=>by rw [e,hHb] at hs; cases hs
      refine ⟨by rw [Heap.upd_other hne]; exact hn,?_⟩
      obtain ⟨x,hx⟩:=Option.isSome_iff_exists.1 hs
      rw [hx,s2.sub _ _ hx]
    · rw [Heap.upd_other hbx.symm]; exact none_below h.fh hHx
    · refine ⟨⟨cur,T',(0,0),?_,rfl,fun j v hv=>by simpa using a5 j v hv⟩⟩
      unfold dif
      rw [hGb]
      show (if (false:Bool) = true then none else _) = _
      rw [if_neg (by decide)]
      exact Heap.upd_same
end
end Go.Proofs.YtkofafcgcnciaaaGreatDoor
set_option maxRecDepth 100000
namespace Go.Proofs.YtkofafcgcnciaaaGreatDoor
open Go.Ax
theorem FStep.longer {p:Prg} {b:Bool} {s s':VS} (q:FStep p b s s'):s.made.length ≤ s'.made.length:=by
  have live:∀ e:Ev,s.made.length ≤ (s.emit0 e).2.made.length:=fun e=>by
    have k:=emits s e
    generalize s.emit0 e = q at k ⊢
    cases k with
    | live h=>show _ ≤ (s.made ++ [e]).length; rw [List.length_append]; omega
    | none h=>exact Nat.le_refl _
    | other w l h=>exact Nat.le_refl _
    | same w l h=>show _ ≤ (s.made ++ [w]).length; rw [List.length_append]; omega
  cases q with
  | emit e ho hc=>unfold VS.emit; split <;> exact live _
  | fails c ho=>exact live _
  | done i v k=>rcases setDone_cases s i v k with e | ⟨f,-,-,-,e⟩ <;> rw [e] <;> exact Nat.le_refl _
  | mark i=>rcases mark_cases s i with e | ⟨c,-,e⟩ <;> rw [e] <;> exact Nat.le_refl _
  | _=>exact Nat.le_refl _
theorem FSteps.longer {p:Prg} {b:Bool} {s s':VS} (q:FSteps p b s s'):s.made.length ≤ s'.made.length:=by
  induction q with
  | refl=>exact Nat.le_refl _
  | tail _ q ih=>exact Nat.le_trans ih q.longer
theorem retask_ok {p:Prg} (ok:Okp p) {s:VS} {l:List Ev} (iv:Inv p (s.exp l)) (tk:Tasks (s.exp l)) (now:Int):Inv p ((s.exp l).task p now) ∧ ((s.exp l).task p now).expect.isSome = true ∧ 1 ≤ ((s.exp l).task p now).made.length:=by
  have h0:=begin_inv iv tk now
  have st:=task_steps ok iv tk now
  exact ⟨(st.inv h0.1 h0.2).1,st.some_ rfl,st.longer⟩
section
variable {p:Prg} {G H:Heap} {m:Nat} {pf po:SlH} {sl:Nat → SlH} {F:Heap} {ex:Value} {st:List SlH} {s:VS}
theorem VMX.c35 (h:VMX G H m pf po sl F ex st s):At H ((⟨m,0,none⟩:Addr).add 35) [.bool s.drift]:=h.cell rfl
structure RRep (p:Prg) (h:List Ev) (H0:Heap) (m:Nat) (pf po:SlH) (x:Int) (H1:Heap):Prop where
  out:∃ j k s,x = (k:Nat) ∧ k ≤ 600 ∧ repN p h j = .inr (k,s) ∧ VMP p H0 H1 m pf po .nilFunc s
structure RepR (p:Prg) (h:List Ev) (H0:Heap) (v:Value) (H':Heap):Prop where
  out:(∃ j a,repN p h j = .inl a ∧ v = .tuple #[.pointer none,.int .i64 53,.int .i64 (a:Nat)] ∧ Sub H0 H') ∨
    (∃ j k s m pf po,repN p h j = .inr (k,s) ∧ h.length ≤ k ∧ v = .tuple #[.pointer (some ⟨m,0,none⟩),.int .i64 0,.int .i64 0] ∧ VMP p H0 H' m pf po .nilFunc s)
theorem repN_succ {h:List Ev} {j k:Nat} {s:VS} (e:repN p h j = .inr (k,s)) (hk:k < h.length):repN p h (j + 1) = rep1 p h k s:=by
  show (match repN p h j with | .inl a=>_ | .inr (k,s)=>_) = _
  rw [e]
  show (if k < h.length then _ else _) = _
  rw [if_pos hk]
theorem t23 {H : Heap} {fA oA : Option Addr} {fn fc on oc : Nat} {p : Prg} (ok : Okp p) (hp : HasP H fA fn oA on p) {A : Option Addr} {n c : Nat} {h : List Ev} (he : HasEvs H A n h) (hcap : n ≤ c) (hb : h.length ≤ 256) (hs : stand h = h.length)
    (hok:∀ j k s,repN p h j = .inr (k,s) → k < h.length → RepIn p h k s) :
    Tr Tryz.prog 23 #[.agg #[.slice fA fn fc,.slice oA on oc],.slice A n c] H fun v H'=>RepR p h H v H':=by
  have hn:=he.len
  apply v23; unfold F23
  refine (t63 hp).mono fun v H1 hr=>?_
  rcases hr with ⟨hne,-⟩ | ⟨-,m,pf,po,hv,s1,w⟩
  · exact absurd (ok_check ok) (fun e=>hne (by rw [e]))
  have gc:=t36 (c:=c) (by omega) (he.sub s1)
  have hcv:¬ stand h < h.length:=by omega
  have cv:checkV h = .tuple #[.int .i64 0,.int .i64 0]:=by unfold checkV; rw [if_neg hcv]
  rw [cv] at gc
  refine ⟨some ⟨m,0,none⟩,0,hv,fun e=>absurd e (by simp),fun _=>⟨_,_,gc,fun e=>absurd e (by simp),fun _=>⟨RRep p h H m pf po,fun x _=>((n:Int) - x).toNat,⟨0,0,VS.init,rfl,by decide,rfl,w⟩,fun x H2 r=>?_⟩⟩⟩
  obtain ⟨j,k,s,rfl,hk6,hj,w2⟩:=r.out
  refine ⟨fun hlt=>?_,fun hge=>?_⟩
  · have hlt:(k:Int) < (n:Int):=of_decide_eq_true hlt
    have hkl:k < h.length:=by omega
    have ri:=hok j k s hj hkl
    obtain ⟨e,hek⟩:=get_some hkl
    have g2:=w2.gh
    obtain ⟨a,ha,hat⟩:=he.at_ k e hek
    have bd:A = some a ∧ (0:Int) ≤ (k:Int) ∧ (k:Int) < (n:Int):=⟨ha,by omega,hlt⟩
    have hw1:IntKind.i64.wrap ((k:Int) + 1) = ((k + 1:Nat):Int):=by rw [wrapi (by omega) (by omega)]; rfl
    rw [hw1]
    obtain ⟨sl2,F2,st2,v2,p2⟩:=w2.out
    refine ⟨a,bd,e.kind,at_one 2 (hat.sub g2) rfl,fun e2=>?_,fun e2=>?_⟩
    · have e2:e.kind ≠ 2:=by simpa using e2
      refine ⟨a,bd,_,_,_,_,_,_,_,_,_,hat.sub g2,(t64 ok v2 p2 ri.inv e).mono fun v3 H3 ⟨hv3,w3⟩=>⟨_,hv3,fun e3=>?_,fun e3=>?_⟩⟩
      · have e3:(s.apply e).1 ≠ 0:=by simpa using e3
        refine ⟨.inl ⟨j + 1,k,?_,rfl,w3.gh⟩⟩
        rw [repN_succ hj hkl]
        unfold rep1
        rw [hek]
        simp only
        rw [if_pos e2,if_pos e3]
      · have e3:(s.apply e).1 = 0:=by simpa using e3
        refine ⟨⟨j + 1,k + 1,_,rfl,by omega,?_,w3⟩,by show ((n:Int) - ((k + 1:Nat):Int)).toNat < ((n:Int) - (k:Int)).toNat; omega⟩
        rw [repN_succ hj hkl]
        unfold rep1
        rw [hek]
        simp only
        rw [if_pos e2,if_neg (by rw [e3]; simp)]
    · have e2:e.kind = 2:=by simpa using e2
      obtain ⟨tk,ivx⟩:=ri.tk e hek e2
      obtain ⟨iv5,so5,len5⟩:=retask_ok ok ivx tk e.time
      refine (t67 (fr:=k + 1)).mono fun v3 H3 ⟨b,b1,hv3,hb3,hb4,s3⟩=>⟨_,_,_,hv3,?_⟩
      have s03:Sub H H3:=g2.trans s3
      rw [hn] at hb3
      refine (t66 (l:=h) hb3 hb4 (by omega) (by omega) (by rw [← hn]; exact he.sub s03) (by omega)).mono fun v4 H4 ⟨A4,n4,c4,hv4,o4⟩=>⟨A4,n4,c4,hv4,?_⟩
      apply v65; unfold F65
      intro xb hxb H5 e5
      refine ⟨_,_,_,rfl,_,rfl,?_⟩
      refine v2.expects s3 o4 hxb e5 fun F6 H6 v6 d6=>?_
      have w6:VMP p H H6 m pf po (.func (.func 112) #[] #[.pointer (some ⟨xb,0,none⟩)]) (s.exp (cmds (h.drop (k + 1)))):=⟨sl2,F6,st2,v6,p2.sub d6⟩
      refine ⟨a,bd,e.time,at_one 1 (hat.sub w6.gh) rfl,(t68 ok v6 (p2.sub d6) ivx tk e.time).mono fun v7 H7 ⟨hv7,w7⟩=>⟨hv7,?_⟩⟩
      obtain ⟨sl7,F7,st7,v7',p7⟩:=w7.out
      obtain ⟨l7,hl7⟩:=Option.isSome_iff_exists.1 so5
      obtain ⟨all,hf,td⟩:=t112 v7' hl7
      have hml:=iv5.made
      have hc5:=iv5.c0
      have r1:repN p h (j + 1) = if ((s.retask p h k e.time).drift || (s.retask p h k e.time).more) = true then .inl (k + (s.retask p h k e.time).made.length) else .inr (k + (s.retask p h k e.time).made.length,(s.retask p h k e.time).noExp):=by
        rw [repN_succ hj hkl]
        unfold rep1
        rw [hek]
        simp only
        rw [if_neg (by omega)]
      have eS:(s.exp (cmds (h.drop (k + 1)))).task p e.time = s.retask p h k e.time:=rfl
      rw [eS] at v7' hl7 hml hc5 len5 td
      generalize s.retask p h k e.time = S at v7' hl7 hml hc5 len5 td r1
      refine ⟨_,_,hf,td.mono fun v8 H8 r8=>?_⟩
      have nx:∃ (y:Ev) (b:Bool) (l8:List Ev),v8 = .tuple #[y.val,.bool b] ∧ VMX H H8 m pf po sl7 F7 (.func (.func 112) #[] #[.pointer (some ⟨xb,0,none⟩)]) st7 { S with expect:=some l8 } ∧ S.more = (b && !outsideM y):=by
        rcases r8 with ⟨e8,e9,e10⟩ | ⟨y,l8,e8,e9,v9⟩
        · refine ⟨Ev.zero,false,l7,e9,?_,?_⟩
          · rw [e10,← hl7]; exact v7'
          · unfold VS.more; rw [hl7,e8]; rfl
        · refine ⟨y,true,l8,e9,v9,?_⟩
          unfold VS.more; rw [hl7,e8]; rfl
      obtain ⟨y,b,l8,hv8,v8',hmore⟩:=nx
      refine ⟨_,_,_,_,_,_,_,_,_,b,hv8,_,rfl,v8'.noEx fun H9 v9=>?_⟩
      have hml9:=v9.madeLen
      have hml9:(sl7 5).n = S.made.length:=hml9
      have w9:VMP p H H9 m pf po .nilFunc S.noExp:=⟨sl7,F7,st7,v9,p7⟩
      have hw2:IntKind.i64.wrap ((k:Int) + ((sl7 5).n:Int)) = ((k + S.made.length:Nat):Int):=by rw [hml9,wrapi (by omega) (by omega)]; rfl
      refine ⟨_,rfl,_,_,_,v9.c32,_,rfl,S.drift,v9.c35,outsideM y,fun _=>t69 y H9,fun e=>?_,fun e=>?_⟩
      · rw [hw2]
        refine ⟨.inl ⟨j + 1,k + S.made.length,?_,rfl,w9.gh⟩⟩
        rw [r1,hmore,if_pos e]
      · rw [hw2]
        refine ⟨⟨j + 1,k + S.made.length,_,rfl,by omega,?_,w9⟩,by show ((n:Int) - ((k + S.made.length:Nat):Int)).toNat < ((n:Int) - (k:Int)).toNat; omega⟩
        rw [r1,hmore,if_neg (by rw [e]; decide)]
  · have hge:=of_decide_eq_false hge
    exact ⟨.inr ⟨j,k,s,m,pf,po,hj,by omega,rfl,w2⟩⟩
end
end Go.Proofs.YtkofafcgcnciaaaGreatDoor
set_option maxRecDepth 100000
namespace Go.Proofs.YtkofafcgcnciaaaGreatDoor
open Go.Ax
def fixN (next:Int) (e:Ev):Ev:=if e.kind = 18 then { e with b:=next } else e
def RS.step2 (z:RS × List OutM) (e:Ev):RS × List OutM:=(z.1.book e,z.2 ++ z.1.tells e)
def RS.all (R:RS) (l:List Ev):RS × List OutM:=l.foldl RS.step2 (R,[])
theorem RS.all_snoc (R:RS) (l:List Ev) (e:Ev):R.all (l ++ [e]) = ((R.all l).1.book e,(R.all l).2 ++ (R.all l).1.tells e):=by unfold RS.all; rw [List.foldl_append]; rfl
structure RS.Le (R:RS):Prop where
  a:R.acts.length ≤ R.events.length
  t:R.timers.length ≤ R.events.length
  k:R.kids.length ≤ R.events.length
  u:R.updates.length ≤ R.events.length
theorem RS.Le.small {R:RS} (h:R.Le) (e:R.events.length ≤ 1000000):R.Small:=⟨e,h.a,h.t,h.k,h.u⟩
theorem RS.book_events (R:RS) (e:Ev):(R.book e).events = R.events ++ [e]:=by
  obtain ⟨s,hs⟩:=RS.see_eq (R.add e) e
  have h1:((R.add e).see e).events = R.events ++ [e]:=by rw [hs]; rfl
  unfold RS.book
  generalize (R.add e).see e = S at h1
  have h2:(S.sw e).events = R.events ++ [e]:=by rw [← h1]; exact RS.sw_all (Q:=fun x=>x.events = S.events) S e rfl rfl rfl rfl rfl rfl rfl rfl (fun _ _ _=>rfl) rfl rfl rfl
  rw [← h2]; unfold RS.close; split <;> rfl
theorem RS.Le.book {R:RS} (h:R.Le) (e:Ev):(R.book e).Le:=by
  have he:=RS.book_events R e
  obtain ⟨s,hs⟩:=RS.see_eq (R.add e) e
  obtain ⟨a,t,k,u⟩:=h
  have l1:(R.events ++ [e]).length = R.events.length + 1:=by simp
  have h1:((R.add e).see e).acts.length ≤ R.events.length ∧ ((R.add e).see e).timers.length ≤ R.events.length ∧ ((R.add e).see e).kids.length ≤ R.events.length ∧ ((R.add e).see e).updates.length ≤ R.events.length:=by rw [hs]; exact ⟨a,t,k,u⟩
  have h2:(((R.add e).see e).sw e).acts.length ≤ R.events.length + 1 ∧ (((R.add e).see e).sw e).timers.length ≤ R.events.length + 1 ∧ (((R.add e).see e).sw e).kids.length ≤ R.events.length + 1 ∧ (((R.add e).see e).sw e).updates.length ≤ R.events.length + 1:=by
    generalize (R.add e).see e = S at h1 ⊢
    obtain ⟨a,t,k,u⟩:=h1
    refine RS.sw_all (Q:=fun x=>x.acts.length ≤ R.events.length + 1 ∧ x.timers.length ≤ R.events.length + 1 ∧ x.kids.length ≤ R.events.length + 1 ∧ x.updates.length ≤ R.events.length + 1) S e ?_ ?_ ?_ ?_ ?_ ?_ ?_ ?_ ?_ ?_ ?_ ?_
    all_goals first
      | exact ⟨by omega,by omega,by omega,by omega⟩
      | (simp only [List.length_append,List.length_singleton]; exact ⟨by omega,by omega,by omega,by omega⟩)
      | exact ⟨Nat.le_trans (List.length_filter_le _ _) (Nat.le_succ_of_le a),Nat.le_succ_of_le t,Nat.le_succ_of_le k,Nat.le_succ_of_le u⟩
      | exact ⟨Nat.le_succ_of_le a,Nat.le_trans (List.length_filter_le _ _) (Nat.le_succ_of_le t),Nat.le_succ_of_le k,Nat.le_succ_of_le u⟩
      | (simp only [List.length_map]; exact ⟨by omega,by omega,by omega,by omega⟩)
      | (intro _ _ _; simp only [List.length_map]; exact ⟨by omega,by omega,by omega,by omega⟩)
  have h3:(R.book e).acts.length ≤ R.events.length + 1 ∧ (R.book e).timers.length ≤ R.events.length + 1 ∧ (R.book e).kids.length ≤ R.events.length + 1 ∧ (R.book e).updates.length ≤ R.events.length + 1:=by
    unfold RS.book RS.close
    generalize ((R.add e).see e).sw e = S at h2
    split
    · exact ⟨Nat.zero_le _,Nat.zero_le _,h2.2.2.1,h2.2.2.2⟩
    · exact h2
  refine ⟨?_,?_,?_,?_⟩ <;> rw [he,l1]
  · exact h3.1
  · exact h3.2.1
  · exact h3.2.2.1
  · exact h3.2.2.2
theorem RS.all_le {R:RS} (h:R.Le) (l:List Ev):(R.all l).1.Le ∧ (R.all l).1.events = R.events ++ l:=by
  have:∀ (l:List Ev) (z:RS × List OutM),z.1.Le → (l.foldl RS.step2 z).1.Le ∧ (l.foldl RS.step2 z).1.events = z.1.events ++ l:=fun l=>by
    induction l with
    | nil=>intro z hz; exact ⟨hz,by simp⟩
    | cons e l ih =>
      intro z hz
      obtain ⟨h1,h2⟩:=ih (RS.step2 z e) (hz.book e)
      refine ⟨h1,?_⟩
      rw [List.foldl_cons,h2]
      show (z.1.book e).events ++ l = _
      rw [RS.book_events,List.append_assoc]; rfl
  exact this l _ h
section
variable {G0 G H H':Heap} {b:Nat} {sl:Nat → SlH} {R:RS} {q:SlH} {sz:Nat} {cs:List Value}
def addB (G H:Heap) (q:SlH):Heap:=fun i=>if q.blk = some i then H i else G i
theorem addB_sub (hd:Hand G H q sz cs):Sub G (addB G H q) ∧ Sub (addB G H q) H:=⟨⟨fun i o h=>by
  unfold addB; split
  · rename_i e; rw [hd.free i e] at h; cases h
  · exact h⟩,⟨fun i o h=>by
  unfold addB at h; split at h
  · exact h
  · exact hd.g.sub i o h⟩⟩
theorem addB_hand (hd:Hand G H q sz cs):Hand G (addB G H q) q sz cs:=⟨(addB_sub hd).1,hd.sl.mono fun i hi=>by unfold addB; rw [if_pos hi],hd.free⟩
theorem RunX.beside (h:RunX G H b sl R) (hd:Hand H H' q sz cs):RunX (addB G H' q) H' b sl R ∧ Hand G (addB G H' q) q sz cs:=by
  have hg:Hand G H' q sz cs:=⟨h.gh.trans hd.g,hd.sl,fun i hi=>none_below h.gh (hd.free i hi)⟩
  refine ⟨(h.grow hd.g).know (addB_sub hg).2 fun i hi=>?_,addB_hand hg⟩
  unfold addB at hi
  split at hi
  · rename_i e
    have hn:=h.new_free (c:=0) (hd.free i e)
    refine .inr ⟨hn.2.1,fun c hc hb=>?_⟩
    have:=(h.ok c hc).blk_some hb
    rw [hd.free i e] at this; cases this
  · exact .inl hi
theorem RunX.pushH (h : RunX G H b sl R) (hd : Hand G0 G q sz cs) {e : TypeId} {bytes : Nat} {new : List Value} {k : Nat} (hk : new.length = k * sz) (h1 : allOne new = true) (hb : (q.n + k) * bytes ≤ 140737488355328) (hl : q.n + k ≤ 9223372036854775807)
    {K:Option Addr → Nat → Nat → Heap → Prop} (r:∀ A' c' G' H',RunX G' H' b sl R → Hand G0 G' ⟨A',q.n + k,c'⟩ sz (cs ++ new) → K A' (q.n + k) c' H'):appC e sz bytes H q.A q.n q.c new k K:=by
  have ok:=hd.sl
  have okH:=ok.sub h.gh
  have hlen:=ok.len
  refine ⟨⟨cs,okH.src,ok.len,hk,h1,hb,hl,fun hcap=>?_,fun hcap i cap rest hbn hle hr=>?_⟩⟩
  · rcases ok.at_ with ⟨a1,a2,a3⟩ | ⟨i,off,cur,T,a1,a2,a3,a4⟩
    · left
      have k0:k = 0:=by omega
      subst k0
      have hn:new = []:=List.length_eq_zero_iff.1 (by omega)
      subst hn
      refine ⟨rfl,r _ _ _ _ h ⟨hd.g,⟨by rw [List.append_nil]; simpa using ok.len,hcap,.inl ⟨a1,by simp only; omega,a3⟩⟩,fun i hi=>?_⟩⟩
      unfold SlH.blk at hi; simp only at hi; rw [a1] at hi; cases hi
    · right
      have hsz:(off + q.n * sz) + new.length ≤ cur.size:=by
        have:(q.n + k) * sz ≤ q.c * sz:=Nat.mul_le_mul_right _ hcap
        rw [Nat.add_mul] at this
        omega
      have hblk:q.blk = some i:=by unfold SlH.blk; rw [a1]; rfl
      refine ⟨⟨i,off,none⟩,cur,T,a1,rfl,h.gh.sub _ _ a2,hsz,r _ _ _ _ (h.turn a2 _) ⟨base_upd hd.g (hd.free i hblk) _,⟨?_,hcap,.inr ⟨i,off,_,T,a1,Heap.upd_same,?_,fun j v hv=>?_⟩⟩,fun b' hb'=>?_⟩⟩
      · rw [List.length_append,hlen,hk,Nat.add_mul]
      · rw [splice_size hsz]; exact a3
      · by_cases hj:j < q.n * sz
        · rw [List.getElem?_append_left (by omega)] at hv
          rw [splice_get hsz,if_pos (by omega)]; exact a4 j v hv
        · have hlt:=get_lt hv
          rw [List.length_append] at hlt
          rw [List.getElem?_append_right (by omega),hlen] at hv
          rw [splice_get hsz,if_neg (by omega),if_pos (by omega)]
          rw [← hv]; congr 1; omega
      · unfold SlH.blk at hb'; simp only at hb'; rw [a1] at hb'; cases hb'
        exact hd.free i hblk
  · have hGn:=none_below h.gh hbn
    refine r _ _ _ _ (h.ext hbn _) ⟨hd.g.trans (Sub.upd_new hGn),⟨by rw [List.length_append,ok.len,hk,Nat.add_mul],hle,.inr ⟨i,0,_,e,rfl,Heap.upd_same,?_,fun j v hv=>?_⟩⟩,fun b' hb'=>?_⟩
    · simp only [List.size_toArray,List.length_append,ok.len,hk,hr]
      rw [← Nat.add_mul,← Nat.add_mul]
      have:q.n + k + (cap - (q.n + k)) = cap:=by omega
      rw [this]; simp
    · have hj:=get_lt hv
      simp only [List.getElem?_toArray,Nat.zero_add]
      rw [List.getElem?_append_left hj]; exact hv
    · unfold SlH.blk at hb'; simp only at hb'; cases hb'
      exact none_below hd.g hGn
theorem cutN_cells {H5 H:Heap} {i:Nat} {c:Array Value} {T:TypeId} {f:Nat × Nat} (h:H i = some (.cells c T f)):cutN H5 H i = some (.cells c T f):=by unfold cutN; rw [h]; rfl
theorem SlOk.cells {H:Heap} {h:SlH} {sz:Nat} {cs:List Value} (k:SlOk H h sz cs) {i:Nat} (hi:h.blk = some i):∃ c T,H i = some (.cells c T (0,0)):=by
  rcases k.at_ with a | ⟨b',off,cur,T,a1,a2,_⟩
  · unfold SlH.blk at hi; rw [a.1] at hi; cases hi
  · unfold SlH.blk at hi; rw [a1] at hi; cases hi; exact ⟨cur,T,a2⟩
theorem RunX.cut (h:RunX G H b sl R) (hd:Hand G0 G q sz cs) {H5:Heap} (hs:Sub G0 H5):∃ G',RunX G' (cutN H5 H) b sl R ∧ Hand G0 G' q sz cs:=by
  have w:=h.weaken (addB_sub hd).2
  refine ⟨addB G0 G q,w.frame ⟨fun i o ho=>?_⟩ fun i hn hsome hi=>⟨hn,?_⟩,addB_hand hd⟩
  · unfold addB at ho
    split at ho
    · rename_i e
      obtain ⟨c,T,hc⟩:=SlOk.cells hd.sl e
      rw [hc] at ho; cases ho
      exact cutN_cells (h.gh.sub _ _ hc)
    · exact (cutN_keep hs (hd.g.trans h.gh)).sub i o ho
  · rcases hi with rfl | ⟨c,hc,hb⟩
    · rw [h.hb]; exact cutN_cells h.hb
    · obtain ⟨cc,T,hcc⟩:=SlOk.cells (h.ok c hc) hb
      rw [hcc]; exact cutN_cells hcc
end
theorem outs_one:∀ l:List OutM,allOne (l.flatMap OutM.cells) = true
  | []=>rfl
  | x :: l=>by rw [List.flatMap_cons]; exact outs_one l
theorem RS.tells_len (R:RS) (e:Ev):(R.tells e).length ≤ 1:=by
  unfold RS.tells
  have c:∀ {P:Prop} [Decidable P] {x y:List OutM},x.length ≤ 1 → y.length ≤ 1 → (if P then x else y).length ≤ 1:=fun h1 h2=>by split; exact h1; exact h2
  exact c (Nat.le_refl _) (c (Nat.le_refl _) (c (Nat.le_refl _) (c (Nat.le_refl _) (Nat.zero_le _))))
theorem RS.all_tells (R:RS) (l:List Ev):(R.all l).2.length ≤ l.length:=by
  have:∀ (l:List Ev) (z:RS × List OutM),(l.foldl RS.step2 z).2.length ≤ z.2.length + l.length:=fun l=>by
    induction l with
    | nil=>intro z; exact Nat.le_refl _
    | cons e l ih =>
      intro z
      have h1:=ih (RS.step2 z e)
      have h2:=z.1.tells_len e
      have h3:(RS.step2 z e).2.length = z.2.length + (z.1.tells e).length:=List.length_append
      rw [List.foldl_cons,List.length_cons]; omega
  have:=this l (R,[])
  unfold RS.all
  simpa using this
end Go.Proofs.YtkofafcgcnciaaaGreatDoor
set_option maxRecDepth 100000
namespace Go.Proofs.YtkofafcgcnciaaaGreatDoor
open Go.Ax
section
variable {p:Prg} {G H:Heap} {m:Nat} {pf po:SlH} {sl:Nat → SlH} {F:Heap} {ex:Value} {st:List SlH} {s:VS}
structure TaskH (p:Prg) (G:Heap) (s:VS) (now draw:Int) (v:Value) (H':Heap):Prop where
  out:∃ A n c G',v = .tuple #[.slice A n c,.int .i64 (s.Task p now draw).1.2] ∧ Hand G G' ⟨A,n,c⟩ 9 ((s.Task p now draw).1.1.flatMap Ev.cells) ∧ Sub G' H'
theorem h56 (okp : Okp p) (h : VMX G H m pf po sl F ex st s) (pr : HasP (dif F G) pf.A pf.n po.A po.n p) (iv : Inv p s) (hx : s.expect = none) (now draw : Int) :
    Tr Tryz.prog 56 #[.pointer (some ⟨m,0,none⟩),.int .i64 now,.int .i64 draw] H fun v H'=>TaskH p G s now draw v H':=by
  have gh:=h.gf.trans h.fh
  have bad:∀ (k:Int),s.taskE now = k → k ≠ 0 → TaskH p G s now draw (.tuple #[.slice none 0 0,.int .i64 k]) H:=fun k hk h0=>by
    have e:s.Task p now draw = (([],k),s):=by rw [Task_eq,hk,if_pos h0]
    refine ⟨none,0,0,G,?_,?_,gh⟩
    · rw [e]
    · rw [e]; exact Hand.nil (Sub.refl _) 9
  apply v56; unfold F56
  refine ⟨fun e=>⟨_,fun _=>rfl,s.over,fun _=>h.c27,fun eo=>?_,fun eo=>?_⟩,fun e=>⟨_,rfl,s.over,h.c27,fun eo=>?_,fun eo=>⟨_,rfl,s.count,h.c30,fun e0=>?_,fun e0=>⟨_,rfl,s.count,h.c30,fun e4=>?_,fun e4=>⟨_,rfl,?_⟩⟩⟩⟩⟩
  · have e:(decide (now < 0) || decide (now > 1099511627776)) = true:=by simpa using e
    have eo:s.over = true:=by simpa using eo
    exact bad 46 (by unfold VS.taskE; rw [if_pos e,if_pos eo]) (by decide)
  · have e:(decide (now < 0) || decide (now > 1099511627776)) = true:=by simpa using e
    have eo:s.over = false:=by simpa using eo
    exact bad 42 (by unfold VS.taskE; rw [if_pos e,if_neg (by rw [eo]; simp)]) (by decide)
  all_goals have e:(decide (now < 0) || decide (now > 1099511627776)) = false:=by simpa using e
  · exact bad 46 (by unfold VS.taskE; rw [if_neg (by rw [e]; simp),if_pos eo]) (by decide)
  · exact bad 54 (by unfold VS.taskE; rw [if_neg (by rw [e]; simp),if_neg (by rw [eo]; simp),if_pos e0]) (by decide)
  · exact bad 49 (by unfold VS.taskE; rw [if_neg (by rw [e]; simp),if_neg (by rw [eo]; simp),if_neg (by rw [e0]; simp),if_pos e4]) (by decide)
  · have ht:s.taskE now = 0:=by unfold VS.taskE; rw [if_neg (by rw [e]; simp),if_neg (by rw [eo]; simp),if_neg (by rw [e0]; simp),if_neg (by rw [e4]; simp)]
    have eT:s.Task p now draw = ((((s.ready_ draw).task p now).made,0),(s.ready_ draw).task p now):=by rw [Task_eq,if_neg (by rw [ht]; simp)]
    have hex:=h.exNil hx
    subst hex
    refine h.wr (k:=33) (by decide) { s with draws:=IntKind.u64.wrap draw } rfl rfl rfl rfl rfl rfl rfl rfl h.vars h.attrs fun H1 v1=>⟨_,rfl,?_⟩
    refine v1.wr (k:=34) (by decide) (s.ready_ draw) rfl rfl rfl rfl rfl rfl rfl hx.symm h.vars h.attrs fun H2 v2=>?_
    have tk:=ready_tasks ht draw
    have iv2:=ready_inv iv draw
    have h0:=begin_inv iv2 tk now
    have iv3:=((task_steps okp iv2 tk now).inv h0.1 h0.2).1
    have hmd:=iv3.made
    have hc3:=iv3.c0
    refine (t68 okp v2 pr iv2 tk now).mono fun v H3 ⟨hv,w⟩=>?_
    obtain ⟨sl3,F3,st3,v3,pr3⟩:=w.out
    have hml:=v3.madeLen
    have hmc:contC sl3 st3 ((s.ready_ draw).task p now) 5 = ((s.ready_ draw).task p now).made.flatMap Ev.cells:=rfl
    have ok5:=v3.ok 5 (by decide)
    rw [hmc] at ok5
    have hsz:(((s.ready_ draw).task p now).made.flatMap Ev.cells).length = (sl3 5).n * 9:=ok5.len
    refine ⟨hv,_,rfl,_,_,_,v3.c32,⟨⟨_,ok5.src,hsz,?_⟩⟩⟩
    refine v3.side (q:=⟨none,0,0⟩) (Side.nil v3.gf 9) (k:=(sl3 5).n) hsz (evs_one _) (by show (0 + (sl3 5).n) * 72 ≤ _; omega) (by show 0 + (sl3 5).n ≤ _; omega) fun A' c' G4 F4 H4 v4 sd=>?_
    refine ⟨A',0 + (sl3 5).n,c',G4,?_,?_,v4.gf.trans v4.fh⟩
    · rw [eT]
    · rw [eT]; exact ⟨sd.g,sd.sl,fun i hi=>none_below v3.gf (sd.free i hi)⟩
structure Rep (p:Prg) (h:List Ev) (s:VS):Prop where
  st:stand h = h.length
  at_:∃ j k,repN p h j = .inr (k,s) ∧ h.length ≤ k
  ok:∀ j k t,repN p h j = .inr (k,t) → k < h.length → RepIn p h k t
  inv:Inv p s
  x:s.expect = none
theorem Rep.run {p:Prg} {h:List Ev} {s:VS} (r:Rep p h s) {H0:Heap} {v:Value} {H':Heap} (q:RepR p h H0 v H'):∃ m pf po,v = .tuple #[.pointer (some ⟨m,0,none⟩),.int .i64 0,.int .i64 0] ∧ VMP p H0 H' m pf po .nilFunc s:=by
  obtain ⟨j0,k0,e0,hk0⟩:=r.at_
  rcases q.out with ⟨j,a,hj,-,-⟩ | ⟨j,k,s',m,pf,po,hj,hk,hv,w⟩
  · exfalso
    have e1:=repN_inl hj j0
    have e2:=repN_inr e0 hk0 j
    rw [Nat.add_comm,e1] at e2
    cases e2
  · have e1:=repN_inr hj hk j0
    have e2:=repN_inr e0 hk0 j
    rw [Nat.add_comm,e1] at e2
    cases e2
    exact ⟨m,pf,po,hv,w⟩
end
def lastT (l:List Ev):Int:=((l.getLast?).map Ev.time).getD 0
def RS.Task (R:RS) (p:Prg) (s:VS) (now draw next:Int):(List OutM × Int) × RS :=
  if (decide (now < 0) || decide (now > 1099511627776) || decide ((R.events.length:Int) > 0) && decide (now < lastT R.events)) = true then (([],42),R) else
  if (!(R.status == 1)) = true then (([],46),R) else
  if decide ((R.events.length:Int) > 254) = true then ((R.tells (fullM ((R.events.length:Int) + 1) now),49),R.book (fullM ((R.events.length:Int) + 1) now)) else
  if (s.Task p now draw).1.2 ≠ 0 then (([],(s.Task p now draw).1.2),R) else
  (((R.all ((s.Task p now draw).1.1.map (fixN next))).2,0),(R.all ((s.Task p now draw).1.1.map (fixN next))).1)
structure TkR (G:Heap) (b:Nat) (z:(List OutM × Int) × RS) (v:Value) (H':Heap):Prop where
  out:∃ A n c,v = .tuple #[.slice A n c,.int .i64 z.1.2] ∧ RunE G H' b z.2 ∧ n = z.1.1.length ∧ Src H' A (z.1.1.flatMap OutM.cells)
structure RTk (G5:Heap) (b:Nat) (R:RS) (rows:List Ev) (next:Int) (pre:List Nat) (A:Option Addr) (n c:Nat) (H1:Heap):Prop where
  out:∃ G2 sl,RunX G2 H1 b sl (R.all (pre.map fun i=>fixN next ((rows[i]?).getD Ev.zero))).1 ∧ Hand G5 G2 ⟨A,n,c⟩ 7 ((R.all (pre.map fun i=>fixN next ((rows[i]?).getD Ev.zero))).2.flatMap OutM.cells)
theorem range_map {l:List Ev} {f:Ev → Ev}:(ofY l []).map (fun i=>f ((l[i]?).getD Ev.zero)) = l.map f:=by
  have h0:ofY l [] = List.range l.length:=by
    unfold ofY ofU
    have h1:(List.finRange l.length).take l.length = List.finRange l.length:=by rw [List.take_of_length_le]; simp
    rw [h1,List.filter_eq_self.2 (fun i _=>by unfold hasM; simp)]
    apply List.ext_getElem
    · simp
    · intro i h1 h2; simp
  rw [h0]
  apply List.ext_getElem?
  intro j
  rw [List.getElem?_map,List.getElem?_map]
  by_cases hj:j < l.length
  · obtain ⟨x,hx⟩:=get_some (l:=l) (i:=j) hj
    rw [List.getElem?_range hj,hx,Option.map_some,Option.map_some,hx]; rfl
  · rw [List.getElem?_eq_none (by simp; omega),List.getElem?_eq_none (by omega)]; rfl
end Go.Proofs.YtkofafcgcnciaaaGreatDoor
set_option maxRecDepth 100000
namespace Go.Proofs.YtkofafcgcnciaaaGreatDoor
open Go.Ax
theorem fixN_kind (next:Int) (x:Ev):(fixN next x).kind = x.kind ∧ (fixN next x).a = x.a:=by unfold fixN; split <;> exact ⟨rfl,rfl⟩
theorem lastT_snoc {l:List Ev} {x:Ev} (h:l[l.length - 1]? = some x):lastT l = x.time:=by
  unfold lastT
  rw [List.getLast?_eq_getElem?,h]; rfl
theorem tk_round {G5 H5 H1 : Heap} {b : Nat} {R : RS} {rows : List Ev} {next : Int} (le : R.Le) (hl : R.events.length ≤ 1000) (hrl : rows.length ≤ 256) (hs : Sub G5 H5) {pre : List Nat} {i : Nat} (hp : pre.length < rows.length) {x : Ev} (hx : rows[i]? = some x) (h10 : x.kind = 10 → 0 ≤ x.a ∧ x.a < 4) {A : Option Addr} {n c : Nat} (r : RTk G5 b R rows next pre A n c H1) :
    Tr Tryz.prog 43 #[.pointer (some ⟨b,0,none⟩),(fixN next x).val] H1 fun v H6=>∃ A' n' c',v = .slice A' n' c' ∧ appS 160 7 56 H6 A n c A' n' fun A'' n'' c'' H7=>RTk G5 b R rows next (pre ++ [i]) A'' n'' c'' (cutN H5 H7) ∧ Sub G5 H7:=by
  obtain ⟨G2,sl2,x2,hd⟩:=r.out
  have hmap:(pre ++ [i]).map (fun i=>fixN next ((rows[i]?).getD Ev.zero)) = pre.map (fun i=>fixN next ((rows[i]?).getD Ev.zero)) ++ [fixN next x]:=by rw [List.map_append,List.map_singleton,hx]; rfl
  have hal:=RS.all_le le (pre.map fun i=>fixN next ((rows[i]?).getD Ev.zero))
  have htl:=R.all_tells (pre.map fun i=>fixN next ((rows[i]?).getD Ev.zero))
  have hsn:=R.all_snoc (pre.map fun i=>fixN next ((rows[i]?).getD Ev.zero)) (fixN next x)
  have hpl:(pre.map fun i=>fixN next ((rows[i]?).getD Ev.zero)).length = pre.length:=List.length_map _
  rw [← hmap] at hsn
  have hn:=hd.flen (cells:=OutM.cells) (fun _=>rfl) (by decide)
  have hn:n = (R.all (pre.map fun i=>fixN next ((rows[i]?).getD Ev.zero))).2.length:=hn
  have gd:RTk G5 b R rows next (pre ++ [i]) = fun A n c H1=>RTk G5 b R rows next (pre ++ [i]) A n c H1:=rfl
  have fin:∀ {G3 H7:Heap} {sl3:Nat → SlH} {A':Option Addr} {n' c':Nat},RunX G3 H7 b sl3 ((R.all (pre.map fun i=>fixN next ((rows[i]?).getD Ev.zero))).1.book (fixN next x)) → Hand G5 G3 ⟨A',n',c'⟩ 7 (((R.all (pre.map fun i=>fixN next ((rows[i]?).getD Ev.zero))).2 ++ (R.all (pre.map fun i=>fixN next ((rows[i]?).getD Ev.zero))).1.tells (fixN next x)).flatMap OutM.cells) → RTk G5 b R rows next (pre ++ [i]) A' n' c' (cutN H5 H7) ∧ Sub G5 H7:=fun {G3 H7 sl3 A' n' c'} x3 hd3=>by
    obtain ⟨G4,x4,hd4⟩:=x3.cut hd3 hs
    exact ⟨⟨G4,sl3,by rw [hsn]; exact x4,by rw [hsn]; exact hd4⟩,hd3.g.trans x3.gh⟩
  have hk10:(fixN next x).kind = 10 → 0 ≤ (fixN next x).a ∧ (fixN next x).a < 4:=by rw [(fixN_kind next x).1,(fixN_kind next x).2]; exact h10
  generalize fixN next x = y at hk10 fin ⊢
  generalize (R.all (pre.map fun i=>fixN next ((rows[i]?).getD Ev.zero))).2 = outs at hd htl hn fin
  generalize (R.all (pre.map fun i=>fixN next ((rows[i]?).getD Ev.zero))).1 = R1 at x2 hal fin
  have hlen:R1.events.length ≤ 1000000:=by rw [hal.2,List.length_append,hpl]; omega
  refine (t43 x2 (hal.1.small hlen) y hk10).mono fun v H6 ⟨A',n',c',hv,⟨sl3,x3⟩,hn',hsrc⟩=>⟨A',n',c',hv,⟨_,hsrc,?_,?_⟩⟩
  · rw [flat_size (cells:=OutM.cells) (sz:=7) (fun _=>rfl),hn']
  · have ht1:=R1.tells_len y
    refine x3.pushH hd (k:=n') ?_ (outs_one _) (by show (n + n') * 56 ≤ _; omega) (by show n + n' ≤ _; omega) fun A'' c'' G3 H7 x7 hd7=>?_
    · rw [flat_size (cells:=OutM.cells) (sz:=7) (fun _=>rfl),hn']
    · refine fin x7 ?_
      rw [List.flatMap_append]; exact hd7
theorem t18 {G H : Heap} {b : Nat} {sl : Nat → SlH} {R : RS} (h : RunX G H b sl R) (le : R.Le) (hl : R.events.length ≤ 1000) {fA oA : Option Addr} {fn fc on oc : Nat} {p : Prg} (ok : Okp p) (hp : HasP H fA fn oA on p) {s : VS} (now draw next : Int)
    (rep:R.status = 1 → R.events.length ≤ 254 → Rep p R.events s) (h10:∀ x ∈ (s.Task p now draw).1.1,x.kind = 10 → 0 ≤ x.a ∧ x.a < 4) (hrl:(s.Task p now draw).1.1.length ≤ 256) :
    Tr Tryz.prog 18 #[.pointer (some ⟨b,0,none⟩),.agg #[.slice fA fn fc,.slice oA on oc],.int .i64 now,.int .i64 draw,.int .i64 next] H fun v H'=>TkR G b (R.Task p s now draw next) v H':=by
  have l0:=h.len0
  have he:HasEvs H (sl 0).A (sl 0).n R.events:=hand_evs (h.ok 0 (by decide))
  have bad:∀ {k:Int} {H':Heap},R.Task p s now draw next = (([],k),R) → Sub H H' → TkR G b (R.Task p s now draw next) (.tuple #[.slice none 0 0,.int .i64 k]) H':=fun e s'=>by rw [e]; exact ⟨none,0,0,rfl,(h.grow s').e,rfl,.inl rfl⟩
  apply v18; unfold F18
  -- the time
  have hlast:∃ a3:Addr,(decide (((sl 0).n:Int) > 0) = true → (sl 0).A = some a3 ∧ 0 ≤ IntKind.i64.wrap (((sl 0).n:Int) - 1) ∧ IntKind.i64.wrap (((sl 0).n:Int) - 1) < ((sl 0).n:Int)) ∧ (decide (((sl 0).n:Int) > 0) = true → At H ((a3.add ((IntKind.i64.wrap (((sl 0).n:Int) - 1)).toNat * 9)).add 1) [.int .i64 (lastT R.events)]):=by
    rcases Nat.eq_zero_or_pos R.events.length with q | q
    · exact ⟨⟨0,0,none⟩,fun e=>absurd (of_decide_eq_true e) (by omega),fun e=>absurd (of_decide_eq_true e) (by omega)⟩
    · obtain ⟨x,hx⟩:=get_some (l:=R.events) (i:=R.events.length - 1) (by omega)
      obtain ⟨a,ha,hat⟩:=he.at_ _ _ hx
      have hw:IntKind.i64.wrap (((sl 0).n:Int) - 1) = (R.events.length:Int) - 1:=by rw [wrapi (by omega) (by omega),l0]
      rw [hw,lastT_snoc hx,show ((R.events.length:Int) - 1).toNat = R.events.length - 1 by omega]
      exact ⟨a,fun _=>⟨ha,by omega,by omega⟩,fun _=>at_one 1 hat rfl⟩
  obtain ⟨a3,ha3,hx3⟩:=hlast
  have c15:=h.cell (k:=15) rfl
  have hb2:∀ {q r:Bool},(q && r) = true → r = true:=fun {q r} e=>by cases q <;> simp_all
  refine ⟨⟨b,0,none⟩,fun _=>rfl,_,_,_,fun _=>c15,⟨b,0,none⟩,fun _=>rfl,_,_,_,fun _=>c15,⟨b,0,none⟩,fun _=>rfl,_,_,_,fun _=>c15,a3,fun e=>ha3 (hb2 e),lastT R.events,fun e=>hx3 (hb2 e),fun q=>?_,fun q=>?_⟩
  · refine bad ?_ (Sub.refl _)
    unfold RS.Task
    rw [if_pos (by rw [← l0]; simpa using q)]
  have q1:¬ (decide (now < 0) || decide (now > 1099511627776) || decide ((R.events.length:Int) > 0) && decide (now < lastT R.events)) = true:=by
    rw [← l0]
    have q:(decide (now < 0) || decide (now > 1099511627776) || decide (((sl 0).n:Int) > 0) && decide (now < lastT R.events)) = false:=by simpa using q
    rw [q]; decide
  have e1 : R.Task p s now draw next = if (!(R.status == 1)) = true then (([], 46), R) else if decide ((R.events.length : Int) > 254) = true then ((R.tells (fullM ((R.events.length : Int) + 1) now), 49), R.book (fullM ((R.events.length : Int) + 1) now)) else
      if (s.Task p now draw).1.2 ≠ 0 then (([],(s.Task p now draw).1.2),R) else (((R.all ((s.Task p now draw).1.1.map (fixN next))).2,0),(R.all ((s.Task p now draw).1.1.map (fixN next))).1):=by
    conv=>lhs; unfold RS.Task
    rw [if_neg q1]
  refine ⟨_,rfl,_,_,_,_,_,_,_,_,_,_,_,_,_,_,_,_,_,_,_,_,_,_,_,_,_,_,_,_,_,_,h.at,_,t26 sl R H,fun q=>?_,fun q=>⟨_,rfl,_,_,_,c15,fun q2=>?_,fun q2=>⟨_,rfl,_,_,_,c15,?_⟩⟩⟩
  · exact bad (by rw [e1,if_pos q]) (Sub.refl _)
  · rw [if_neg (by rw [q]; decide)] at e1
    have q2':decide ((R.events.length:Int) > 254) = true:=by rw [← l0]; exact q2
    rw [if_pos q2'] at e1
    have hw:IntKind.i64.wrap (((sl 0).n:Int) + 1) = (R.events.length:Int) + 1:=by rw [wrapi (by omega) (by omega),l0]
    refine ⟨_,rfl,_,_,_,c15,?_⟩
    rw [hw]
    refine ((t54 ((R.events.length:Int) + 1) now H).mono fun v H2 ⟨hv,eH⟩=>⟨_,_,_,_,_,_,_,_,_,hv,?_⟩)
    rw [eH]
    exact (t43 h (le.small (by omega)) (fullM ((R.events.length:Int) + 1) now) (fun e=>by cases e)).mono fun v H3 ⟨A,n,c,hv,h3,hn,hs⟩=>⟨A,n,c,hv,by rw [e1]; exact ⟨A,n,c,rfl,h3,hn,hs⟩⟩
  · have hst:R.status = 1:=by simpa using q
    rw [if_neg (by rw [q]; decide)] at e1
    have q2':decide ((R.events.length:Int) > 254) = false:=by rw [← l0]; exact q2
    have h254:R.events.length ≤ 254:=by have:=of_decide_eq_false q2'; omega
    rw [if_neg (by rw [q2']; decide)] at e1
    have rp:=rep hst h254
    have hcap:(sl 0).n ≤ (sl 0).c:=(h.ok 0 (by decide)).cap
    refine (t23 (fc:=fc) (oc:=oc) ok hp he hcap (by omega) rp.st rp.ok).mono fun v H3 rr=>?_
    obtain ⟨m,pf,po,hv,w⟩:=rp.run rr
    refine ⟨_,_,_,hv,fun e=>absurd e (by simp),fun _=>?_⟩
    obtain ⟨slm,Fm,stm,vm,pm⟩:=w.out
    refine (h56 ok vm pm rp.inv rp.x now draw).mono fun v H4 ⟨A,n,c,G4,hv4,hd4,s4⟩=>⟨A,n,c,_,hv4,fun e=>?_,fun e=>?_⟩
    · have e:(s.Task p now draw).1.2 ≠ 0:=by simpa using e
      rw [if_pos e] at e1
      exact bad e1 (hd4.g.trans s4)
    have e0:(s.Task p now draw).1.2 = 0:=by simpa using e
    rw [if_neg (by rw [e0]; simp)] at e1
    rw [e1]
    generalize (s.Task p now draw).1.1 = rows at hd4 h10 hrl ⊢
    have hn:n = rows.length:=hd4.len
    obtain ⟨x4,hg4⟩:=h.beside (hd4.sub s4)
    generalize addB G H4 ⟨A,n,c⟩ = G1 at x4 hg4
    apply v42; unfold F42
    intro B1 hB1 Ha ea B2 hB2 H5 e5
    have x5:=x4.ext hB1 (.cells #[.slice A n c] 27 (0,0))
    rw [← ea] at x5
    have x6:=x5.ext hB2 (.cells #[.slice none 0 0] 101 (0,0))
    rw [← e5] at x6
    have hn1:G1 B1 = none:=none_below x4.gh hB1
    have hn2:(G1.upd B1 (.cells #[.slice A n c] 27 (0,0))) B2 = none:=none_below x5.gh hB2
    have gg:Sub G1 ((G1.upd B1 (.cells #[.slice A n c] 27 (0,0))).upd B2 (.cells #[.slice none 0 0] 101 (0,0))):=(Sub.upd_new hn1).trans (Sub.upd_new hn2)
    have g1:((G1.upd B1 (.cells #[.slice A n c] 27 (0,0))).upd B2 (.cells #[.slice none 0 0] 101 (0,0))) B1 = some (.cells #[.slice A rows.length c] 27 (0,0)):=by rw [← hn]; exact (Sub.upd_new hn2).sub _ _ Heap.upd_same
    have g2:((G1.upd B1 (.cells #[.slice A n c] 27 (0,0))).upd B2 (.cells #[.slice none 0 0] 101 (0,0))) B2 = some (.cells #[.slice none 0 0] 101 (0,0)):=Heap.upd_same
    generalize ((G1.upd B1 (.cells #[.slice A n c] 27 (0,0))).upd B2 (.cells #[.slice none 0 0] 101 (0,0))) = G5 at x6 gg g1 g2
    have hE:HasEvs G5 A rows.length rows:=by
      have:=(hand_evs (hg4.sub gg).sl)
      have this:HasEvs G5 A n rows:=this
      rw [hn] at this; exact this
    have hK:HasI G5 none 0 []:=⟨rfl,fun i x hx=>by simp at hx⟩
    have hlY:(ofY rows []).length = rows.length:=by
      have:=congrArg List.length (range_map (l:=rows) (f:=id))
      simpa using this
    refine ⟨_,rfl,_,_,⟨rfl,by kernel_rfl⟩,G5,rows.length,evE rows,ofY rows [],x6.gh,it54 g1 g2 hE hK (by omega) (by decide),RTk G5 b R rows next,⟨G5,sl,x6,Hand.nil (Sub.refl _) 7⟩,fun pre i hi hpl A1 n1 c1 H1 r hsub hnc x27 x28 x29 x30 x31 x32 x33 x34 x35 x36 eE=>⟨⟨hnc,hsub⟩,?_⟩,fun A1 n1 c1 H2 r _=>?_⟩
    · obtain ⟨x,hx⟩:=get_some (l:=rows) (i:=i) hi
      rw [hlY] at hpl
      have core:=tk_round (H5:=H5) le hl hrl x6.gh hpl hx (h10 x (List.mem_of_getElem? hx)) r
      have eE:(((i:Int),((rows[i]?).getD Ev.zero).id,((rows[i]?).getD Ev.zero).time,((rows[i]?).getD Ev.zero).kind,((rows[i]?).getD Ev.zero).a,((rows[i]?).getD Ev.zero).b,((rows[i]?).getD Ev.zero).c,((rows[i]?).getD Ev.zero).d,((rows[i]?).getD Ev.zero).e,((rows[i]?).getD Ev.zero).f,()):Int × Int × Int × Int × Int × Int × Int × Int × Int × Int × PUnit) = (x27,x28,x29,x30,x31,x32,x33,x34,x35,x36,()):=eE
      rw [hx] at eE
      simp only [Option.getD_some,Prod.mk.injEq] at eE
      obtain ⟨rfl,rfl,rfl,rfl,rfl,rfl,rfl,rfl,rfl,rfl,-⟩:=eE
      refine ⟨fun q=>?_,fun q=>?_⟩
      · have hf:fixN next x = { x with b:=next }:=by unfold fixN; rw [if_pos (by simpa using q)]
        rw [hf] at core
        exact ⟨core,core⟩
      · have hf:fixN next x = x:=by unfold fixN; rw [if_neg (by simpa using q)]
        rw [hf] at core
        exact ⟨core,core⟩
    · obtain ⟨G2,sl2,x2,hd⟩:=r.out
      rw [range_map] at x2 hd
      have hn2:=hd.flen (cells:=OutM.cells) (fun _=>rfl) (by decide)
      exact ⟨A1,n1,c1,rfl,(x2.weaken (hg4.g.trans (gg.trans hd.g))).e,hn2,(hd.sl.sub x2.gh).src⟩
end Go.Proofs.YtkofafcgcnciaaaGreatDoor
set_option maxRecDepth 100000
set_option linter.unusedVariables false
namespace Go.Proofs.YtkofafcgcnciaaaGreatDoor
open Go.Ax
noncomputable def c40:Cx:={ P:=Tryz.prog,res:=[],pub:=[],loops:=[],quiet:=[86],asm:=true }
def F40 (i:Int) (H:Heap) (K:Value → Heap → Prop):Prop :=
 ∃ (s:ByteArray),
 (Tr Tryz.prog (86:Nat) #[.int .i64 i] H fun v H'=>v = .string s ∧
 Ax.Sub H H') ∧
 K (.string s) H

theorem v40 {i:Int} {H:Heap} {K:Value → Heap → Prop} (h:F40 i H K):Tr Tryz.prog 40 #[.int .i64 i] H K :=
  tr_of_eq (C:=c40) Tryz.func40 (show vcFn c40 Tryz.f40 [.int .i64 i] H K = F40 i H K by kernel_rfl) h
noncomputable def c86:Cx:={ P:=Tryz.prog,res:=[],pub:=[],loops:=[],quiet:=[129],asm:=true }
def F86 (i:Int) (H:Heap) (K:Value → Heap → Prop):Prop :=
 ∃ (s:ByteArray),
 (Tr Tryz.prog (129:Nat) #[.int .i64 i,.int .i64 10] H fun v H'=>v = .string s ∧
 Ax.Sub H H') ∧
 K (.string s) H

theorem v86 {i:Int} {H:Heap} {K:Value → Heap → Prop} (h:F86 i H K):Tr Tryz.prog 86 #[.int .i64 i] H K :=
  tr_of_eq (C:=c86) Tryz.func86 (show vcFn c86 Tryz.f86 [.int .i64 i] H K = F86 i H K by kernel_rfl) h
noncomputable def c129:Cx:={ P:=Tryz.prog,res:=[],pub:=[5],loops:=[],quiet:=[155,156],asm:=true }
def F129 (i:Int) (base:Int) (H:Heap) (K:Value → Heap → Prop):Prop:=((base == 10) = true → ((decide ((0:Int) ≤ i) && decide (i < 100)) = true →
 ∃ (s:ByteArray),
 (Tr Tryz.prog (155:Nat) #[.int .i64 i] H fun v H'=>v = .string s ∧
 Ax.Sub H H') ∧
 K (.string s) H) ∧
 ((decide ((0:Int) ≤ i) && decide (i < 100)) = false → ∀ (b:Nat),H b = none → ∀ (H1:Heap),H1 = H.upd b (Obj.cells #[.int .u8 0,.int .u8 0,.int .u8 0,.int .u8 0,.int .u8 0,.int .u8 0,.int .u8 0,.int .u8 0,.int .u8 0,.int .u8 0,.int .u8 0,.int .u8 0,.int .u8 0,.int .u8 0,.int .u8 0,.int .u8 0,.int .u8 0,.int .u8 0,.int .u8 0,.int .u8 0,.int .u8 0,.int .u8 0,.int .u8 0,.int .u8 0] (236:Nat)) → (decide (i < 0) = true →
 ∃ (x:Int),
 (Tr Tryz.prog (156:Nat) #[.int .u64 (IntKind.u64.wrap ((0:Int) - IntKind.u64.wrap i))] H1 fun v1 H'1=>v1 = .int .i64 x ∧
 Ax.Sub H1 H'1) ∧
 False) ∧
 (decide (i < 0) = false →
 ∃ (x1:Int),
 (Tr Tryz.prog (156:Nat) #[.int .u64 (IntKind.u64.wrap i)] H1 fun v2 H'2=>v2 = .int .i64 x1 ∧
 Ax.Sub H1 H'2) ∧
 False))) ∧
 ((base == 10) = false → Tr Tryz.prog (158:Nat) #[.slice none (0:Nat) (0:Nat),.int .u64 (IntKind.u64.wrap i),.int .i64 base,.bool (decide (i < 0)),.bool false] H fun v3 H'3 =>
 ∃ (A:Option Addr) (n c:Nat) (s1:ByteArray),
 v3 = .tuple #[.slice A n c,.string s1] ∧
 K (.string s1) H'3)

theorem v129 {i:Int} {base:Int} {H:Heap} {K:Value → Heap → Prop} (h:F129 i base H K):Tr Tryz.prog 129 #[.int .i64 i,.int .i64 base] H K :=
  tr_of_eq (C:=c129) Tryz.func129 (show vcFn c129 Tryz.f129 [.int .i64 i,.int .i64 base] H K = F129 i base H K by kernel_rfl) h
noncomputable def c155:Cx:={ P:=Tryz.prog,res:=[],pub:=[],loops:=[],quiet:=[],asm:=true }
def F155 (i:Int) (H:Heap) (K:Value → Heap → Prop):Prop:=(decide (i < 10) = true → ((0:Int) ≤ IntKind.i64.wrap (i + 1) ∧
 IntKind.i64.wrap (i + 1) ≤ (↑({ data:=#[(48:UInt8),(49:UInt8),(50:UInt8),(51:UInt8),(52:UInt8),(53:UInt8),(54:UInt8),(55:UInt8),(56:UInt8),(57:UInt8),(97:UInt8),(98:UInt8),(99:UInt8),(100:UInt8),(101:UInt8),(102:UInt8),(103:UInt8),(104:UInt8),(105:UInt8),(106:UInt8),(107:UInt8),(108:UInt8),(109:UInt8),(110:UInt8),(111:UInt8),(112:UInt8),(113:UInt8),(114:UInt8),(115:UInt8),(116:UInt8),(117:UInt8),(118:UInt8),(119:UInt8),(120:UInt8),(121:UInt8),(122:UInt8)] }:ByteArray).size:Int) ∧
 (0:Int) ≤ i ∧
 i ≤ IntKind.i64.wrap (i + 1)) ∧
 K (.string (({ data:=#[(48:UInt8),(49:UInt8),(50:UInt8),(51:UInt8),(52:UInt8),(53:UInt8),(54:UInt8),(55:UInt8),(56:UInt8),(57:UInt8),(97:UInt8),(98:UInt8),(99:UInt8),(100:UInt8),(101:UInt8),(102:UInt8),(103:UInt8),(104:UInt8),(105:UInt8),(106:UInt8),(107:UInt8),(108:UInt8),(109:UInt8),(110:UInt8),(111:UInt8),(112:UInt8),(113:UInt8),(114:UInt8),(115:UInt8),(116:UInt8),(117:UInt8),(118:UInt8),(119:UInt8),(120:UInt8),(121:UInt8),(122:UInt8)] }:ByteArray).extract i.toNat (IntKind.i64.wrap (i + 1)).toNat)) H) ∧
 (decide (i < 10) = false → ((0:Int) ≤ IntKind.i64.wrap (IntKind.i64.wrap (i * (2:Int)) + 2) ∧
 IntKind.i64.wrap (IntKind.i64.wrap (i * (2:Int)) + 2) ≤ (↑({ data:=(([(48:UInt8),(48:UInt8),(48:UInt8),(49:UInt8),(48:UInt8),(50:UInt8),(48:UInt8),(51:UInt8),(48:UInt8),(52:UInt8),(48:UInt8),(53:UInt8),(48:UInt8),(54:UInt8),(48:UInt8),(55:UInt8),(48:UInt8),(56:UInt8),(48:UInt8),(57:UInt8),(49:UInt8),(48:UInt8),(49:UInt8),(49:UInt8),(49:UInt8),(50:UInt8),(49:UInt8),(51:UInt8),(49:UInt8),(52:UInt8),(49:UInt8),(53:UInt8),(49:UInt8),(54:UInt8),(49:UInt8),(55:UInt8),(49:UInt8),(56:UInt8),(49:UInt8),(57:UInt8),(50:UInt8),(48:UInt8),(50:UInt8),(49:UInt8),(50:UInt8),(50:UInt8),(50:UInt8),(51:UInt8),(50:UInt8),(52:UInt8)].append [(50:UInt8),(53:UInt8),(50:UInt8),(54:UInt8),(50:UInt8),(55:UInt8),(50:UInt8),(56:UInt8),(50:UInt8),(57:UInt8),(51:UInt8),(48:UInt8),(51:UInt8),(49:UInt8),(51:UInt8),(50:UInt8),(51:UInt8),(51:UInt8),(51:UInt8),(52:UInt8),(51:UInt8),(53:UInt8),(51:UInt8),(54:UInt8),(51:UInt8),(55:UInt8),(51:UInt8),(56:UInt8),(51:UInt8),(57:UInt8),(52:UInt8),(48:UInt8),(52:UInt8),(49:UInt8),(52:UInt8),(50:UInt8),(52:UInt8),(51:UInt8),(52:UInt8),(52:UInt8),(52:UInt8),(53:UInt8),(52:UInt8),(54:UInt8),(52:UInt8),(55:UInt8),(52:UInt8),(56:UInt8),(52:UInt8),(57:UInt8)]).append ([(53:UInt8),(48:UInt8),(53:UInt8),(49:UInt8),(53:UInt8),(50:UInt8),(53:UInt8),(51:UInt8),(53:UInt8),(52:UInt8),(53:UInt8),(53:UInt8),(53:UInt8),(54:UInt8),(53:UInt8),(55:UInt8),(53:UInt8),(56:UInt8),(53:UInt8),(57:UInt8),(54:UInt8),(48:UInt8),(54:UInt8),(49:UInt8),(54:UInt8),(50:UInt8),(54:UInt8),(51:UInt8),(54:UInt8),(52:UInt8),(54:UInt8),(53:UInt8),(54:UInt8),(54:UInt8),(54:UInt8),(55:UInt8),(54:UInt8),(56:UInt8),(54:UInt8),(57:UInt8),(55:UInt8),(48:UInt8),(55:UInt8),(49:UInt8),(55:UInt8),(50:UInt8),(55:UInt8),(51:UInt8),(55:UInt8),(52:UInt8)].append [(55:UInt8),(53:UInt8),(55:UInt8),(54:UInt8),(55:UInt8),(55:UInt8),(55:UInt8),(56:UInt8),(55:UInt8),(57:UInt8),(56:UInt8),(48:UInt8),(56:UInt8),(49:UInt8),(56:UInt8),(50:UInt8),(56:UInt8),(51:UInt8),(56:UInt8),(52:UInt8),(56:UInt8),(53:UInt8),(56:UInt8),(54:UInt8),(56:UInt8),(55:UInt8),(56:UInt8),(56:UInt8),(56:UInt8),(57:UInt8),(57:UInt8),(48:UInt8),(57:UInt8),(49:UInt8),(57:UInt8),(50:UInt8),(57:UInt8),(51:UInt8),(57:UInt8),(52:UInt8),(57:UInt8),(53:UInt8),(57:UInt8),(54:UInt8),(57:UInt8),(55:UInt8),(57:UInt8),(56:UInt8),(57:UInt8),(57:UInt8)])).toArray }:ByteArray).size:Int) ∧
 (0:Int) ≤ IntKind.i64.wrap (i * (2:Int)) ∧
 IntKind.i64.wrap (i * (2:Int)) ≤ IntKind.i64.wrap (IntKind.i64.wrap (i * (2:Int)) + 2)) ∧
 K (.string (({ data:=(([(48:UInt8),(48:UInt8),(48:UInt8),(49:UInt8),(48:UInt8),(50:UInt8),(48:UInt8),(51:UInt8),(48:UInt8),(52:UInt8),(48:UInt8),(53:UInt8),(48:UInt8),(54:UInt8),(48:UInt8),(55:UInt8),(48:UInt8),(56:UInt8),(48:UInt8),(57:UInt8),(49:UInt8),(48:UInt8),(49:UInt8),(49:UInt8),(49:UInt8),(50:UInt8),(49:UInt8),(51:UInt8),(49:UInt8),(52:UInt8),(49:UInt8),(53:UInt8),(49:UInt8),(54:UInt8),(49:UInt8),(55:UInt8),(49:UInt8),(56:UInt8),(49:UInt8),(57:UInt8),(50:UInt8),(48:UInt8),(50:UInt8),(49:UInt8),(50:UInt8),(50:UInt8),(50:UInt8),(51:UInt8),(50:UInt8),(52:UInt8)].append [(50:UInt8),(53:UInt8),(50:UInt8),(54:UInt8),(50:UInt8),(55:UInt8),(50:UInt8),(56:UInt8),(50:UInt8),(57:UInt8),(51:UInt8),(48:UInt8),(51:UInt8),(49:UInt8),(51:UInt8),(50:UInt8),(51:UInt8),(51:UInt8),(51:UInt8),(52:UInt8),(51:UInt8),(53:UInt8),(51:UInt8),(54:UInt8),(51:UInt8),(55:UInt8),(51:UInt8),(56:UInt8),(51:UInt8),(57:UInt8),(52:UInt8),(48:UInt8),(52:UInt8),(49:UInt8),(52:UInt8),(50:UInt8),(52:UInt8),(51:UInt8),(52:UInt8),(52:UInt8),(52:UInt8),(53:UInt8),(52:UInt8),(54:UInt8),(52:UInt8),(55:UInt8),(52:UInt8),(56:UInt8),(52:UInt8),(57:UInt8)]).append ([(53:UInt8),(48:UInt8),(53:UInt8),(49:UInt8),(53:UInt8),(50:UInt8),(53:UInt8),(51:UInt8),(53:UInt8),(52:UInt8),(53:UInt8),(53:UInt8),(53:UInt8),(54:UInt8),(53:UInt8),(55:UInt8),(53:UInt8),(56:UInt8),(53:UInt8),(57:UInt8),(54:UInt8),(48:UInt8),(54:UInt8),(49:UInt8),(54:UInt8),(50:UInt8),(54:UInt8),(51:UInt8),(54:UInt8),(52:UInt8),(54:UInt8),(53:UInt8),(54:UInt8),(54:UInt8),(54:UInt8),(55:UInt8),(54:UInt8),(56:UInt8),(54:UInt8),(57:UInt8),(55:UInt8),(48:UInt8),(55:UInt8),(49:UInt8),(55:UInt8),(50:UInt8),(55:UInt8),(51:UInt8),(55:UInt8),(52:UInt8)].append [(55:UInt8),(53:UInt8),(55:UInt8),(54:UInt8),(55:UInt8),(55:UInt8),(55:UInt8),(56:UInt8),(55:UInt8),(57:UInt8),(56:UInt8),(48:UInt8),(56:UInt8),(49:UInt8),(56:UInt8),(50:UInt8),(56:UInt8),(51:UInt8),(56:UInt8),(52:UInt8),(56:UInt8),(53:UInt8),(56:UInt8),(54:UInt8),(56:UInt8),(55:UInt8),(56:UInt8),(56:UInt8),(56:UInt8),(57:UInt8),(57:UInt8),(48:UInt8),(57:UInt8),(49:UInt8),(57:UInt8),(50:UInt8),(57:UInt8),(51:UInt8),(57:UInt8),(52:UInt8),(57:UInt8),(53:UInt8),(57:UInt8),(54:UInt8),(57:UInt8),(55:UInt8),(57:UInt8),(56:UInt8),(57:UInt8),(57:UInt8)])).toArray }:ByteArray).extract (IntKind.i64.wrap (i * (2:Int))).toNat (IntKind.i64.wrap (IntKind.i64.wrap (i * (2:Int)) + 2)).toNat)) H)

theorem v155 {i:Int} {H:Heap} {K:Value → Heap → Prop} (h:F155 i H K):Tr Tryz.prog 155 #[.int .i64 i] H K :=
  tr_of_eq (C:=c155) Tryz.func155 (show vcFn c155 Tryz.f155 [.int .i64 i] H K = F155 i H K by kernel_rfl) h
end Go.Proofs.YtkofafcgcnciaaaGreatDoor
set_option maxRecDepth 100000
namespace Go.Proofs.YtkofafcgcnciaaaGreatDoor
open Go.Ax
def s12:ByteArray:=⟨#[49,50]⟩
def s7:ByteArray:=⟨#[55]⟩
theorem small12 (H:Heap):Tr Tryz.prog 155 #[.int .i64 12] H fun v H'=>v = .string s12 ∧ Sub H H':=by
  apply v155; unfold F155
  exact ⟨fun e=>absurd e (by decide),fun _=>⟨by decide +kernel,congrArg Value.string (by kernel_rfl),Sub.refl _⟩⟩
theorem small7 (H:Heap):Tr Tryz.prog 155 #[.int .i64 7] H fun v H'=>v = .string s7 ∧ Sub H H':=by
  apply v155; unfold F155
  exact ⟨fun _=>⟨by decide +kernel,congrArg Value.string (by kernel_rfl),Sub.refl _⟩,fun e=>absurd e (by decide)⟩
theorem itoa_small {i:Int} (h0:0 ≤ i) (h1:i < 100) {s:ByteArray} (h:∀ H,Tr Tryz.prog 155 #[.int .i64 i] H fun v H'=>v = .string s ∧ Sub H H') (H:Heap):Tr Tryz.prog 40 #[.int .i64 i] H fun v H'=>v = .string s ∧ Sub H H':=by
  apply v40; unfold F40
  refine ⟨s,?_,rfl,Sub.refl _⟩
  apply v86; unfold F86
  refine ⟨s,?_,rfl,Sub.refl _⟩
  apply v129; unfold F129
  exact ⟨fun _=>⟨fun _=>⟨s,h H,rfl,Sub.refl _⟩,fun e=>absurd e (by rw [decide_eq_true h0,decide_eq_true h1]; decide)⟩,fun e=>absurd e (by decide)⟩
theorem child_small (H:Heap):Tr Tryz.prog 10 #[.int .i64 12,.int .i64 7] H fun v H'=>v = .string ⟨#[49,50,46,55]⟩ ∧ Sub H H':=by
  apply v10; unfold F10
  exact ⟨s12,itoa_small (by decide) (by decide) small12 H,by decide,s7,itoa_small (by decide) (by decide) small7 H,by decide,congrArg Value.string (by kernel_rfl),Sub.refl _⟩
def smallR:Prg:=⟨[⟨0,0,[(0,4),(21,0),(23,0),(1,0),(36,0)]⟩],[]⟩
theorem t39 (H:Heap):Tr Tryz.prog 39 #[] H (fun v H'=>∃ A n c A1 n1 c1,v = .agg #[.slice A n c,.slice A1 n1 c1] ∧ HasP H' A n A1 n1 smallR ∧ Sub H H'):=by
  apply v39; unfold F39
  intro b hb H1 e1 b1 hb1 H2 e2
  subst e1 e2
  refine ⟨_,_,_,_,_,_,rfl,⟨?_,⟨rfl,by decide,fun i o h=>by simp [smallR] at h⟩⟩,(Sub.upd_new hb).trans (Sub.upd_new hb1)⟩
  refine hasFns_of (l:=[(⟨0,0,[(0,4),(21,0),(23,0),(1,0),(36,0)]⟩,some ⟨b,0,none⟩,5,5)]) (.inr ⟨_,rfl,(at_new (k:=0) fun j v hv=>?_)⟩) rfl (by decide) fun z hz=>?_
  · simpa [fnC] using hv
  · simp at hz; subst hz
    have:HasOps (H.upd b (.cells #[.int .i64 0,.int .i64 4,.int .i64 21,.int .i64 0,.int .i64 23,.int .i64 0,.int .i64 1,.int .i64 0,.int .i64 36,.int .i64 0] 179)) (some ⟨b,0,none⟩) 5 [(0,4),(21,0),(23,0),(1,0),(36,0)] :=
      hasOps_of (.inr ⟨_,rfl,(at_new (k:=0) fun j v hv=>by simpa [opC] using hv)⟩) rfl (by decide)
    exact this.sub (Sub.upd_new hb1)
theorem smallR_ok:Okp smallR:=(check_ok (p:=smallR) (by kernel_rfl)).2
def ev1:Ev:=⟨1,5,1,0,0,0,0,0,0⟩
def tm1:VS:=(VS.init.apply ev1).2
def rows1:List Ev:=[⟨2,5,2,1,0,0,0,0,0⟩,⟨3,5,4,9,0,0,0,0,0⟩]
def ev4:Ev:=⟨4,9,25,3,0,0,0,0,0⟩
def hist4:List Ev:=[ev1] ++ rows1 ++ [ev4]
def tm2:VS:=((tm1.retask smallR hist4 1 5)).noExp
def tm3:VS:=(tm2.apply ev4).2
def rows2:List Ev:=[⟨5,9,2,4,0,0,0,0,0⟩,⟨6,9,15,0,0,0,0,0,0⟩]
theorem tm1_task:(tm1.Task smallR 5 0).1 = (rows1,0):=by kernel_rfl
theorem tm3_task:(tm3.Task smallR 9 0).1 = (rows2,0):=by kernel_rfl
theorem tm1_inv:Inv smallR tm1:=apply_inv smallR_ok (init_inv smallR) rfl (e:=ev1)
theorem tm2_ok:Inv smallR tm2:=by
  have tk:Tasks (tm1.exp (cmds (hist4.drop 2))):=⟨by kernel_rfl,by decide +kernel,fun q=>(by cases q),fun l e=>(by cases e; decide +kernel)⟩
  have iv:Inv smallR (tm1.exp (cmds (hist4.drop 2))):=exp_inv tm1_inv (by decide +kernel)
  have r:=(retask_ok smallR_ok iv tk 5).1
  exact ⟨r.scp,r.scn,r.sc32,r.t16,fun t ht=>(r.thr t ht).mono (Nat.le_refl _) (Nat.le_refl _),r.futs,r.fuel,r.many,r.c0,fun l hl=>(by cases hl),r.made,r.sig,r.sg8,r.upd,r.updI,r.v16,r.a4⟩
theorem tm3_inv:Inv smallR tm3:=apply_inv smallR_ok tm2_ok rfl (e:=ev4)
theorem rep1_ok:Rep smallR [ev1] tm1:=by
  have r0:repN smallR [ev1] 0 = .inr (0,VS.init):=rfl
  have r1:repN smallR [ev1] 1 = .inr (1,tm1):=by kernel_rfl
  refine ⟨by kernel_rfl,⟨1,1,r1,by decide⟩,fun j k t hj hk=>?_,tm1_inv,by kernel_rfl⟩
  cases j with
  | zero =>
    rw [r0] at hj; cases hj
    exact ⟨init_inv smallR,rfl,fun e he h2=>by cases he; cases h2⟩
  | succ j =>
    have:=repN_inr r1 (by decide) j
    rw [Nat.add_comm 1 j,hj] at this
    cases this
    exact absurd hk (by decide)
theorem rep4_ok:Rep smallR hist4 tm3:=by
  have r0:repN smallR hist4 0 = .inr (0,VS.init):=rfl
  have r1:repN smallR hist4 1 = .inr (1,tm1):=by kernel_rfl
  have r2:repN smallR hist4 2 = .inr (3,tm2):=by kernel_rfl
  have r3:repN smallR hist4 3 = .inr (4,tm3):=by kernel_rfl
  refine ⟨by kernel_rfl,⟨3,4,r3,by decide⟩,fun j k t hj hk=>?_,tm3_inv,by kernel_rfl⟩
  match j with
  | 0=>rw [r0] at hj; cases hj; exact ⟨init_inv smallR,rfl,fun e he h2=>by cases he; cases h2⟩
  | 1 =>
    rw [r1] at hj; cases hj
    exact ⟨tm1_inv,by kernel_rfl,fun e he h2=>⟨⟨by kernel_rfl,by decide +kernel,fun q=>(by cases q),fun l e=>(by cases e; decide +kernel)⟩,exp_inv tm1_inv (by decide +kernel)⟩⟩
  | 2=>rw [r2] at hj; cases hj; exact ⟨tm2_ok,by kernel_rfl,fun e he h2=>by cases he; cases h2⟩
  | j + 3 =>
    have:=repN_inr r3 (by decide) j
    rw [Nat.add_comm 3 j,hj] at this
    cases this
    exact absurd hk (by decide)
end Go.Proofs.YtkofafcgcnciaaaGreatDoor
set_option maxRecDepth 100000
namespace Go.Proofs.YtkofafcgcnciaaaGreatDoor
open Go.Ax
def nameA:ByteArray:=⟨#[97]⟩
def run0:RS:=RS.new 3 nameA ⟨0,5,0,0,0,0,0,0,0⟩
def run1:RS:=(run0.Task smallR tm1 5 0 9).2
def firedE:Ev:=⟨0,0,25,3,0,0,0,0,0⟩
def run2:RS:=(run1.Add firedE 9).2
def run3:RS:=(run2.Task smallR tm3 9 0 9).2
theorem run0_ev:run0.events = [ev1]:=by kernel_rfl
theorem run0_le:run0.Le:=⟨by decide +kernel,by decide +kernel,by decide +kernel,by decide +kernel⟩
theorem run1_eq:(run0.Task smallR tm1 5 0 9).1.2 = 0:=by kernel_rfl
theorem run1_le:run1.Le:=⟨by decide +kernel,by decide +kernel,by decide +kernel,by decide +kernel⟩
theorem run1_ev:run1.events.length = 3:=by kernel_rfl
theorem run1_tm:run1.timers = [⟨3,9⟩]:=by kernel_rfl
theorem run1_seen:run1.seen = 3:=by kernel_rfl
theorem add1_eq:run1.Add firedE 8 = ((0,[],54),run1):=by kernel_rfl
theorem add2_eq:(run1.Add firedE 9).1.1 = 4 ∧ (run1.Add firedE 9).1.2.2 = 0:=⟨by kernel_rfl,by kernel_rfl⟩
theorem run2_ev:run2.events = hist4:=by kernel_rfl
theorem run2_le:run2.Le:=⟨by decide +kernel,by decide +kernel,by decide +kernel,by decide +kernel⟩
theorem run3_eq:(run2.Task smallR tm3 9 0 9).1.2 = 0:=by kernel_rfl
theorem run3_ev:run3.events.length = 6:=by kernel_rfl
theorem run3_st:run3.status = 2:=by kernel_rfl
theorem t9 (H:Heap):Tr Tryz.prog 9 #[] H (fun v H'=>v = .bool true ∧ Sub H H'):=by
  apply v9; unfold F9
  refine (t21 3 nameA ⟨0,5,0,0,0,0,0,0,0⟩ H).mono fun v H1 ⟨sl0,hv,l0⟩=>?_
  refine ⟨_,_,_,_,_,_,_,_,_,_,_,_,_,_,_,_,_,_,_,_,_,_,_,_,_,_,_,_,_,_,hv,fun b hb H2 e2=>?_⟩
  refine l0.var hb (cur:=rCells slNil RS.zero) rfl e2 fun H3 x3=>?_
  have x3:RunX H H3 b sl0 run0:=x3
  refine (t39 H3).mono fun v H4 ⟨A,n,c,A1,n1,c1,hv,hp,s4⟩=>⟨A,n,c,A1,n1,c1,hv,?_⟩
  have x4:=x3.grow s4
  have h10:∀ {l:List Ev},(∀ x ∈ l,x.kind ≠ 10) → ∀ x ∈ l,x.kind = 10 → 0 ≤ x.a ∧ x.a < 4:=fun h x hx e=>absurd e (h x hx)
  have e1:(tm1.Task smallR 5 0).1.1 = rows1:=by rw [tm1_task]
  have e3:(tm3.Task smallR 9 0).1.1 = rows2:=by rw [tm3_task]
  refine (t18 x4 run0_le (by rw [run0_ev]; decide) smallR_ok hp (s:=tm1) 5 0 9 (fun _ _=>by rw [run0_ev]; exact rep1_ok) (h10 (by rw [e1]; decide +kernel)) (by rw [e1]; decide)).mono fun v H5 ⟨A2,n2,c2,hv,⟨sl5,x5⟩,_,_⟩=>⟨A2,n2,c2,_,hv,?_⟩
  have x5:RunX H H5 b sl5 run1:=x5
  have hl2:(sl5 2).n = 1:=by rw [x5.len2,run1_tm]; rfl
  obtain ⟨a,ha,hat⟩:=src_elem (cells:=TmM.cells) (sz:=2) (fun _=>rfl) (by decide) (l:=run1.timers) (x5.ok 2 (by decide)).src 0 ⟨3,9⟩ (by rw [run1_tm]; rfl)
  refine ⟨_,_,_,x5.cell (k:=17) rfl,_,_,_,fun _=>x5.cell (k:=17) rfl,a,fun _=>⟨ha,by omega,by omega⟩,9,fun _=>at_one 1 hat rfl,run1.seen,fun _=>x5.cell (k:=9) rfl,fun e=>?_,fun _=>?_⟩
  · rw [hl2,run1_seen] at e; exact absurd e (by decide)
  refine (t16 x5 (run1_le.small (by rw [run1_ev]; decide)) firedE 8).mono fun v H6 r6=>?_
  rw [add1_eq] at r6
  obtain ⟨A6,n6,c6,hv6,⟨sl6,x6⟩,_,_⟩:=r6.out
  refine ⟨_,_,_,_,_,hv6,(t16 x6 (run1_le.small (by rw [run1_ev]; decide)) firedE 9).mono fun v H7 ⟨A7,n7,c7,hv7,⟨sl7,x7⟩,_,_⟩=>⟨_,_,_,_,_,hv7,?_⟩⟩
  have x7:RunX H H7 b sl7 run2:=x7
  refine (t39 H7).mono fun v H8 ⟨A8,n8,c8,A9,n9,c9,hv,hp8,s8⟩=>⟨A8,n8,c8,A9,n9,c9,hv,?_⟩
  refine (t18 (x7.grow s8) run2_le (by rw [run2_ev]; decide) smallR_ok hp8 (s:=tm3) 9 0 9 (fun _ _=>by rw [run2_ev]; exact rep4_ok) (h10 (by rw [e3]; decide +kernel)) (by rw [e3]; decide)).mono fun v H9 ⟨Ab,nb,cb,hv,⟨sl9,x9⟩,_,_⟩=>⟨Ab,nb,cb,_,hv,?_⟩
  have x9:RunX H H9 b sl9 run3:=x9
  have hl9:(sl9 0).n = 6:=by rw [x9.len0,run3_ev]
  refine ⟨_,child_small H9,_,_,_,_,_,_,_,_,_,_,_,_,_,_,_,_,_,_,_,_,_,_,_,_,_,_,_,_,_,_,x9.at,_,t26 sl9 run3 H9,_,_,_,fun _=>x9.cell (k:=15) rfl,?_,x9.gh⟩
  rw [run1_eq,add2_eq.1,add2_eq.2,run3_eq,hl9,run3_st]
  exact congrArg Value.bool (by kernel_rfl)
end Go.Proofs.YtkofafcgcnciaaaGreatDoor
set_option maxRecDepth 100000
set_option linter.unusedVariables false
namespace Go.Proofs.YtkofafcgcnciaaaGreatDoor
open Go.Ax
noncomputable def c12:Cx:={ P:=Tryz.prog,res:=[],pub:=[10],loops:=[⟨7,[],[],[]⟩],quiet:=[36],asm:=true,rfs:=[⟨7,[([.int .i64],false),([.int .i64,.int .i64,.int .i64,.int .i64,.int .i64,.int .i64,.int .i64,.int .i64,.int .i64],true)]⟩] }
def F12 (number:Int) (id:ByteArray) (hA:Option Addr) (hn hc:Nat) (H:Heap) (K:Value → Heap → Prop):Prop :=
 ∃ (x x1:Int),
 (Tr Tryz.prog (36:Nat) #[.slice hA hn hc] H fun v H'=>v = .tuple #[.int .i64 x,.int .i64 x1] ∧
 Ax.Sub H H') ∧
 ((x != 0 || (↑hn:Int) == 0) = true → K (.tuple #[.agg #[.int .i64 0,.int .i64 0,.int .i64 0,.string ({ data:=#[] }:ByteArray),.int .i64 0,.int .i64 0,.int .i64 0,.int .i64 0,.int .i64 0,.int .i64 0,.int .i64 0,.int .i64 0,.int .i64 0,.int .i64 0,.int .i64 0,.slice none (0:Nat) (0:Nat),.slice none (0:Nat) (0:Nat),.slice none (0:Nat) (0:Nat),.slice none (0:Nat) (0:Nat),.slice none (0:Nat) (0:Nat)],.int .i64 52]) H) ∧
 ((x != 0 || (↑hn:Int) == 0) = false →
 ∃ (a:Addr),
 (hA = some a ∧
 (0:Int) ≤ (0:Int) ∧
 (0:Int) < (↑hn:Int)) ∧
 ∃ (x2 x3 x4 x5 x6 x7 x8 x9 x10:Int),
 At H (a.add (Int.toNat (0:Int) * nat_lit 9)) [.int .i64 x2,.int .i64 x3,.int .i64 x4,.int .i64 x5,.int .i64 x6,.int .i64 x7,.int .i64 x8,.int .i64 x9,.int .i64 x10] ∧
 Tr Tryz.prog (21:Nat) #[.int .i64 number,.string id,.agg #[.int .i64 x2,.int .i64 x3,.int .i64 x4,.int .i64 x5,.int .i64 x6,.int .i64 x7,.int .i64 x8,.int .i64 x9,.int .i64 x10]] H fun v1 H'1 =>
 ∃ (x11 x12 x13:Int) (s:ByteArray) (x14 x15 x16 x17 x18 x19 x20 x21 x22 x23 x24:Int) (A:Option Addr) (n c:Nat) (A1:Option Addr) (n1 c1:Nat) (A2:Option Addr) (n2 c2:Nat) (A3:Option Addr) (n3 c3:Nat) (A4:Option Addr) (n4 c4:Nat),
 v1 = .agg #[.int .i64 x11,.int .i64 x12,.int .i64 x13,.string s,.int .i64 x14,.int .i64 x15,.int .i64 x16,.int .i64 x17,.int .i64 x18,.int .i64 x19,.int .i64 x20,.int .i64 x21,.int .i64 x22,.int .i64 x23,.int .i64 x24,.slice A n c,.slice A1 n1 c1,.slice A2 n2 c2,.slice A3 n3 c3,.slice A4 n4 c4] ∧
 ∀ (b:Nat),H'1 b = none → ∀ (H1:Heap),H1 = H'1.upd b (Obj.cells #[.int .i64 0,.int .i64 0,.int .i64 0,.string ({ data:=#[] }:ByteArray),.int .i64 0,.int .i64 0,.int .i64 0,.int .i64 0,.int .i64 0,.int .i64 0,.int .i64 0,.int .i64 0,.int .i64 0,.int .i64 0,.int .i64 0,.slice none (0:Nat) (0:Nat),.slice none (0:Nat) (0:Nat),.slice none (0:Nat) (0:Nat),.slice none (0:Nat) (0:Nat),.slice none (0:Nat) (0:Nat)] (34:Nat)) → StL H1 (⟨b,0,none⟩:Addr) [.int .i64 x11,.int .i64 x12,.int .i64 x13,.string s,.int .i64 x14,.int .i64 x15,.int .i64 x16,.int .i64 x17,.int .i64 x18,.int .i64 x19,.int .i64 x20,.int .i64 x21,.int .i64 x22,.int .i64 x23,.int .i64 x24,.slice A n c,.slice A1 n1 c1,.slice A2 n2 c2,.slice A3 n3 c3,.slice A4 n4 c4] fun H11=>((0:Int) ≤ (1:Int) ∧
 (1:Int) ≤ (↑hn:Int)) ∧
 Tr Tryz.prog (42:Nat) #[.slice (if hc = Int.toNat (1:Int) then hA else Option.map (fun (x:Addr)=>x.add (Int.toNat (1:Int) * nat_lit 9)) hA) (hn - Int.toNat (1:Int)) (hc - Int.toNat (1:Int)),.slice none (0:Nat) (0:Nat)] H11 fun v2 H'2 =>
 ∃ (v3:Value),
 v2 = v3 ∧
 ∃ (g:Nat) (caps:List Value),
 (v3 = .func (Fn.func g) #[] { toList:=caps } ∧
 canCall Tryz.prog g = true) ∧
 ∃ (HI:Heap) (m:Nat) (E:Nat → Int × Int × Int × Int × Int × Int × Int × Int × Int × Int × PUnit) (ys:List Nat),
 Ax.Sub HI H'2 ∧
 It Tryz.prog g caps HI m (fun (i:Nat)=>[.int .i64 (E i).fst,.agg #[.int .i64 (E i).snd.fst,.int .i64 (E i).snd.snd.fst,.int .i64 (E i).snd.snd.snd.fst,.int .i64 (E i).snd.snd.snd.snd.fst,.int .i64 (E i).snd.snd.snd.snd.snd.fst,.int .i64 (E i).snd.snd.snd.snd.snd.snd.fst,.int .i64 (E i).snd.snd.snd.snd.snd.snd.snd.fst,.int .i64 (E i).snd.snd.snd.snd.snd.snd.snd.snd.fst,.int .i64 (E i).snd.snd.snd.snd.snd.snd.snd.snd.snd.fst]]) ys ∧
 ∃ (Rel:List Nat → Heap → Prop),
 Rel [] H'2 ∧
 (∀ (pre:List Nat) (i:Nat),i < m → pre.length < ys.length → ∀ (H1:Heap),Rel pre H1 → Ax.Sub HI H1 → NCs H'2 H1 → ∀ (x25 x26 x27 x28 x29 x30 x31 x32 x33 x34:Int),E i = (x25,x26,x27,x28,x29,x30,x31,x32,x33,x34,()) → (NCs H'2 H1 ∧
 Ax.Sub HI H1) ∧
 Tr Tryz.prog (43:Nat) #[.pointer (some (⟨b,0,none⟩:Addr)),.agg #[.int .i64 x26,.int .i64 x27,.int .i64 x28,.int .i64 x29,.int .i64 x30,.int .i64 x31,.int .i64 x32,.int .i64 x33,.int .i64 x34]] H1 fun v4 H'3 =>
 ∃ (A5:Option Addr) (n5 c6:Nat),
 v4 = .slice A5 n5 c6 ∧
 Rel (pre ++ [i]) (cutN H'2 H'3) ∧
 Ax.Sub HI H'3) ∧
 ∀ (H2:Heap),Rel ys H2 → NCs H'2 H2 →
 ∃ (x35 x36 x37:Int) (s1:ByteArray) (x38 x39 x40 x41 x42 x43 x44 x45 x46 x47 x48:Int) (A6:Option Addr) (n6 c7:Nat) (A7:Option Addr) (n7 c8:Nat) (A8:Option Addr) (n8 c9:Nat) (A9:Option Addr) (n9 c10:Nat) (A10:Option Addr) (n10 c11:Nat),
 At H2 (⟨b,0,none⟩:Addr) [.int .i64 x35,.int .i64 x36,.int .i64 x37,.string s1,.int .i64 x38,.int .i64 x39,.int .i64 x40,.int .i64 x41,.int .i64 x42,.int .i64 x43,.int .i64 x44,.int .i64 x45,.int .i64 x46,.int .i64 x47,.int .i64 x48,.slice A6 n6 c7,.slice A7 n7 c8,.slice A8 n8 c9,.slice A9 n9 c10,.slice A10 n10 c11] ∧
 K (.tuple #[.agg #[.int .i64 x35,.int .i64 x36,.int .i64 x37,.string s1,.int .i64 x38,.int .i64 x39,.int .i64 x40,.int .i64 x41,.int .i64 x42,.int .i64 x43,.int .i64 x44,.int .i64 x45,.int .i64 x46,.int .i64 x47,.int .i64 x48,.slice A6 n6 c7,.slice A7 n7 c8,.slice A8 n8 c9,.slice A9 n9 c10,.slice A10 n10 c11],.int .i64 0]) H2)

theorem v12 {number:Int} {id:ByteArray} {hA:Option Addr} {hn hc:Nat} {H:Heap} {K:Value → Heap → Prop} (h:F12 number id hA hn hc H K):Tr Tryz.prog 12 #[.int .i64 number,.string id,.slice hA hn hc] H K :=
  tr_of_eq (C:=c12) Tryz.func12 (show vcFn c12 Tryz.f12 [.int .i64 number,.string id,.slice hA hn hc] H K = F12 number id hA hn hc H K by kernel_rfl) h
noncomputable def c13:Cx:={ P:=Tryz.prog,res:=[],pub:=[],loops:=[],quiet:=[44],asm:=true }
def F13 (hA:Option Addr) (hn hc:Nat) (H:Heap) (K:Value → Heap → Prop):Prop :=
 ∃ (x x1:Int),
 (Tr Tryz.prog (44:Nat) #[.slice hA hn hc] H fun v H'=>v = .tuple #[.int .i64 x,.int .i64 x1] ∧
 Ax.Sub H H') ∧
 ((x != 0 || (↑hn:Int) == 0) = true → K (.int .i64 52) H) ∧
 ((x != 0 || (↑hn:Int) == 0) = false → K (.int .i64 0) H)

theorem v13 {hA:Option Addr} {hn hc:Nat} {H:Heap} {K:Value → Heap → Prop} (h:F13 hA hn hc H K):Tr Tryz.prog 13 #[.slice hA hn hc] H K :=
  tr_of_eq (C:=c13) Tryz.func13 (show vcFn c13 Tryz.f13 [.slice hA hn hc] H K = F13 hA hn hc H K by kernel_rfl) h
noncomputable def c15:Cx:={ P:=Tryz.prog,res:=[],pub:=[8,89,115,141,154,180],loops:=[⟨7,[(11,.int .i64)],[12,13,14,15,16,47,48,49,50,51,52,53,54,55,56,57,58,59,60,61,62,63,64,65,66,67,68,69,70,71,72,73,74,75,76,77,78,79,80,81,82,83,84,85,86,87,88,89,90,91,92,93,94,95,96,97,98,99,100,101,102,103,104,105,106,107,108,109,110,111,112,113,114,115,116,117,118,119,120,121,122,123,124,125,126,127,128,129,130,131,132,133,134,135,136,137,138,139,140,141,142,143,144,145,146,147,148,149,150,151,152,153,154,155,156,157,158,159,160,161,162,163,164,165,166,167,168,169,170,171,172,173,174,175,176,177,178,179,180,181,182,183,184,185,186,187,188,189,190,191,192,193,194,195,196,197,198,199,200,201,202,203,204,205,206,207,208,209,210,211,212,213,214,215],[(1,0,.int .i64),(1,1,.int .i64),(1,2,.int .i64),(1,3,.int .i64),(1,4,.int .i64),(1,5,.int .i64),(1,6,.int .i64),(1,7,.int .i64),(1,8,.int .i64)]⟩],quiet:=[46,47,48,50],draws:=[⟨16,[3,5,7,9],[],true,true⟩],asm:=true,cuts:=[⟨13,[],[60,61,62,63,64,65,66,67,68,69,70,71,72,73,74,75,76,77,78],[]⟩] }
def F15 (number:Int) (id:ByteArray) (hA:Option Addr) (hn hc:Nat) (H:Heap) (K:Value → Heap → Prop):Prop :=
 ∃ (a:Addr),
 (hA = some a ∧
 (0:Int) ≤ (0:Int) ∧
 (0:Int) < (↑hn:Int)) ∧
 ∃ (x x1 x2 x3 x4 x5 x6 x7 x8:Int),
 At H (a.add (Int.toNat (0:Int) * nat_lit 9)) [.int .i64 x,.int .i64 x1,.int .i64 x2,.int .i64 x3,.int .i64 x4,.int .i64 x5,.int .i64 x6,.int .i64 x7,.int .i64 x8] ∧
 ∀ (b:Nat),H b = none → ∀ (H1:Heap),H1 = H.upd b (Obj.cells #[.int .i64 0,.int .i64 0,.int .i64 0,.string ({ data:=#[] }:ByteArray),.int .i64 0,.int .i64 0,.int .i64 0,.int .i64 0,.int .i64 0,.int .i64 0,.int .i64 0,.int .i64 0,.int .i64 0,.int .i64 0,.int .i64 0,.slice none (0:Nat) (0:Nat),.slice none (0:Nat) (0:Nat),.slice none (0:Nat) (0:Nat),.slice none (0:Nat) (0:Nat),.slice none (0:Nat) (0:Nat)] (34:Nat)) → StL H1 (⟨b,0,none⟩:Addr) [.int .i64 number,.int .i64 x3,.int .i64 1,.string id,.int .i64 x1,.int .i64 0,.int .i64 x5,.int .i64 x6,.int .i64 x7,.int .i64 0,.int .i64 0,.int .i64 0,.int .i64 0,.int .i64 0,.int .i64 0,.slice none (0:Nat) (0:Nat),.slice none (0:Nat) (0:Nat),.slice none (0:Nat) (0:Nat),.slice none (0:Nat) (0:Nat),.slice none (0:Nat) (0:Nat)] fun H11 =>
 ∃ (A:Option Addr) (n c1:Nat),
 At H11 ((⟨b,0,none⟩:Addr).add (nat_lit 15)) [.slice A n c1] ∧
 appS (47:Nat) (nat_lit 9) (nat_lit 72) H11 A n c1 hA hn fun (A':Option Addr) (n' c':Nat) (H':Heap)=>StL H' ((⟨b,0,none⟩:Addr).add (nat_lit 15)) [.slice A' n' c'] fun H12 =>
 ∃ (a1:Addr),
 (hA = some a1 ∧
 (0:Int) ≤ IntKind.i64.wrap ((↑hn:Int) - 1) ∧
 IntKind.i64.wrap ((↑hn:Int) - 1) < (↑hn:Int)) ∧
 ∃ (x9 x10 x11 x12 x13 x14 x15 x16 x17:Int),
 At H12 (a1.add ((IntKind.i64.wrap ((↑hn:Int) - 1)).toNat * nat_lit 9)) [.int .i64 x9,.int .i64 x10,.int .i64 x11,.int .i64 x12,.int .i64 x13,.int .i64 x14,.int .i64 x15,.int .i64 x16,.int .i64 x17] ∧
 ∃ (b1:Bool),
 (Tr Tryz.prog (46:Nat) #[.int .i64 x11] H12 fun v H'1=>v = .bool b1 ∧
 Ax.Sub H12 H'1) ∧
 ∃ (Rel:Int → Int → Int → Int → Int → Int → Int → Int → Int → Int → Heap → Prop) (mu:Int → Int → Int → Int → Int → Int → Int → Int → Int → Int → Heap → Nat),
 Rel (0:Int) x x1 x2 x3 x4 x5 x6 x7 x8 H12 ∧
 ∀ (x18 x19 x20 x21 x22 x23 x24 x25 x26 x27:Int) (H1:Heap),Rel x18 x19 x20 x21 x22 x23 x24 x25 x26 x27 H1 → (decide (x18 < (↑hn:Int)) = true →
 ∃ (a2:Addr),
 (hA = some a2 ∧
 (0:Int) ≤ x18 ∧
 x18 < (↑hn:Int)) ∧
 ∃ (x28 x29 x30 x31 x32 x33 x34 x35 x36:Int),
 At H1 (a2.add (x18.toNat * nat_lit 9)) [.int .i64 x28,.int .i64 x29,.int .i64 x30,.int .i64 x31,.int .i64 x32,.int .i64 x33,.int .i64 x34,.int .i64 x35,.int .i64 x36] ∧
 ∃ (b2:Bool),
 (Tr Tryz.prog (47:Nat) #[.int .i64 x30] H1 fun v1 H'2=>v1 = .bool b2 ∧
 Ax.Sub H1 H'2) ∧
 ∃ (Mid:Heap → Prop),
 (((x30 == 2 || b2 && (x30 != 16 || x31 != (-4))) = true → StL H1 ((⟨b,0,none⟩:Addr).add (nat_lit 9)) [.int .i64 x28] fun H13=>Mid H13) ∧
 ((x30 == 2 || b2 && (x30 != 16 || x31 != (-4))) = false → Mid H1)) ∧
 ∀ (H2:Heap),Mid H2 → ((x30 == 3) = true → ((!b1) = true → ∀ (b3:Nat),H2 b3 = none → ∀ (H14:Heap),H14 = H2.upd b3 (Obj.cells #[.int .i64 6,.int .i64 22,.int .i64 23,.int .i64 24] (3:Nat)) →
 ∃ (x37:Int),
 (Tr Tryz.prog (48:Nat) #[.slice hA hn hc,.int .i64 x28,.slice (some (⟨b3,0,none⟩:Addr)) (4:Nat) (4:Nat)] H14 fun v2 H'3=>v2 = .int .i64 x37 ∧
 Ax.Sub H14 H'3) ∧
 (decide (x37 < 0) = true →
 ∃ (Hs:Heap),
 Ax.Sub Hs H14 ∧
 (∃ (A1:Option Addr),
 ∃ (n1 c4:Nat),
 At H14 ((⟨b,0,none⟩:Addr).add (nat_lit 16)) [.slice A1 n1 c4] ∧
 Ax.Sub Hs H14 ∧
 Tr Tryz.prog (49:Nat) #[.int .i64 x28,.int .i64 x31,.int .i64 x32,.int .i64 x29] H14 fun v3 H'4 =>
 ∃ (x38 x39 x40 x41 x42 x43 x44 x45 x46 x47:Int),
 v3 = .agg #[.int .i64 x38,.int .i64 x39,.int .i64 x40,.int .i64 x41,.int .i64 x42,.int .i64 x43,.int .i64 x44,.int .i64 x45,.int .i64 x46,.int .i64 x47] ∧
 Ax.Sub Hs H'4 ∧
 Ax.Sub Hs H'4 ∧
 appC (53:Nat) (nat_lit 10) (nat_lit 80) H'4 A1 n1 c4 [.int .i64 x38,.int .i64 x39,.int .i64 x40,.int .i64 x41,.int .i64 x42,.int .i64 x43,.int .i64 x44,.int .i64 x45,.int .i64 x46,.int .i64 x47] (1:Nat) fun (A'1:Option Addr) (n'1 c'1:Nat) (H'5:Heap)=>Ax.Sub Hs H'5 ∧
 StL H'5 ((⟨b,0,none⟩:Addr).add (nat_lit 16)) [.slice A'1 n'1 c'1] fun H15=>Ax.Sub Hs H15 ∧
 Rel (IntKind.i64.wrap (x18 + 1)) x28 x29 x30 x31 x32 x33 x34 x35 x36 H15 ∧
 mu (IntKind.i64.wrap (x18 + 1)) x28 x29 x30 x31 x32 x33 x34 x35 x36 H15 < mu x18 x19 x20 x21 x22 x23 x24 x25 x26 x27 H1) ∧
 Tr Tryz.prog (49:Nat) #[.int .i64 x28,.int .i64 x31,.int .i64 x32,.int .i64 x29] H14 fun v4 H'6 =>
 ∃ (x48 x49 x50 x51 x52 x53 x54 x55 x56 x57:Int),
 v4 = .agg #[.int .i64 x48,.int .i64 x49,.int .i64 x50,.int .i64 x51,.int .i64 x52,.int .i64 x53,.int .i64 x54,.int .i64 x55,.int .i64 x56,.int .i64 x57] ∧
 Ax.Sub Hs H'6 ∧
 (∃ (A2:Option Addr),
 ∃ (n2 c6:Nat),
 At H'6 ((⟨b,0,none⟩:Addr).add (nat_lit 16)) [.slice A2 n2 c6] ∧
 Ax.Sub Hs H'6 ∧
 Ax.Sub Hs H'6 ∧
 appC (53:Nat) (nat_lit 10) (nat_lit 80) H'6 A2 n2 c6 [.int .i64 x48,.int .i64 x49,.int .i64 x50,.int .i64 x51,.int .i64 x52,.int .i64 x53,.int .i64 x54,.int .i64 x55,.int .i64 x56,.int .i64 x57] (1:Nat) fun (A'2:Option Addr) (n'2 c'2:Nat) (H'7:Heap)=>Ax.Sub Hs H'7 ∧
 StL H'7 ((⟨b,0,none⟩:Addr).add (nat_lit 16)) [.slice A'2 n'2 c'2] fun H16=>Ax.Sub Hs H16 ∧
 Rel (IntKind.i64.wrap (x18 + 1)) x28 x29 x30 x31 x32 x33 x34 x35 x36 H16 ∧
 mu (IntKind.i64.wrap (x18 + 1)) x28 x29 x30 x31 x32 x33 x34 x35 x36 H16 < mu x18 x19 x20 x21 x22 x23 x24 x25 x26 x27 H1) ∧
 Ax.Sub Hs H'6 ∧
 ∃ (A3:Option Addr) (n3 c8:Nat),
 At H'6 ((⟨b,0,none⟩:Addr).add (nat_lit 16)) [.slice A3 n3 c8] ∧
 Ax.Sub Hs H'6 ∧
 appC (53:Nat) (nat_lit 10) (nat_lit 80) H'6 A3 n3 c8 [.int .i64 x48,.int .i64 x49,.int .i64 x50,.int .i64 x51,.int .i64 x52,.int .i64 x53,.int .i64 x54,.int .i64 x55,.int .i64 x56,.int .i64 x57] (1:Nat) fun (A'3:Option Addr) (n'3 c'3:Nat) (H'8:Heap)=>Ax.Sub Hs H'8 ∧
 StL H'8 ((⟨b,0,none⟩:Addr).add (nat_lit 16)) [.slice A'3 n'3 c'3] fun H17=>Ax.Sub Hs H17 ∧
 Rel (IntKind.i64.wrap (x18 + 1)) x28 x29 x30 x31 x32 x33 x34 x35 x36 H17 ∧
 mu (IntKind.i64.wrap (x18 + 1)) x28 x29 x30 x31 x32 x33 x34 x35 x36 H17 < mu x18 x19 x20 x21 x22 x23 x24 x25 x26 x27 H1) ∧
 (decide (x37 < 0) = false → Rel (IntKind.i64.wrap (x18 + 1)) x28 x29 x30 x31 x32 x33 x34 x35 x36 H14 ∧
 mu (IntKind.i64.wrap (x18 + 1)) x28 x29 x30 x31 x32 x33 x34 x35 x36 H14 < mu x18 x19 x20 x21 x22 x23 x24 x25 x26 x27 H1)) ∧
 ((!b1) = false → Rel (IntKind.i64.wrap (x18 + 1)) x28 x29 x30 x31 x32 x33 x34 x35 x36 H2 ∧
 mu (IntKind.i64.wrap (x18 + 1)) x28 x29 x30 x31 x32 x33 x34 x35 x36 H2 < mu x18 x19 x20 x21 x22 x23 x24 x25 x26 x27 H1)) ∧
 ((x30 == 3) = false → ((x30 == 4) = true → ((!b1) = true → ∀ (b4:Nat),H2 b4 = none → ∀ (H18:Heap),H18 = H2.upd b4 (Obj.cells #[.int .i64 7,.int .i64 25] (3:Nat)) →
 ∃ (x58:Int),
 (Tr Tryz.prog (48:Nat) #[.slice hA hn hc,.int .i64 x28,.slice (some (⟨b4,0,none⟩:Addr)) (2:Nat) (2:Nat)] H18 fun v5 H'9=>v5 = .int .i64 x58 ∧
 Ax.Sub H18 H'9) ∧
 (decide (x58 < 0) = true →
 ∃ (A4:Option Addr) (n4 c10:Nat),
 At H18 ((⟨b,0,none⟩:Addr).add (nat_lit 17)) [.slice A4 n4 c10] ∧
 appC (83:Nat) (nat_lit 2) (nat_lit 16) H18 A4 n4 c10 [.int .i64 x28,.int .i64 x31] (1:Nat) fun (A'4:Option Addr) (n'4 c'4:Nat) (H'10:Heap)=>StL H'10 ((⟨b,0,none⟩:Addr).add (nat_lit 17)) [.slice A'4 n'4 c'4] fun H19=>Rel (IntKind.i64.wrap (x18 + 1)) x28 x29 x30 x31 x32 x33 x34 x35 x36 H19 ∧
 mu (IntKind.i64.wrap (x18 + 1)) x28 x29 x30 x31 x32 x33 x34 x35 x36 H19 < mu x18 x19 x20 x21 x22 x23 x24 x25 x26 x27 H1) ∧
 (decide (x58 < 0) = false → Rel (IntKind.i64.wrap (x18 + 1)) x28 x29 x30 x31 x32 x33 x34 x35 x36 H18 ∧
 mu (IntKind.i64.wrap (x18 + 1)) x28 x29 x30 x31 x32 x33 x34 x35 x36 H18 < mu x18 x19 x20 x21 x22 x23 x24 x25 x26 x27 H1)) ∧
 ((!b1) = false → Rel (IntKind.i64.wrap (x18 + 1)) x28 x29 x30 x31 x32 x33 x34 x35 x36 H2 ∧
 mu (IntKind.i64.wrap (x18 + 1)) x28 x29 x30 x31 x32 x33 x34 x35 x36 H2 < mu x18 x19 x20 x21 x22 x23 x24 x25 x26 x27 H1)) ∧
 ((x30 == 4) = false → ((x30 == 5) = true → ∀ (b5:Nat),H2 b5 = none → ∀ (H110:Heap),H110 = H2.upd b5 (Obj.cells #[.int .i64 26] (3:Nat)) →
 ∃ (x59:Int),
 (Tr Tryz.prog (48:Nat) #[.slice hA hn hc,.int .i64 x28,.slice (some (⟨b5,0,none⟩:Addr)) (1:Nat) (1:Nat)] H110 fun v6 H'11=>v6 = .int .i64 x59 ∧
 Ax.Sub H110 H'11) ∧
 (decide (x59 ≥ 0) = true →
 ∃ (a3:Addr),
 (hA = some a3 ∧
 (0:Int) ≤ x59 ∧
 x59 < (↑hn:Int)) ∧
 ∃ (x60:Int),
 At H110 ((a3.add (x59.toNat * nat_lit 9)).add (nat_lit 4)) [.int .i64 x60] ∧
 ∀ (b6:Nat),H110 b6 = none → ∀ (H111:Heap),H111 = H110.upd b6 (Obj.cells #[.int .i64 27,.int .i64 28] (3:Nat)) →
 ∃ (x61:Int),
 (Tr Tryz.prog (48:Nat) #[.slice hA hn hc,.int .i64 x28,.slice (some (⟨b6,0,none⟩:Addr)) (2:Nat) (2:Nat)] H111 fun v7 H'12=>v7 = .int .i64 x61 ∧
 Ax.Sub H111 H'12) ∧
 ∃ (A5:Option Addr) (n5 c12:Nat),
 At H111 ((⟨b,0,none⟩:Addr).add (nat_lit 18)) [.slice A5 n5 c12] ∧
 appC (98:Nat) (nat_lit 5) (nat_lit 40) H111 A5 n5 c12 [.int .i64 x28,.int .i64 x31,.int .i64 x32,.int .i64 x60,.bool (decide (x61 ≥ 0))] (1:Nat) fun (A'5:Option Addr) (n'5 c'5:Nat) (H'13:Heap)=>StL H'13 ((⟨b,0,none⟩:Addr).add (nat_lit 18)) [.slice A'5 n'5 c'5] fun H112=>Rel (IntKind.i64.wrap (x18 + 1)) x28 x29 x30 x31 x32 x33 x34 x35 x36 H112 ∧
 mu (IntKind.i64.wrap (x18 + 1)) x28 x29 x30 x31 x32 x33 x34 x35 x36 H112 < mu x18 x19 x20 x21 x22 x23 x24 x25 x26 x27 H1) ∧
 (decide (x59 ≥ 0) = false → ∀ (b7:Nat),H110 b7 = none → ∀ (H113:Heap),H113 = H110.upd b7 (Obj.cells #[.int .i64 27,.int .i64 28] (3:Nat)) →
 ∃ (x62:Int),
 (Tr Tryz.prog (48:Nat) #[.slice hA hn hc,.int .i64 x28,.slice (some (⟨b7,0,none⟩:Addr)) (2:Nat) (2:Nat)] H113 fun v8 H'14=>v8 = .int .i64 x62 ∧
 Ax.Sub H113 H'14) ∧
 ∃ (A6:Option Addr) (n6 c14:Nat),
 At H113 ((⟨b,0,none⟩:Addr).add (nat_lit 18)) [.slice A6 n6 c14] ∧
 appC (98:Nat) (nat_lit 5) (nat_lit 40) H113 A6 n6 c14 [.int .i64 x28,.int .i64 x31,.int .i64 x32,.int .i64 0,.bool (decide (x62 ≥ 0))] (1:Nat) fun (A'6:Option Addr) (n'6 c'6:Nat) (H'15:Heap)=>StL H'15 ((⟨b,0,none⟩:Addr).add (nat_lit 18)) [.slice A'6 n'6 c'6] fun H114=>Rel (IntKind.i64.wrap (x18 + 1)) x28 x29 x30 x31 x32 x33 x34 x35 x36 H114 ∧
 mu (IntKind.i64.wrap (x18 + 1)) x28 x29 x30 x31 x32 x33 x34 x35 x36 H114 < mu x18 x19 x20 x21 x22 x23 x24 x25 x26 x27 H1)) ∧
 ((x30 == 5) = false → ((x30 == 10) = true → ((0:Int) ≤ x31 ∧
 x31 < (↑(4:Nat):Int)) ∧
 StL H2 (((⟨b,0,none⟩:Addr).add (nat_lit 11)).add (x31.toNat * nat_lit 1)) [.int .i64 x32] fun H115=>Rel (IntKind.i64.wrap (x18 + 1)) x28 x29 x30 x31 x32 x33 x34 x35 x36 H115 ∧
 mu (IntKind.i64.wrap (x18 + 1)) x28 x29 x30 x31 x32 x33 x34 x35 x36 H115 < mu x18 x19 x20 x21 x22 x23 x24 x25 x26 x27 H1) ∧
 ((x30 == 10) = false → ((x30 == 21) = true → ∀ (b8:Nat),H2 b8 = none → ∀ (H116:Heap),H116 = H2.upd b8 (Obj.cells #[.int .i64 12,.int .i64 13,.int .i64 14] (3:Nat)) →
 ∃ (x63:Int),
 (Tr Tryz.prog (48:Nat) #[.slice hA hn hc,.int .i64 x28,.slice (some (⟨b8,0,none⟩:Addr)) (3:Nat) (3:Nat)] H116 fun v9 H'16=>v9 = .int .i64 x63 ∧
 Ax.Sub H116 H'16) ∧
 (decide (x63 ≥ 0) = true →
 ∃ (a4:Addr),
 (hA = some a4 ∧
 (0:Int) ≤ x63 ∧
 x63 < (↑hn:Int)) ∧
 ∃ (x64:Int),
 At H116 ((a4.add (x63.toNat * nat_lit 9)).add (nat_lit 2)) [.int .i64 x64] ∧
 ∃ (a5:Addr),
 (hA = some a5 ∧
 (0:Int) ≤ x63 ∧
 x63 < (↑hn:Int)) ∧
 ∃ (x65:Int),
 At H116 ((a5.add (x63.toNat * nat_lit 9)).add (nat_lit 4)) [.int .i64 x65] ∧
 ((IntKind.i64.wrap (x64 - 11) == 1) = true → ((IntKind.i64.wrap (x64 - 11) == 3) = true →
 ∃ (a6:Addr),
 (hA = some a6 ∧
 (0:Int) ≤ x63 ∧
 x63 < (↑hn:Int)) ∧
 ∃ (x66:Int),
 At H116 ((a6.add (x63.toNat * nat_lit 9)).add (nat_lit 5)) [.int .i64 x66] ∧
 ∃ (A7:Option Addr) (n7 c17:Nat),
 At H116 ((⟨b,0,none⟩:Addr).add (nat_lit 19)) [.slice A7 n7 c17] ∧
 appC (107:Nat) (nat_lit 4) (nat_lit 32) H116 A7 n7 c17 [.int .i64 x28,.int .i64 (IntKind.i64.wrap (x64 - 11)),.int .i64 0,.int .i64 x66] (1:Nat) fun (A'7:Option Addr) (n'7 c'7:Nat) (H'17:Heap)=>StL H'17 ((⟨b,0,none⟩:Addr).add (nat_lit 19)) [.slice A'7 n'7 c'7] fun H117=>Rel (IntKind.i64.wrap (x18 + 1)) x28 x29 x30 x31 x32 x33 x34 x35 x36 H117 ∧
 mu (IntKind.i64.wrap (x18 + 1)) x28 x29 x30 x31 x32 x33 x34 x35 x36 H117 < mu x18 x19 x20 x21 x22 x23 x24 x25 x26 x27 H1) ∧
 ((IntKind.i64.wrap (x64 - 11) == 3) = false →
 ∃ (A8:Option Addr) (n8 c19:Nat),
 At H116 ((⟨b,0,none⟩:Addr).add (nat_lit 19)) [.slice A8 n8 c19] ∧
 appC (107:Nat) (nat_lit 4) (nat_lit 32) H116 A8 n8 c19 [.int .i64 x28,.int .i64 (IntKind.i64.wrap (x64 - 11)),.int .i64 0,.int .i64 0] (1:Nat) fun (A'8:Option Addr) (n'8 c'8:Nat) (H'18:Heap)=>StL H'18 ((⟨b,0,none⟩:Addr).add (nat_lit 19)) [.slice A'8 n'8 c'8] fun H118=>Rel (IntKind.i64.wrap (x18 + 1)) x28 x29 x30 x31 x32 x33 x34 x35 x36 H118 ∧
 mu (IntKind.i64.wrap (x18 + 1)) x28 x29 x30 x31 x32 x33 x34 x35 x36 H118 < mu x18 x19 x20 x21 x22 x23 x24 x25 x26 x27 H1)) ∧
 ((IntKind.i64.wrap (x64 - 11) == 1) = false → ((IntKind.i64.wrap (x64 - 11) == 3) = true →
 ∃ (a7:Addr),
 (hA = some a7 ∧
 (0:Int) ≤ x63 ∧
 x63 < (↑hn:Int)) ∧
 ∃ (x67:Int),
 At H116 ((a7.add (x63.toNat * nat_lit 9)).add (nat_lit 5)) [.int .i64 x67] ∧
 ∃ (A9:Option Addr) (n9 c21:Nat),
 At H116 ((⟨b,0,none⟩:Addr).add (nat_lit 19)) [.slice A9 n9 c21] ∧
 appC (107:Nat) (nat_lit 4) (nat_lit 32) H116 A9 n9 c21 [.int .i64 x28,.int .i64 (IntKind.i64.wrap (x64 - 11)),.int .i64 x65,.int .i64 x67] (1:Nat) fun (A'9:Option Addr) (n'9 c'9:Nat) (H'19:Heap)=>StL H'19 ((⟨b,0,none⟩:Addr).add (nat_lit 19)) [.slice A'9 n'9 c'9] fun H119=>Rel (IntKind.i64.wrap (x18 + 1)) x28 x29 x30 x31 x32 x33 x34 x35 x36 H119 ∧
 mu (IntKind.i64.wrap (x18 + 1)) x28 x29 x30 x31 x32 x33 x34 x35 x36 H119 < mu x18 x19 x20 x21 x22 x23 x24 x25 x26 x27 H1) ∧
 ((IntKind.i64.wrap (x64 - 11) == 3) = false →
 ∃ (A10:Option Addr) (n10 c23:Nat),
 At H116 ((⟨b,0,none⟩:Addr).add (nat_lit 19)) [.slice A10 n10 c23] ∧
 appC (107:Nat) (nat_lit 4) (nat_lit 32) H116 A10 n10 c23 [.int .i64 x28,.int .i64 (IntKind.i64.wrap (x64 - 11)),.int .i64 x65,.int .i64 0] (1:Nat) fun (A'10:Option Addr) (n'10 c'10:Nat) (H'20:Heap)=>StL H'20 ((⟨b,0,none⟩:Addr).add (nat_lit 19)) [.slice A'10 n'10 c'10] fun H120=>Rel (IntKind.i64.wrap (x18 + 1)) x28 x29 x30 x31 x32 x33 x34 x35 x36 H120 ∧
 mu (IntKind.i64.wrap (x18 + 1)) x28 x29 x30 x31 x32 x33 x34 x35 x36 H120 < mu x18 x19 x20 x21 x22 x23 x24 x25 x26 x27 H1))) ∧
 (decide (x63 ≥ 0) = false → (((0:Int) == (1:Int)) = true → (((0:Int) == (3:Int)) = true →
 ∃ (a8:Addr),
 (hA = some a8 ∧
 (0:Int) ≤ x63 ∧
 x63 < (↑hn:Int)) ∧
 ∃ (x68:Int),
 At H116 ((a8.add (x63.toNat * nat_lit 9)).add (nat_lit 5)) [.int .i64 x68] ∧
 ∃ (A11:Option Addr) (n11 c25:Nat),
 At H116 ((⟨b,0,none⟩:Addr).add (nat_lit 19)) [.slice A11 n11 c25] ∧
 appC (107:Nat) (nat_lit 4) (nat_lit 32) H116 A11 n11 c25 [.int .i64 x28,.int .i64 0,.int .i64 0,.int .i64 x68] (1:Nat) fun (A'11:Option Addr) (n'11 c'11:Nat) (H'21:Heap)=>StL H'21 ((⟨b,0,none⟩:Addr).add (nat_lit 19)) [.slice A'11 n'11 c'11] fun H121=>Rel (IntKind.i64.wrap (x18 + 1)) x28 x29 x30 x31 x32 x33 x34 x35 x36 H121 ∧
 mu (IntKind.i64.wrap (x18 + 1)) x28 x29 x30 x31 x32 x33 x34 x35 x36 H121 < mu x18 x19 x20 x21 x22 x23 x24 x25 x26 x27 H1) ∧
 (((0:Int) == (3:Int)) = false →
 ∃ (A12:Option Addr) (n12 c27:Nat),
 At H116 ((⟨b,0,none⟩:Addr).add (nat_lit 19)) [.slice A12 n12 c27] ∧
 appC (107:Nat) (nat_lit 4) (nat_lit 32) H116 A12 n12 c27 [.int .i64 x28,.int .i64 0,.int .i64 0,.int .i64 0] (1:Nat) fun (A'12:Option Addr) (n'12 c'12:Nat) (H'22:Heap)=>StL H'22 ((⟨b,0,none⟩:Addr).add (nat_lit 19)) [.slice A'12 n'12 c'12] fun H122=>Rel (IntKind.i64.wrap (x18 + 1)) x28 x29 x30 x31 x32 x33 x34 x35 x36 H122 ∧
 mu (IntKind.i64.wrap (x18 + 1)) x28 x29 x30 x31 x32 x33 x34 x35 x36 H122 < mu x18 x19 x20 x21 x22 x23 x24 x25 x26 x27 H1)) ∧
 (((0:Int) == (1:Int)) = false → (((0:Int) == (3:Int)) = true →
 ∃ (a9:Addr),
 (hA = some a9 ∧
 (0:Int) ≤ x63 ∧
 x63 < (↑hn:Int)) ∧
 ∃ (x69:Int),
 At H116 ((a9.add (x63.toNat * nat_lit 9)).add (nat_lit 5)) [.int .i64 x69] ∧
 ∃ (A13:Option Addr) (n13 c29:Nat),
 At H116 ((⟨b,0,none⟩:Addr).add (nat_lit 19)) [.slice A13 n13 c29] ∧
 appC (107:Nat) (nat_lit 4) (nat_lit 32) H116 A13 n13 c29 [.int .i64 x28,.int .i64 0,.int .i64 0,.int .i64 x69] (1:Nat) fun (A'13:Option Addr) (n'13 c'13:Nat) (H'23:Heap)=>StL H'23 ((⟨b,0,none⟩:Addr).add (nat_lit 19)) [.slice A'13 n'13 c'13] fun H123=>Rel (IntKind.i64.wrap (x18 + 1)) x28 x29 x30 x31 x32 x33 x34 x35 x36 H123 ∧
 mu (IntKind.i64.wrap (x18 + 1)) x28 x29 x30 x31 x32 x33 x34 x35 x36 H123 < mu x18 x19 x20 x21 x22 x23 x24 x25 x26 x27 H1) ∧
 (((0:Int) == (3:Int)) = false →
 ∃ (A14:Option Addr) (n14 c31:Nat),
 At H116 ((⟨b,0,none⟩:Addr).add (nat_lit 19)) [.slice A14 n14 c31] ∧
 appC (107:Nat) (nat_lit 4) (nat_lit 32) H116 A14 n14 c31 [.int .i64 x28,.int .i64 0,.int .i64 0,.int .i64 0] (1:Nat) fun (A'14:Option Addr) (n'14 c'14:Nat) (H'24:Heap)=>StL H'24 ((⟨b,0,none⟩:Addr).add (nat_lit 19)) [.slice A'14 n'14 c'14] fun H124=>Rel (IntKind.i64.wrap (x18 + 1)) x28 x29 x30 x31 x32 x33 x34 x35 x36 H124 ∧
 mu (IntKind.i64.wrap (x18 + 1)) x28 x29 x30 x31 x32 x33 x34 x35 x36 H124 < mu x18 x19 x20 x21 x22 x23 x24 x25 x26 x27 H1)))) ∧
 ((x30 == 21) = false → Rel (IntKind.i64.wrap (x18 + 1)) x28 x29 x30 x31 x32 x33 x34 x35 x36 H2 ∧
 mu (IntKind.i64.wrap (x18 + 1)) x28 x29 x30 x31 x32 x33 x34 x35 x36 H2 < mu x18 x19 x20 x21 x22 x23 x24 x25 x26 x27 H1)))))) ∧
 (decide (x18 < (↑hn:Int)) = false → (b1 = true →
 ∃ (x70:Int),
 (Tr Tryz.prog (50:Nat) #[.int .i64 x11] H1 fun v10 H'25=>v10 = .int .i64 x70 ∧
 Ax.Sub H1 H'25) ∧
 StL H1 ((⟨b,0,none⟩:Addr).add (nat_lit 2)) [.int .i64 x70] fun H125=>StL H125 ((⟨b,0,none⟩:Addr).add (nat_lit 10)) [.int .i64 x12] fun H126=>StL H126 ((⟨b,0,none⟩:Addr).add (nat_lit 5)) [.int .i64 x10] fun H127 =>
 ∃ (x71 x72 x73:Int) (s:ByteArray) (x74 x75 x76 x77 x78 x79 x80 x81 x82 x83 x84:Int) (A15:Option Addr) (n15 c36:Nat) (A16:Option Addr) (n16 c37:Nat) (A17:Option Addr) (n17 c38:Nat) (A18:Option Addr) (n18 c39:Nat) (A19:Option Addr) (n19 c40:Nat),
 At H127 (⟨b,0,none⟩:Addr) [.int .i64 x71,.int .i64 x72,.int .i64 x73,.string s,.int .i64 x74,.int .i64 x75,.int .i64 x76,.int .i64 x77,.int .i64 x78,.int .i64 x79,.int .i64 x80,.int .i64 x81,.int .i64 x82,.int .i64 x83,.int .i64 x84,.slice A15 n15 c36,.slice A16 n16 c37,.slice A17 n17 c38,.slice A18 n18 c39,.slice A19 n19 c40] ∧
 K (.agg #[.int .i64 x71,.int .i64 x72,.int .i64 x73,.string s,.int .i64 x74,.int .i64 x75,.int .i64 x76,.int .i64 x77,.int .i64 x78,.int .i64 x79,.int .i64 x80,.int .i64 x81,.int .i64 x82,.int .i64 x83,.int .i64 x84,.slice A15 n15 c36,.slice A16 n16 c37,.slice A17 n17 c38,.slice A18 n18 c39,.slice A19 n19 c40]) H127) ∧
 (b1 = false →
 ∃ (x85 x86 x87:Int) (s1:ByteArray) (x88 x89 x90 x91 x92 x93 x94 x95 x96 x97 x98:Int) (A20:Option Addr) (n20 c41:Nat) (A21:Option Addr) (n21 c42:Nat) (A22:Option Addr) (n22 c43:Nat) (A23:Option Addr) (n23 c44:Nat) (A24:Option Addr) (n24 c45:Nat),
 At H1 (⟨b,0,none⟩:Addr) [.int .i64 x85,.int .i64 x86,.int .i64 x87,.string s1,.int .i64 x88,.int .i64 x89,.int .i64 x90,.int .i64 x91,.int .i64 x92,.int .i64 x93,.int .i64 x94,.int .i64 x95,.int .i64 x96,.int .i64 x97,.int .i64 x98,.slice A20 n20 c41,.slice A21 n21 c42,.slice A22 n22 c43,.slice A23 n23 c44,.slice A24 n24 c45] ∧
 K (.agg #[.int .i64 x85,.int .i64 x86,.int .i64 x87,.string s1,.int .i64 x88,.int .i64 x89,.int .i64 x90,.int .i64 x91,.int .i64 x92,.int .i64 x93,.int .i64 x94,.int .i64 x95,.int .i64 x96,.int .i64 x97,.int .i64 x98,.slice A20 n20 c41,.slice A21 n21 c42,.slice A22 n22 c43,.slice A23 n23 c44,.slice A24 n24 c45]) H1))

theorem v15 {number:Int} {id:ByteArray} {hA:Option Addr} {hn hc:Nat} {H:Heap} {K:Value → Heap → Prop} (h:F15 number id hA hn hc H K):Tr Tryz.prog 15 #[.int .i64 number,.string id,.slice hA hn hc] H K :=
  tr_of_eq (C:=c15) Tryz.func15 (show vcFn c15 Tryz.f15 [.int .i64 number,.string id,.slice hA hn hc] H K = F15 number id hA hn hc H K by kernel_rfl) h
noncomputable def c48:Cx:={ P:=Tryz.prog,res:=[],pub:=[],loops:=[⟨3,[(7,.int .i64),(8,.int .i64)],[9,10,11,12,13,14,15,16,17,18,19,20,21,22,23,24,25,26,27,28,29,30,31,32,33],[]⟩],quiet:=[102],asm:=true }
def F48 (hA:Option Addr) (hn hc:Nat) (id:Int) (kindsA:Option Addr) (kindsn kindsc:Nat) (H:Heap) (K:Value → Heap → Prop):Prop :=
 ∃ (Rel:Int → Int → Heap → Prop) (mu:Int → Int → Heap → Nat),
 Rel (-1:Int) (0:Int) H ∧
 ∀ (x x1:Int) (H1:Heap),Rel x x1 H1 → (decide (x1 < (↑hn:Int)) = true →
 ∃ (a:Addr),
 (hA = some a ∧
 (0:Int) ≤ x1 ∧
 x1 < (↑hn:Int)) ∧
 ∃ (x2:Int),
 At H1 ((a.add (x1.toNat * nat_lit 9)).add (nat_lit 2)) [.int .i64 x2] ∧
 ∃ (b:Bool),
 (Tr Tryz.prog (102:Nat) #[.slice kindsA kindsn kindsc,.int .i64 x2] H1 fun v H'=>v = .bool b ∧
 Ax.Sub H1 H') ∧
 ∃ (a1:Addr),
 (b = true → hA = some a1 ∧
 (0:Int) ≤ x1 ∧
 x1 < (↑hn:Int)) ∧
 ∃ (x3:Int),
 (b = true → At H1 ((a1.add (x1.toNat * nat_lit 9)).add (nat_lit 3)) [.int .i64 x3]) ∧
 ((b && x3 == id) = true → Rel x1 (IntKind.i64.wrap (x1 + 1)) H1 ∧
 mu x1 (IntKind.i64.wrap (x1 + 1)) H1 < mu x x1 H1) ∧
 ((b && x3 == id) = false → Rel x (IntKind.i64.wrap (x1 + 1)) H1 ∧
 mu x (IntKind.i64.wrap (x1 + 1)) H1 < mu x x1 H1)) ∧
 (decide (x1 < (↑hn:Int)) = false → K (.int .i64 x) H1)

theorem v48 {hA:Option Addr} {hn hc:Nat} {id:Int} {kindsA:Option Addr} {kindsn kindsc:Nat} {H:Heap} {K:Value → Heap → Prop} (h:F48 hA hn hc id kindsA kindsn kindsc H K):Tr Tryz.prog 48 #[.slice hA hn hc,.int .i64 id,.slice kindsA kindsn kindsc] H K :=
  tr_of_eq (C:=c48) Tryz.func48 (show vcFn c48 Tryz.f48 [.slice hA hn hc,.int .i64 id,.slice kindsA kindsn kindsc] H K = F48 hA hn hc id kindsA kindsn kindsc H K by kernel_rfl) h
noncomputable def c50:Cx:={ P:=Tryz.prog,res:=[],pub:=[],loops:=[],quiet:=[],asm:=true }
def F50 (kind:Int) (H:Heap) (K:Value → Heap → Prop):Prop:=((kind == 15) = true → K (.int .i64 2) H) ∧
 ((kind == 15) = false → ((kind == 16) = true → K (.int .i64 3) H) ∧
 ((kind == 16) = false → ((kind == 17) = true → K (.int .i64 4) H) ∧
 ((kind == 17) = false → ((kind == 30) = true → K (.int .i64 5) H) ∧
 ((kind == 30) = false → ((kind == 31) = true → K (.int .i64 6) H) ∧
 ((kind == 31) = false → K (.int .i64 7) H)))))

theorem v50 {kind:Int} {H:Heap} {K:Value → Heap → Prop} (h:F50 kind H K):Tr Tryz.prog 50 #[.int .i64 kind] H K :=
  tr_of_eq (C:=c50) Tryz.func50 (show vcFn c50 Tryz.f50 [.int .i64 kind] H K = F50 kind H K by kernel_rfl) h
noncomputable def c49:Cx:={ P:=Tryz.prog,res:=[],pub:=[],loops:=[],quiet:=[],asm:=true }
def F49 (event:Int) (opts:Int) (input:Int) (now:Int) (H:Heap) (K:Value → Heap → Prop):Prop:=K (.agg #[.int .i64 event,.int .i64 opts,.int .i64 input,.int .i64 now,.int .i64 1,.int .i64 1,.int .i64 now,.int .i64 0,.int .i64 0,.int .i64 0]) H

theorem v49 {event:Int} {opts:Int} {input:Int} {now:Int} {H:Heap} {K:Value → Heap → Prop} (h:F49 event opts input now H K):Tr Tryz.prog 49 #[.int .i64 event,.int .i64 opts,.int .i64 input,.int .i64 now] H K :=
  tr_of_eq (C:=c49) Tryz.func49 (show vcFn c49 Tryz.f49 [.int .i64 event,.int .i64 opts,.int .i64 input,.int .i64 now] H K = F49 event opts input now H K by kernel_rfl) h
noncomputable def c14:Cx:={ P:=Tryz.prog,res:=[],pub:=[],loops:=[⟨4,[(5,.int .i64)],[4,127,128,129,130,131,132,133,134,135,136,137,138,139,140,141,142,143,144],[]⟩,⟨9,[(6,.int .i64)],[4,145,146,147,148,149,150,151,152,153,154,155,156,157,158,159,160,161,162],[]⟩,⟨14,[(7,.int .i64)],[4,163,164,165,166,167,168,169,170,171,172,173,174,175,176,177,178,179,180],[]⟩,⟨19,[(8,.int .i64)],[4,181,182,183,184,185,186,187,188,189,190,191,192,193,194,195,196,197,198],[]⟩],quiet:=[45],asm:=true }
def F14 (aNumber:Int) (aType:Int) (aStatus:Int) (aId:ByteArray) (aBegun:Int) (aEnded:Int) (aDeadline:Int) (aParent:Int) (aEvent:Int) (aSeen:Int) (aValue:Int) (aAttrs0:Int) (aAttrs1:Int) (aAttrs2:Int) (aAttrs3:Int) (aEventsA:Option Addr) (aEventsn aEventsc:Nat) (aActsA:Option Addr) (aActsn aActsc:Nat) (aTimersA:Option Addr) (aTimersn aTimersc:Nat) (aKidsA:Option Addr) (aKidsn aKidsc:Nat) (aUpdatesA:Option Addr) (aUpdatesn aUpdatesc:Nat) (bNumber:Int) (bType:Int) (bStatus:Int) (bId:ByteArray) (bBegun:Int) (bEnded:Int) (bDeadline:Int) (bParent:Int) (bEvent:Int) (bSeen:Int) (bValue:Int) (bAttrs0:Int) (bAttrs1:Int) (bAttrs2:Int) (bAttrs3:Int) (bEventsA:Option Addr) (bEventsn bEventsc:Nat) (bActsA:Option Addr) (bActsn bActsc:Nat) (bTimersA:Option Addr) (bTimersn bTimersc:Nat) (bKidsA:Option Addr) (bKidsn bKidsc:Nat) (bUpdatesA:Option Addr) (bUpdatesn bUpdatesc:Nat) (H:Heap) (K:Value → Heap → Prop):Prop:=((aNumber != bNumber || aType != bType || aStatus != bStatus || !beqS aId bId || aBegun != bBegun || aEnded != bEnded || aDeadline != bDeadline || aParent != bParent || aEvent != bEvent || aSeen != bSeen || aValue != bValue || !(aAttrs0 == bAttrs0 && (aAttrs1 == bAttrs1 && (aAttrs2 == bAttrs2 && (aAttrs3 == bAttrs3 && true)))) || (↑aActsn:Int) != (↑bActsn:Int) || (↑aTimersn:Int) != (↑bTimersn:Int) || (↑aKidsn:Int) != (↑bKidsn:Int) || (↑aUpdatesn:Int) != (↑bUpdatesn:Int)) = true → K (.bool false) H) ∧
 ((aNumber != bNumber || aType != bType || aStatus != bStatus || !beqS aId bId || aBegun != bBegun || aEnded != bEnded || aDeadline != bDeadline || aParent != bParent || aEvent != bEvent || aSeen != bSeen || aValue != bValue || !(aAttrs0 == bAttrs0 && (aAttrs1 == bAttrs1 && (aAttrs2 == bAttrs2 && (aAttrs3 == bAttrs3 && true)))) || (↑aActsn:Int) != (↑bActsn:Int) || (↑aTimersn:Int) != (↑bTimersn:Int) || (↑aKidsn:Int) != (↑bKidsn:Int) || (↑aUpdatesn:Int) != (↑bUpdatesn:Int)) = false →
 ∃ (Rel:Int → Heap → Prop) (mu:Int → Heap → Nat),
 Rel (0:Int) H ∧
 ∀ (x:Int) (H1:Heap),Rel x H1 → (decide (x < (↑aActsn:Int)) = true →
 ∃ (a:Addr),
 (aActsA = some a ∧
 (0:Int) ≤ x ∧
 x < (↑aActsn:Int)) ∧
 ∃ (x1 x2 x3 x4 x5 x6 x7 x8 x9 x10:Int),
 At H1 (a.add (x.toNat * nat_lit 10)) [.int .i64 x1,.int .i64 x2,.int .i64 x3,.int .i64 x4,.int .i64 x5,.int .i64 x6,.int .i64 x7,.int .i64 x8,.int .i64 x9,.int .i64 x10] ∧
 ∃ (a1:Addr),
 (bActsA = some a1 ∧
 (0:Int) ≤ x ∧
 x < (↑bActsn:Int)) ∧
 ∃ (x11 x12 x13 x14 x15 x16 x17 x18 x19 x20:Int),
 At H1 (a1.add (x.toNat * nat_lit 10)) [.int .i64 x11,.int .i64 x12,.int .i64 x13,.int .i64 x14,.int .i64 x15,.int .i64 x16,.int .i64 x17,.int .i64 x18,.int .i64 x19,.int .i64 x20] ∧
 ((!(x1 == x11 && (x2 == x12 && (x3 == x13 && (x4 == x14 && (x5 == x15 && (x6 == x16 && (x7 == x17 && (x8 == x18 && (x9 == x19 && (x10 == x20 && true))))))))))) = true → K (.bool false) H1) ∧
 ((!(x1 == x11 && (x2 == x12 && (x3 == x13 && (x4 == x14 && (x5 == x15 && (x6 == x16 && (x7 == x17 && (x8 == x18 && (x9 == x19 && (x10 == x20 && true))))))))))) = false → Rel (IntKind.i64.wrap (x + 1)) H1 ∧
 mu (IntKind.i64.wrap (x + 1)) H1 < mu x H1)) ∧
 (decide (x < (↑aActsn:Int)) = false →
 ∃ (Rel1:Int → Heap → Prop) (mu1:Int → Heap → Nat),
 Rel1 (0:Int) H1 ∧
 ∀ (x21:Int) (H2:Heap),Rel1 x21 H2 → (decide (x21 < (↑aTimersn:Int)) = true →
 ∃ (a2:Addr),
 (aTimersA = some a2 ∧
 (0:Int) ≤ x21 ∧
 x21 < (↑aTimersn:Int)) ∧
 ∃ (x22 x23:Int),
 At H2 (a2.add (x21.toNat * nat_lit 2)) [.int .i64 x22,.int .i64 x23] ∧
 ∃ (a3:Addr),
 (bTimersA = some a3 ∧
 (0:Int) ≤ x21 ∧
 x21 < (↑bTimersn:Int)) ∧
 ∃ (x24 x25:Int),
 At H2 (a3.add (x21.toNat * nat_lit 2)) [.int .i64 x24,.int .i64 x25] ∧
 ((!(x22 == x24 && (x23 == x25 && true))) = true → K (.bool false) H2) ∧
 ((!(x22 == x24 && (x23 == x25 && true))) = false → Rel1 (IntKind.i64.wrap (x21 + 1)) H2 ∧
 mu1 (IntKind.i64.wrap (x21 + 1)) H2 < mu1 x21 H2)) ∧
 (decide (x21 < (↑aTimersn:Int)) = false →
 ∃ (Rel2:Int → Heap → Prop) (mu2:Int → Heap → Nat),
 Rel2 (0:Int) H2 ∧
 ∀ (x26:Int) (H3:Heap),Rel2 x26 H3 → (decide (x26 < (↑aKidsn:Int)) = true →
 ∃ (a4:Addr),
 (aKidsA = some a4 ∧
 (0:Int) ≤ x26 ∧
 x26 < (↑aKidsn:Int)) ∧
 ∃ (x27 x28 x29 x30:Int) (b:Bool),
 At H3 (a4.add (x26.toNat * nat_lit 5)) [.int .i64 x27,.int .i64 x28,.int .i64 x29,.int .i64 x30,.bool b] ∧
 ∃ (a5:Addr),
 (bKidsA = some a5 ∧
 (0:Int) ≤ x26 ∧
 x26 < (↑bKidsn:Int)) ∧
 ∃ (x31 x32 x33 x34:Int) (b1:Bool),
 At H3 (a5.add (x26.toNat * nat_lit 5)) [.int .i64 x31,.int .i64 x32,.int .i64 x33,.int .i64 x34,.bool b1] ∧
 ((!(x27 == x31 && (x28 == x32 && (x29 == x33 && (x30 == x34 && (b == b1 && true)))))) = true → K (.bool false) H3) ∧
 ((!(x27 == x31 && (x28 == x32 && (x29 == x33 && (x30 == x34 && (b == b1 && true)))))) = false → Rel2 (IntKind.i64.wrap (x26 + 1)) H3 ∧
 mu2 (IntKind.i64.wrap (x26 + 1)) H3 < mu2 x26 H3)) ∧
 (decide (x26 < (↑aKidsn:Int)) = false →
 ∃ (Rel3:Int → Heap → Prop) (mu3:Int → Heap → Nat),
 Rel3 (0:Int) H3 ∧
 ∀ (x35:Int) (H4:Heap),Rel3 x35 H4 → (decide (x35 < (↑aUpdatesn:Int)) = true →
 ∃ (a6:Addr),
 (aUpdatesA = some a6 ∧
 (0:Int) ≤ x35 ∧
 x35 < (↑aUpdatesn:Int)) ∧
 ∃ (x36 x37 x38 x39:Int),
 At H4 (a6.add (x35.toNat * nat_lit 4)) [.int .i64 x36,.int .i64 x37,.int .i64 x38,.int .i64 x39] ∧
 ∃ (a7:Addr),
 (bUpdatesA = some a7 ∧
 (0:Int) ≤ x35 ∧
 x35 < (↑bUpdatesn:Int)) ∧
 ∃ (x40 x41 x42 x43:Int),
 At H4 (a7.add (x35.toNat * nat_lit 4)) [.int .i64 x40,.int .i64 x41,.int .i64 x42,.int .i64 x43] ∧
 ((!(x36 == x40 && (x37 == x41 && (x38 == x42 && (x39 == x43 && true))))) = true → K (.bool false) H4) ∧
 ((!(x36 == x40 && (x37 == x41 && (x38 == x42 && (x39 == x43 && true))))) = false → Rel3 (IntKind.i64.wrap (x35 + 1)) H4 ∧
 mu3 (IntKind.i64.wrap (x35 + 1)) H4 < mu3 x35 H4)) ∧
 (decide (x35 < (↑aUpdatesn:Int)) = false →
 ∃ (b2:Bool),
 (Tr Tryz.prog (45:Nat) #[.slice aEventsA aEventsn aEventsc,.slice bEventsA bEventsn bEventsc] H4 fun v H'=>v = .bool b2 ∧
 Ax.Sub H4 H') ∧
 K (.bool b2) H4)))))

theorem v14 {aNumber:Int} {aType:Int} {aStatus:Int} {aId:ByteArray} {aBegun:Int} {aEnded:Int} {aDeadline:Int} {aParent:Int} {aEvent:Int} {aSeen:Int} {aValue:Int} {aAttrs0:Int} {aAttrs1:Int} {aAttrs2:Int} {aAttrs3:Int} {aEventsA:Option Addr} {aEventsn aEventsc:Nat} {aActsA:Option Addr} {aActsn aActsc:Nat} {aTimersA:Option Addr} {aTimersn aTimersc:Nat} {aKidsA:Option Addr} {aKidsn aKidsc:Nat} {aUpdatesA:Option Addr} {aUpdatesn aUpdatesc:Nat} {bNumber:Int} {bType:Int} {bStatus:Int} {bId:ByteArray} {bBegun:Int} {bEnded:Int} {bDeadline:Int} {bParent:Int} {bEvent:Int} {bSeen:Int} {bValue:Int} {bAttrs0:Int} {bAttrs1:Int} {bAttrs2:Int} {bAttrs3:Int} {bEventsA:Option Addr} {bEventsn bEventsc:Nat} {bActsA:Option Addr} {bActsn bActsc:Nat} {bTimersA:Option Addr} {bTimersn bTimersc:Nat} {bKidsA:Option Addr} {bKidsn bKidsc:Nat} {bUpdatesA:Option Addr} {bUpdatesn bUpdatesc:Nat} {H:Heap} {K:Value → Heap → Prop} (h:F14 aNumber aType aStatus aId aBegun aEnded aDeadline aParent aEvent aSeen aValue aAttrs0 aAttrs1 aAttrs2 aAttrs3 aEventsA aEventsn aEventsc aActsA aActsn aActsc aTimersA aTimersn aTimersc aKidsA aKidsn aKidsc aUpdatesA aUpdatesn aUpdatesc bNumber bType bStatus bId bBegun bEnded bDeadline bParent bEvent bSeen bValue bAttrs0 bAttrs1 bAttrs2 bAttrs3 bEventsA bEventsn bEventsc bActsA bActsn bActsc bTimersA bTimersn bTimersc bKidsA bKidsn bKidsc bUpdatesA bUpdatesn bUpdatesc H K):Tr Tryz.prog 14 #[.agg #[.int .i64 aNumber,.int .i64 aType,.int .i64 aStatus,.string aId,.int .i64 aBegun,.int .i64 aEnded,.int .i64 aDeadline,.int .i64 aParent,.int .i64 aEvent,.int .i64 aSeen,.int .i64 aValue,.int .i64 aAttrs0,.int .i64 aAttrs1,.int .i64 aAttrs2,.int .i64 aAttrs3,.slice aEventsA aEventsn aEventsc,.slice aActsA aActsn aActsc,.slice aTimersA aTimersn aTimersc,.slice aKidsA aKidsn aKidsc,.slice aUpdatesA aUpdatesn aUpdatesc],.agg #[.int .i64 bNumber,.int .i64 bType,.int .i64 bStatus,.string bId,.int .i64 bBegun,.int .i64 bEnded,.int .i64 bDeadline,.int .i64 bParent,.int .i64 bEvent,.int .i64 bSeen,.int .i64 bValue,.int .i64 bAttrs0,.int .i64 bAttrs1,.int .i64 bAttrs2,.int .i64 bAttrs3,.slice bEventsA bEventsn bEventsc,.slice bActsA bActsn bActsc,.slice bTimersA bTimersn bTimersc,.slice bKidsA bKidsn bKidsc,.slice bUpdatesA bUpdatesn bUpdatesc]] H K :=
  tr_of_eq (C:=c14) Tryz.func14 (show vcFn c14 Tryz.f14 [.agg #[.int .i64 aNumber,.int .i64 aType,.int .i64 aStatus,.string aId,.int .i64 aBegun,.int .i64 aEnded,.int .i64 aDeadline,.int .i64 aParent,.int .i64 aEvent,.int .i64 aSeen,.int .i64 aValue,.int .i64 aAttrs0,.int .i64 aAttrs1,.int .i64 aAttrs2,.int .i64 aAttrs3,.slice aEventsA aEventsn aEventsc,.slice aActsA aActsn aActsc,.slice aTimersA aTimersn aTimersc,.slice aKidsA aKidsn aKidsc,.slice aUpdatesA aUpdatesn aUpdatesc],.agg #[.int .i64 bNumber,.int .i64 bType,.int .i64 bStatus,.string bId,.int .i64 bBegun,.int .i64 bEnded,.int .i64 bDeadline,.int .i64 bParent,.int .i64 bEvent,.int .i64 bSeen,.int .i64 bValue,.int .i64 bAttrs0,.int .i64 bAttrs1,.int .i64 bAttrs2,.int .i64 bAttrs3,.slice bEventsA bEventsn bEventsc,.slice bActsA bActsn bActsc,.slice bTimersA bTimersn bTimersc,.slice bKidsA bKidsn bKidsc,.slice bUpdatesA bUpdatesn bUpdatesc]] H K = F14 aNumber aType aStatus aId aBegun aEnded aDeadline aParent aEvent aSeen aValue aAttrs0 aAttrs1 aAttrs2 aAttrs3 aEventsA aEventsn aEventsc aActsA aActsn aActsc aTimersA aTimersn aTimersc aKidsA aKidsn aKidsc aUpdatesA aUpdatesn aUpdatesc bNumber bType bStatus bId bBegun bEnded bDeadline bParent bEvent bSeen bValue bAttrs0 bAttrs1 bAttrs2 bAttrs3 bEventsA bEventsn bEventsc bActsA bActsn bActsc bTimersA bTimersn bTimersc bKidsA bKidsn bKidsc bUpdatesA bUpdatesn bUpdatesc H K by kernel_rfl) h
noncomputable def c4:Cx:={ P:=Tryz.prog,res:=[],pub:=[],loops:=[],quiet:=[9,13,14],draws:=[⟨7,[0],[],false,true⟩],asm:=true }
def F4 (number:Int) (id:ByteArray) (hA:Option Addr) (hn hc:Nat) (H:Heap) (K:Value → Heap → Prop):Prop :=
 ∃ (b:Bool),
 (Tr Tryz.prog (9:Nat) #[] H fun v H'=>v = .bool b ∧
 Ax.Sub H H') ∧
 Tr Tryz.prog (12:Nat) #[.int .i64 number,.string id,.slice hA hn hc] H fun v1 H'1 =>
 ∃ (x x1 x2:Int) (s:ByteArray) (x3 x4 x5 x6 x7 x8 x9 x10 x11 x12 x13:Int) (A:Option Addr) (n c:Nat) (A1:Option Addr) (n1 c1:Nat) (A2:Option Addr) (n2 c2:Nat) (A3:Option Addr) (n3 c3:Nat) (A4:Option Addr) (n4 c4:Nat) (x14:Int),
 v1 = .tuple #[.agg #[.int .i64 x,.int .i64 x1,.int .i64 x2,.string s,.int .i64 x3,.int .i64 x4,.int .i64 x5,.int .i64 x6,.int .i64 x7,.int .i64 x8,.int .i64 x9,.int .i64 x10,.int .i64 x11,.int .i64 x12,.int .i64 x13,.slice A n c,.slice A1 n1 c1,.slice A2 n2 c2,.slice A3 n3 c3,.slice A4 n4 c4],.int .i64 x14] ∧
 ∃ (x15:Int),
 (Tr Tryz.prog (13:Nat) #[.slice hA hn hc] H'1 fun v2 H'2=>v2 = .int .i64 x15 ∧
 Ax.Sub H'1 H'2) ∧
 ((x15 != 0) = true →
 ∃ (b1:Bool),
 (Tr Tryz.prog (14:Nat) #[.agg #[.int .i64 x,.int .i64 x1,.int .i64 x2,.string s,.int .i64 x3,.int .i64 x4,.int .i64 x5,.int .i64 x6,.int .i64 x7,.int .i64 x8,.int .i64 x9,.int .i64 x10,.int .i64 x11,.int .i64 x12,.int .i64 x13,.slice A n c,.slice A1 n1 c1,.slice A2 n2 c2,.slice A3 n3 c3,.slice A4 n4 c4],.agg #[.int .i64 0,.int .i64 0,.int .i64 0,.string ({ data:=#[] }:ByteArray),.int .i64 0,.int .i64 0,.int .i64 0,.int .i64 0,.int .i64 0,.int .i64 0,.int .i64 0,.int .i64 0,.int .i64 0,.int .i64 0,.int .i64 0,.slice none (0:Nat) (0:Nat),.slice none (0:Nat) (0:Nat),.slice none (0:Nat) (0:Nat),.slice none (0:Nat) (0:Nat),.slice none (0:Nat) (0:Nat)]] H'1 fun v3 H'3=>v3 = .bool b1 ∧
 Ax.Sub H'1 H'3) ∧
 K (.bool (b && b1 && x14 == x15)) H'1) ∧
 ((x15 != 0) = false → Tr Tryz.prog (15:Nat) #[.int .i64 number,.string id,.slice hA hn hc] H'1 fun v4 H'4 =>
 ∃ (x16 x17 x18:Int) (s1:ByteArray) (x19 x20 x21 x22 x23 x24 x25 x26 x27 x28 x29:Int) (A5:Option Addr) (n5 c5:Nat) (A6:Option Addr) (n6 c6:Nat) (A7:Option Addr) (n7 c7:Nat) (A8:Option Addr) (n8 c8:Nat) (A9:Option Addr) (n9 c9:Nat),
 v4 = .agg #[.int .i64 x16,.int .i64 x17,.int .i64 x18,.string s1,.int .i64 x19,.int .i64 x20,.int .i64 x21,.int .i64 x22,.int .i64 x23,.int .i64 x24,.int .i64 x25,.int .i64 x26,.int .i64 x27,.int .i64 x28,.int .i64 x29,.slice A5 n5 c5,.slice A6 n6 c6,.slice A7 n7 c7,.slice A8 n8 c8,.slice A9 n9 c9] ∧
 ∃ (b2:Bool),
 (Tr Tryz.prog (14:Nat) #[.agg #[.int .i64 x,.int .i64 x1,.int .i64 x2,.string s,.int .i64 x3,.int .i64 x4,.int .i64 x5,.int .i64 x6,.int .i64 x7,.int .i64 x8,.int .i64 x9,.int .i64 x10,.int .i64 x11,.int .i64 x12,.int .i64 x13,.slice A n c,.slice A1 n1 c1,.slice A2 n2 c2,.slice A3 n3 c3,.slice A4 n4 c4],.agg #[.int .i64 x16,.int .i64 x17,.int .i64 x18,.string s1,.int .i64 x19,.int .i64 x20,.int .i64 x21,.int .i64 x22,.int .i64 x23,.int .i64 x24,.int .i64 x25,.int .i64 x26,.int .i64 x27,.int .i64 x28,.int .i64 x29,.slice A5 n5 c5,.slice A6 n6 c6,.slice A7 n7 c7,.slice A8 n8 c8,.slice A9 n9 c9]] H'4 fun v5 H'5=>v5 = .bool b2 ∧
 Ax.Sub H'4 H'5) ∧
 K (.bool (b && b2 && x14 == 0)) H'4)

theorem v4 {number:Int} {id:ByteArray} {hA:Option Addr} {hn hc:Nat} {H:Heap} {K:Value → Heap → Prop} (h:F4 number id hA hn hc H K):Tr Tryz.prog 4 #[.int .i64 number,.string id,.slice hA hn hc] H K :=
  tr_of_eq (C:=c4) Tryz.func4 (show vcFn c4 Tryz.f4 [.int .i64 number,.string id,.slice hA hn hc] H K = F4 number id hA hn hc H K by kernel_rfl) h
end Go.Proofs.YtkofafcgcnciaaaGreatDoor
set_option maxRecDepth 100000
namespace Go.Proofs.YtkofafcgcnciaaaGreatDoor
open Go.Ax
def nameF (id:Int) (ks:List Int) (p:Int × Int) (x:Ev):Int × Int:=(if (ks.contains x.kind && x.a == id) = true then p.2 else p.1,p.2 + 1)
def nameI (l:List Ev) (id:Int) (ks:List Int):Int:=(l.foldl (nameF id ks) (-1,0)).1
theorem nameF_len (id:Int) (ks:List Int):∀ (l:List Ev) (p:Int × Int),(l.foldl (nameF id ks) p).2 = p.2 + l.length
  | [],p=>by simp
  | x :: l,p=>by
    rw [List.foldl_cons,nameF_len id ks l,List.length_cons]
    unfold nameF; simp only; omega
theorem nameI_snoc (l:List Ev) (x:Ev) (id:Int) (ks:List Int):nameI (l ++ [x]) id ks = if (ks.contains x.kind && x.a == id) = true then (l.length:Int) else nameI l id ks:=by
  unfold nameI
  rw [List.foldl_append]
  have:=nameF_len id ks l (-1,0)
  rw [Int.zero_add] at this
  show (if _ then (l.foldl (nameF id ks) (-1,0)).2 else _) = _
  rw [this]
structure NmAt (l:List Ev) (id:Int) (ks:List Int):Prop where
  out:(nameI l id ks = -1 ∧ nameL l id ks = none) ∨ ∃ (j:Nat) (x:Ev),nameI l id ks = j ∧ l[j]? = some x ∧ nameL l id ks = some x ∧ ks.contains x.kind = true
theorem nameI_rev (id:Int) (ks:List Int):∀ r:List Ev,NmAt r.reverse id ks
  | []=>⟨.inl ⟨rfl,rfl⟩⟩
  | x :: r=>by
    rw [List.reverse_cons]
    refine ⟨?_⟩
    rw [nameI_snoc,nameL_snoc]
    by_cases q:(ks.contains x.kind && x.a == id) = true
    · rw [if_pos q,if_pos q]
      rw [Bool.and_eq_true] at q
      exact .inr ⟨r.reverse.length,x,rfl,by simp,rfl,q.1⟩
    · rw [if_neg q,if_neg q]
      rcases (nameI_rev id ks r).out with h | ⟨j,y,h1,h2,h3⟩
      · exact .inl h
      · exact .inr ⟨j,y,h1,by rw [List.getElem?_append_left (get_lt h2)]; exact h2,h3⟩
theorem nameI_at (l:List Ev) (id:Int) (ks:List Int):NmAt l id ks:=by
  have:=nameI_rev id ks l.reverse
  rwa [List.reverse_reverse] at this
structure RNa (l:List Ev) (id:Int) (ks:List Int) (H:Heap) (x y:Int) (H1:Heap):Prop where
  heap:H1 = H
  k:∃ m:Nat,y = m ∧ m ≤ l.length ∧ x = nameI (l.take m) id ks
theorem t48 {l : List Ev} (hb : l.length ≤ 100000000000000000) {H : Heap} {A : Option Addr} {n c : Nat} (h : HasEvs H A n l) (id : Int) {ks : List Int} (hks : ks ≠ []) (hkb : ks.length ≤ 9223372036854775807) {B : Option Addr} {n' c' : Nat} (hI : HasI H B n' ks) :
    Tr Tryz.prog 48 #[.slice A n c,.int .i64 id,.slice B n' c'] H (fun v H'=>v = .int .i64 (nameI l id ks) ∧ Sub H H'):=by
  have hn:=h.len; subst hn
  apply v48; unfold F48
  refine ⟨RNa l id ks H,fun _ i _=>(l.length - i).toNat,⟨rfl,0,rfl,by omega,rfl⟩,fun x i H1 r=>?_⟩
  have hH:=r.heap; subst hH
  obtain ⟨m,rfl,hm,hs⟩:=r.k
  refine ⟨fun hlt=>?_,fun hge=>⟨?_,Sub.refl _⟩⟩
  · have hlt:=of_decide_eq_true hlt
    obtain ⟨y,hy⟩:=get_some (l:=l) (i:=m) (by omega)
    obtain ⟨a,ha,hat⟩:=h.at_ m y hy
    have hh:hasM ks y.kind = ks.contains y.kind:=by
      unfold hasM
      cases ks with
      | nil=>exact absurd rfl hks
      | cons z l=>simp; omega
    have hsn:=nameI_snoc (l.take m) y id ks
    rw [← take_snoc hy,List.length_take,Nat.min_eq_left (by omega)] at hsn
    have hw:IntKind.i64.wrap ((m:Int) + 1) = (m:Int) + 1:=wrapi (by omega) (by omega)
    rw [hw]
    have dec:(l.length - ((m:Int) + 1)).toNat < (l.length - (m:Int)).toNat:=by omega
    refine ⟨a,⟨ha,by omega,by omega⟩,y.kind,at_one 2 hat rfl,_,t102 hkb hI y.kind,a,fun _=>⟨ha,by omega,by omega⟩,y.a,fun _=>at_one 3 hat rfl,fun he=>⟨⟨rfl,m + 1,by omega,by omega,?_⟩,dec⟩,fun he=>⟨⟨rfl,m + 1,by omega,by omega,?_⟩,dec⟩⟩
    · rw [hh] at he
      rw [hsn,if_pos he]
    · rw [hh] at he
      rw [hsn,if_neg (by rw [he]; decide),hs]
  · have hge:=of_decide_eq_false hge
    have:m = l.length:=by omega
    subst this
    rw [List.take_length] at hs
    rw [hs]
theorem t50 (kind:Int) (H:Heap):Tr Tryz.prog 50 #[.int .i64 kind] H (fun v H'=>v = .int .i64 (statusM kind) ∧ Sub H H'):=by
  apply v50; unfold F50
  have k:∀ {c:Int} {a b:Int},((kind == c) = true → statusM kind = a) → True:=fun _=>trivial
  unfold statusM
  refine ⟨fun e=>⟨by rw [if_pos (by simpa using e)],Sub.refl _⟩,fun e1=>⟨fun e=>⟨by rw [if_neg (by simpa using e1),if_pos (by simpa using e)],Sub.refl _⟩,fun e2=>⟨fun e=>⟨by rw [if_neg (by simpa using e1),if_neg (by simpa using e2),if_pos (by simpa using e)],Sub.refl _⟩,fun e3=>⟨fun e=>⟨by rw [if_neg (by simpa using e1),if_neg (by simpa using e2),if_neg (by simpa using e3),if_pos (by simpa using e)],Sub.refl _⟩,fun e4=>⟨fun e=>⟨by rw [if_neg (by simpa using e1),if_neg (by simpa using e2),if_neg (by simpa using e3),if_neg (by simpa using e4),if_pos (by simpa using e)],Sub.refl _⟩,fun e5=>⟨by rw [if_neg (by simpa using e1),if_neg (by simpa using e2),if_neg (by simpa using e3),if_neg (by simpa using e4),if_neg (by simpa using e5)],Sub.refl _⟩⟩⟩⟩⟩⟩
theorem t49 (event opts input now:Int) (H:Heap):Tr Tryz.prog 49 #[.int .i64 event,.int .i64 opts,.int .i64 input,.int .i64 now] H fun v H'=>v = .agg ⟨(AcM.new event opts input now).cells⟩ ∧ H' = H:=v49 (show _ from ⟨rfl,rfl⟩)
structure RSq (n:Nat) (H:Heap) (i:Int) (H1:Heap):Prop where
  heap:H1 = H
  k:∃ k:Nat,i = k ∧ k ≤ n
theorem RSq.step {n k:Nat} {H:Heap} (h:k < n) (hb:n ≤ 100000000000000000):RSq n H (IntKind.i64.wrap ((k:Int) + 1)) H ∧ ((n:Int) - IntKind.i64.wrap ((k:Int) + 1)).toNat < ((n:Int) - (k:Int)).toNat:=by
  rw [wrapi (by omega) (by omega)]
  exact ⟨⟨rfl,k + 1,by omega,by omega⟩,by omega⟩
theorem sl_n {H:Heap} {q:SlH} {α:Type} {cells:α → List Value} {sz:Nat} (hsz:∀ x,(cells x).length = sz) (h0:0 < sz) {l:List α} (h:SlOk H q sz (l.flatMap cells)):q.n = l.length:=by
  have:=h.len
  rw [flat_size hsz] at this
  exact (Nat.eq_of_mul_eq_mul_right h0 this).symm
structure RS.Lens (R:RS):Prop where
  e:R.events.length ≤ 1000000
  a:R.acts.length ≤ 1000000
  t:R.timers.length ≤ 1000000
  k:R.kids.length ≤ 1000000
  u:R.updates.length ≤ 1000000
theorem t14 {G G' H:Heap} {sl sl':Nat → SlH} {R:RS} (ha:RunL G H sl R) (hb:RunL G' H sl' R) (ln:R.Lens):Tr Tryz.prog 14 #[.agg ⟨rCells sl R⟩,.agg ⟨rCells sl' R⟩] H (fun v H'=>v = .bool true ∧ Sub H H'):=by
  have a0:=ha.ok 0 (by decide); have b0:=hb.ok 0 (by decide)
  have a1:=ha.ok 1 (by decide); have b1:=hb.ok 1 (by decide)
  have a2:=ha.ok 2 (by decide); have b2:=hb.ok 2 (by decide)
  have a3:=ha.ok 3 (by decide); have b3:=hb.ok 3 (by decide)
  have a4:=ha.ok 4 (by decide); have b4:=hb.ok 4 (by decide)
  have n1:(sl 1).n = R.acts.length:=sl_n (cells:=AcM.cells) (fun _=>rfl) (by decide) a1
  have m1:(sl' 1).n = R.acts.length:=sl_n (cells:=AcM.cells) (fun _=>rfl) (by decide) b1
  have n2:(sl 2).n = R.timers.length:=sl_n (cells:=TmM.cells) (fun _=>rfl) (by decide) a2
  have m2:(sl' 2).n = R.timers.length:=sl_n (cells:=TmM.cells) (fun _=>rfl) (by decide) b2
  have n3:(sl 3).n = R.kids.length:=sl_n (cells:=KdM.cells) (fun _=>rfl) (by decide) a3
  have m3:(sl' 3).n = R.kids.length:=sl_n (cells:=KdM.cells) (fun _=>rfl) (by decide) b3
  have n4:(sl 4).n = R.updates.length:=sl_n (cells:=UpM.cells) (fun _=>rfl) (by decide) a4
  have m4:(sl' 4).n = R.updates.length:=sl_n (cells:=UpM.cells) (fun _=>rfl) (by decide) b4
  obtain ⟨le,la,lt,lk,lu⟩:=ln
  apply v14; unfold F14
  refine ⟨fun e=>absurd e (by rw [n1,m1,n2,m2,n3,m3,n4,m4]; simp [beqS]),fun _=>⟨RSq R.acts.length H,fun x _=>((R.acts.length:Int) - x).toNat,⟨rfl,0,rfl,Nat.zero_le _⟩,fun x H1 r=>?_⟩⟩
  have hH:=r.heap; subst hH
  obtain ⟨k,rfl,hk⟩:=r.k
  refine ⟨fun hlt=>?_,fun _=>⟨RSq R.timers.length H1,fun x _=>((R.timers.length:Int) - x).toNat,⟨rfl,0,rfl,Nat.zero_le _⟩,fun x H2 r=>?_⟩⟩
  · have hlt:=of_decide_eq_true hlt
    rw [n1] at hlt
    obtain ⟨x,hx⟩:=get_some (l:=R.acts) (i:=k) (by omega)
    obtain ⟨a,ha',hat⟩:=src_elem (cells:=AcM.cells) (sz:=10) (fun _=>rfl) (by decide) a1.src k x hx
    obtain ⟨b,hb',hbt⟩:=src_elem (cells:=AcM.cells) (sz:=10) (fun _=>rfl) (by decide) b1.src k x hx
    exact ⟨a,⟨ha',by omega,by omega⟩,_,_,_,_,_,_,_,_,_,_,hat,b,⟨hb',by omega,by omega⟩,_,_,_,_,_,_,_,_,_,_,hbt,fun e=>absurd e (by simp),fun _=>RSq.step (by omega) (by omega)⟩
  have hH:=r.heap; subst hH
  obtain ⟨k,rfl,hk⟩:=r.k
  refine ⟨fun hlt=>?_,fun _=>⟨RSq R.kids.length H2,fun x _=>((R.kids.length:Int) - x).toNat,⟨rfl,0,rfl,Nat.zero_le _⟩,fun x H3 r=>?_⟩⟩
  · have hlt:=of_decide_eq_true hlt
    rw [n2] at hlt
    obtain ⟨x,hx⟩:=get_some (l:=R.timers) (i:=k) (by omega)
    obtain ⟨a,ha',hat⟩:=src_elem (cells:=TmM.cells) (sz:=2) (fun _=>rfl) (by decide) a2.src k x hx
    obtain ⟨b,hb',hbt⟩:=src_elem (cells:=TmM.cells) (sz:=2) (fun _=>rfl) (by decide) b2.src k x hx
    exact ⟨a,⟨ha',by omega,by omega⟩,_,_,hat,b,⟨hb',by omega,by omega⟩,_,_,hbt,fun e=>absurd e (by simp),fun _=>RSq.step (by omega) (by omega)⟩
  have hH:=r.heap; subst hH
  obtain ⟨k,rfl,hk⟩:=r.k
  refine ⟨fun hlt=>?_,fun _=>⟨RSq R.updates.length H3,fun x _=>((R.updates.length:Int) - x).toNat,⟨rfl,0,rfl,Nat.zero_le _⟩,fun x H4 r=>?_⟩⟩
  · have hlt:=of_decide_eq_true hlt
    rw [n3] at hlt
    obtain ⟨x,hx⟩:=get_some (l:=R.kids) (i:=k) (by omega)
    obtain ⟨a,ha',hat⟩:=src_elem (cells:=KdM.cells) (sz:=5) (fun _=>rfl) (by decide) a3.src k x hx
    obtain ⟨b,hb',hbt⟩:=src_elem (cells:=KdM.cells) (sz:=5) (fun _=>rfl) (by decide) b3.src k x hx
    exact ⟨a,⟨ha',by omega,by omega⟩,_,_,_,_,_,hat,b,⟨hb',by omega,by omega⟩,_,_,_,_,_,hbt,fun e=>absurd e (by simp),fun _=>RSq.step (by omega) (by omega)⟩
  have hH:=r.heap; subst hH
  obtain ⟨k,rfl,hk⟩:=r.k
  refine ⟨fun hlt=>?_,fun _=>?_⟩
  · have hlt:=of_decide_eq_true hlt
    rw [n4] at hlt
    obtain ⟨x,hx⟩:=get_some (l:=R.updates) (i:=k) (by omega)
    obtain ⟨a,ha',hat⟩:=src_elem (cells:=UpM.cells) (sz:=4) (fun _=>rfl) (by decide) a4.src k x hx
    obtain ⟨b,hb',hbt⟩:=src_elem (cells:=UpM.cells) (sz:=4) (fun _=>rfl) (by decide) b4.src k x hx
    exact ⟨a,⟨ha',by omega,by omega⟩,_,_,_,_,hat,b,⟨hb',by omega,by omega⟩,_,_,_,_,hbt,fun e=>absurd e (by simp),fun _=>RSq.step (by omega) (by omega)⟩
  · exact ⟨_,t45 (l:=R.events) (m:=R.events) (by omega) (hand_evs a0) (hand_evs b0),congrArg Value.bool (sameM_iff.2 rfl),Sub.refl _⟩
end Go.Proofs.YtkofafcgcnciaaaGreatDoor
set_option maxRecDepth 100000
namespace Go.Proofs.YtkofafcgcnciaaaGreatDoor
open Go.Ax
def docK (number:Int) (id:ByteArray) (h:List Ev) (k:Nat):RS :=
  { number:=number,id:=id,type:=(headP h).a,deadline:=(headP h).c,parent:=(headP h).d,event:=(headP h).e,begun:=(headP h).time
    status:=1,value:=0,ended:=0,seen:=seenD (h.take k),attrs:=attrsD (h.take k),events:=h
    acts:=if closeM (lastP h).kind = true then [] else actsD h (h.take k)
    timers:=if closeM (lastP h).kind = true then [] else timersD h (h.take k)
    kids:=kidsD h (h.take k),updates:=updsD h (h.take k) }
def RS.saw (S:RS) (x:Ev):RS:={ S with seen:=seeD S.seen x }
def addK (h:List Ev) (x:Ev) (S:RS):RS :=
  { S with acts := S.acts ++ (if closeM (lastP h).kind = false ∧ x.kind = 3 ∧ nameL h x.id [6, 22, 23, 24] = none then [AcM.new x.id x.a x.b x.time] else [])
           timers:=S.timers ++ (if closeM (lastP h).kind = false ∧ x.kind = 4 ∧ nameL h x.id [7,25] = none then [⟨x.id,x.a⟩] else [])
           kids:=S.kids ++ (if x.kind = 5 then [kidD x (nameL h x.id [26]) (nameL h x.id [27,28])] else [])
           updates:=S.updates ++ (if x.kind = 21 then [updD x.id (nameL h x.id [12,13,14])] else [])
           attrs:=attrD S.attrs x }
theorem actsD_snoc (h l:List Ev) (x:Ev):actsD h (l ++ [x]) = actsD h l ++ (if x.kind = 3 ∧ nameL h x.id [6,22,23,24] = none then [AcM.new x.id x.a x.b x.time] else []):=by
  unfold actsD; rw [List.filterMap_append]; congr 1
  rw [List.filterMap_cons]
  split
  · rename_i q; split at q
    · cases q
    · rename_i q2; rw [if_neg q2]; rfl
  · rename_i q; split at q
    · rename_i q2; rw [if_pos q2]; cases q; rfl
    · cases q
theorem timersD_snoc (h l:List Ev) (x:Ev):timersD h (l ++ [x]) = timersD h l ++ (if x.kind = 4 ∧ nameL h x.id [7,25] = none then [⟨x.id,x.a⟩] else []):=by
  unfold timersD; rw [List.filterMap_append]; congr 1
  rw [List.filterMap_cons]
  split
  · rename_i q; split at q
    · cases q
    · rename_i q2; rw [if_neg q2]; rfl
  · rename_i q; split at q
    · rename_i q2; rw [if_pos q2]; cases q; rfl
    · cases q
theorem kidsD_snoc (h l:List Ev) (x:Ev):kidsD h (l ++ [x]) = kidsD h l ++ (if x.kind = 5 then [kidD x (nameL h x.id [26]) (nameL h x.id [27,28])] else []):=by
  unfold kidsD; rw [List.filterMap_append]; congr 1
  rw [List.filterMap_cons]
  split
  · rename_i q; split at q
    · cases q
    · rename_i q2; rw [if_neg q2]; rfl
  · rename_i q; split at q
    · rename_i q2; rw [if_pos q2]; cases q; rfl
    · cases q
theorem updsD_snoc (h l:List Ev) (x:Ev):updsD h (l ++ [x]) = updsD h l ++ (if x.kind = 21 then [updD x.id (nameL h x.id [12,13,14])] else []):=by
  unfold updsD; rw [List.filterMap_append]; congr 1
  rw [List.filterMap_cons]
  split
  · rename_i q; split at q
    · cases q
    · rename_i q2; rw [if_neg q2]; rfl
  · rename_i q; split at q
    · rename_i q2; rw [if_pos q2]; cases q; rfl
    · cases q
theorem docK_succ (number:Int) (id:ByteArray) {h:List Ev} {k:Nat} {x:Ev} (hx:h[k]? = some x):docK number id h (k + 1) = addK h x ((docK number id h k).saw x):=by
  unfold docK addK RS.saw
  rw [take_snoc hx,actsD_snoc,timersD_snoc,kidsD_snoc,updsD_snoc]
  have e1:seenD (h.take k ++ [x]) = seeD (seenD (h.take k)) x:=by unfold seenD; rw [List.foldl_append]; rfl
  have e2:attrsD (h.take k ++ [x]) = attrD (attrsD (h.take k)) x:=by unfold attrsD; rw [List.foldl_append]; rfl
  rw [e1,e2]
  cases closeM (lastP h).kind <;> simp
theorem docK_all (number:Int) (id:ByteArray) (h:List Ev):docR number id h = if closeM (lastP h).kind = true then { docK number id h h.length with status:=statusM (lastP h).kind,value:=(lastP h).a,ended:=(lastP h).time } else docK number id h h.length:=by
  unfold docR docK
  rw [List.take_length]
  cases closeM (lastP h).kind <;> simp
theorem docK_zero (number:Int) (id:ByteArray) (h:List Ev):docK number id h 0 = { docK number id h 0 with seen:=0,attrs:=[0,0,0,0],acts:=[],timers:=[],kids:=[],updates:=[] }:=by
  unfold docK
  rw [List.take_zero]
  cases closeM (lastP h).kind <;> rfl
structure DocLen (S:RS) (k:Nat):Prop where
  a:S.acts.length ≤ k
  t:S.timers.length ≤ k
  c:S.kids.length ≤ k
  u:S.updates.length ≤ k
theorem docK_len (number:Int) (id:ByteArray) (h:List Ev) (k:Nat):DocLen (docK number id h k) k:=by
  have f:∀ {β:Type} (g:Ev → Option β),((h.take k).filterMap g).length ≤ k:=fun g=>Nat.le_trans (List.length_filterMap_le g _) (by rw [List.length_take]; omega)
  unfold docK
  refine ⟨?_,?_,f _,f _⟩
  · show (if _ then _ else _:List AcM).length ≤ k
    split
    · exact Nat.zero_le _
    · exact f _
  · show (if _ then _ else _:List TmM).length ≤ k
    split
    · exact Nat.zero_le _
    · exact f _
section
variable {G H:Heap} {b:Nat} {sl:Nat → SlH} {R:RS}
theorem RunX.push3 (h : RunX G H b sl R) {c : Nat} (hc : c < 5) {T : TypeId} {bytes : Nat} {new : List Value} (hk : new.length = szR c) (h1 : allOne new = true) (hb : ((sl c).n + 1) * bytes ≤ 140737488355328) (hl : (sl c).n + 1 ≤ 9223372036854775807) (R' : RS)
    (e:∀ hn:SlH,(rCells sl R).set (15 + c) hn.v = rCells (setH sl c hn) R') (e0:contR R' c = contR R c ++ new) (ec:∀ c',c' < 5 → c' ≠ c → contR R' c' = contR R c') (ea:R'.attrs.length = 4) {Q:Heap → Prop} (q:∀ H',RunE G H' b R' → Q H') :
    appC T (szR c) bytes H (sl c).A (sl c).n (sl c).c new 1 fun A' n' c' H'=>Sub G H' ∧ Wr H' ((⟨b,0,none⟩:Addr).add (15 + c)) (.slice A' n' c') fun H''=>Sub G H'' ∧ Q H'' :=
  h.app hc (by rw [hk,Nat.one_mul]) h1 hb hl fun _ _ _ h' r=>⟨h'.gh,h'.wrSl hc r (by omega) R' (e _) e0 ec ea fun _ h''=>⟨h''.gh,q _ h''.e⟩⟩
theorem RunX.push2 (h : RunX G H b sl R) {c : Nat} (hc : c < 5) {T : TypeId} {bytes : Nat} {new : List Value} (hk : new.length = szR c) (h1 : allOne new = true) (hb : ((sl c).n + 1) * bytes ≤ 140737488355328) (hl : (sl c).n + 1 ≤ 9223372036854775807) (R' : RS)
    (e:∀ hn:SlH,(rCells sl R).set (15 + c) hn.v = rCells (setH sl c hn) R') (e0:contR R' c = contR R c ++ new) (ec:∀ c',c' < 5 → c' ≠ c → contR R' c' = contR R c') (ea:R'.attrs.length = 4) {Q:Heap → Prop} (q:∀ H',RunE G H' b R' → Q H') :
    appC T (szR c) bytes H (sl c).A (sl c).n (sl c).c new 1 fun A' n' c' H'=>Wr H' ((⟨b,0,none⟩:Addr).add (15 + c)) (.slice A' n' c') Q :=
  h.app hc (by rw [hk,Nat.one_mul]) h1 hb hl fun _ _ _ h' r=>h'.wrSl hc r (by omega) R' (e _) e0 ec ea fun _ h''=>q _ h''.e
end
structure RFo (G:Heap) (b:Nat) (number:Int) (id:ByteArray) (l:List Ev) (x:Int) (H1:Heap):Prop where
  out:∃ k:Nat,x = k ∧ k ≤ l.length ∧ RunE G H1 b (docK number id l k)
theorem empty_l (H:Heap) {R:RS} (e0:R.events = []) (e1:R.acts = []) (e2:R.timers = []) (e3:R.kids = []) (e4:R.updates = []) (ea:R.attrs.length = 4):RunL H H slNil R :=
  ⟨Sub.refl _,fun c hc i hi=>(by cases hi),fun c c' i _ _ hi=>(by cases hi),five (P:=fun c=>SlOk H (slNil c) (szR c) (contR R c)) (by show SlOk _ _ _ (R.events.flatMap _); rw [e0]; exact (Hand.nil (Sub.refl H) 9).sl) (by show SlOk _ _ _ (R.acts.flatMap _); rw [e1]; exact (Hand.nil (Sub.refl H) 10).sl) (by show SlOk _ _ _ (R.timers.flatMap _); rw [e2]; exact (Hand.nil (Sub.refl H) 2).sl) (by show SlOk _ _ _ (R.kids.flatMap _); rw [e3]; exact (Hand.nil (Sub.refl H) 5).sl) (by show SlOk _ _ _ (R.updates.flatMap _); rw [e4]; exact (Hand.nil (Sub.refl H) 4).sl),ea⟩
end Go.Proofs.YtkofafcgcnciaaaGreatDoor
set_option maxRecDepth 100000
namespace Go.Proofs.YtkofafcgcnciaaaGreatDoor
open Go.Ax
theorem nm_neg {l:List Ev} {id:Int} {ks:List Int} (q:nameI l id ks < 0):nameL l id ks = none:=by
  rcases (nameI_at l id ks).out with h | ⟨j,y,h1,_⟩
  · exact h.2
  · omega
theorem nm_pos {l:List Ev} {id:Int} {ks:List Int} (q:nameI l id ks ≥ 0):∃ (j:Nat) (x:Ev),nameI l id ks = j ∧ l[j]? = some x ∧ nameL l id ks = some x ∧ ks.contains x.kind = true:=by
  rcases (nameI_at l id ks).out with h | h
  · omega
  · exact h
theorem nm_some (l:List Ev) (id:Int) (ks:List Int):(nameL l id ks).isSome = decide (nameI l id ks ≥ 0):=by
  rcases (nameI_at l id ks).out with h | ⟨j,y,h1,_,h2,_⟩
  · rw [h.1,h.2]; rfl
  · rw [h1,h2,decide_eq_true (by omega)]; rfl
theorem t15 (number : Int) (id : ByteArray) {l : List Ev} (hl : 0 < l.length) (hb : l.length ≤ 1000) (h10 : ∀ x ∈ l, x.kind = 10 → 0 ≤ x.a ∧ x.a < 4) {H : Heap} {A : Option Addr} {n c : Nat} (h : HasEvs H A n l) :
    Tr Tryz.prog 15 #[.int .i64 number,.string id,.slice A n c] H fun v H'=>NewR H (docR number id l) v H':=by
  have hn:=h.len; subst hn
  apply v15; unfold F15
  obtain ⟨e0,he0⟩:=get_some (l:=l) (i:=0) hl
  obtain ⟨a0,ha0,hat0⟩:=h.at_ 0 e0 he0
  obtain ⟨z,hz⟩:=get_some (l:=l) (i:=l.length - 1) (by omega)
  have hhead:headP l = e0:=by unfold headP; rw [List.head?_eq_getElem?,he0]; rfl
  have hlast:lastP l = z:=by unfold lastP; rw [List.getLast?_eq_getElem?,hz]; rfl
  have hk0:docK number id l 0 = ⟨number,e0.a,1,id,e0.time,0,e0.c,e0.d,e0.e,0,0,[0,0,0,0],l,[],[],[],[]⟩:=by rw [docK_zero]; unfold docK; rw [hhead]
  refine ⟨a0,⟨ha0,by omega,by omega⟩,_,_,_,_,_,_,_,_,_,hat0,fun b hb0 H1 e1=>?_⟩
  refine (empty_l H (R:=⟨number,e0.a,1,id,e0.time,0,e0.c,e0.d,e0.e,0,0,[0,0,0,0],[],[],[],[],[]⟩) rfl rfl rfl rfl rfl rfl).var hb0 (cur:=rCells slNil RS.zero) rfl e1 fun H2 x2=>?_
  have hfl:(l.flatMap Ev.cells).length = l.length * 9:=flat_size (cells:=Ev.cells) (sz:=9) (fun _=>rfl) l
  refine ⟨_,_,_,x2.cell (k:=15) rfl,⟨⟨l.flatMap Ev.cells,src_of (cells:=Ev.cells) (sz:=9) (fun _=>rfl) (h.sub x2.gh).at_,hfl,x2.app (c:=0) (by decide) hfl (evs_one l) (by show (0 + l.length) * 72 ≤ _; omega) (by show 0 + l.length ≤ _; omega) fun A' c' H3 x3 r3=>?_⟩⟩⟩
  refine x3.wrSl (c:=0) (by decide) r3 (k:=15) (by decide) (docK number id l 0) (by rw [hk0]; rfl) (by rw [hk0]; rfl) (five (P:=fun c'=>c' ≠ 0 → contR (docK number id l 0) c' = contR _ c') (fun q=>absurd rfl q) (fun _=>by rw [hk0]; rfl) (fun _=>by rw [hk0]; rfl) (fun _=>by rw [hk0]; rfl) (fun _=>by rw [hk0]; rfl)) (by rw [hk0]; rfl) fun H4 x4=>?_
  have hw:IntKind.i64.wrap ((l.length:Int) - 1) = (l.length:Int) - 1:=wrapi (by omega) (by omega)
  have hw2:((l.length:Int) - 1).toNat = l.length - 1:=by omega
  rw [hw,hw2]
  obtain ⟨a1,ha1,hat1⟩:=(h.sub x4.gh).at_ _ z hz
  refine ⟨a1,⟨ha1,by omega,by omega⟩,_,_,_,_,_,_,_,_,_,hat1,_,t46 z.kind H4,fun x _ _ _ _ _ _ _ _ _ H1=>RFo H b number id l x H1,fun x _ _ _ _ _ _ _ _ _ _=>((l.length:Int) - x).toNat,⟨0,rfl,Nat.zero_le _,x4.e⟩,fun x18 x19 x20 x21 x22 x23 x24 x25 x26 x27 H5 r=>?_⟩
  obtain ⟨k,rfl,hk,⟨sl5,x5⟩⟩:=r.out
  rw [← hlast]
  refine ⟨fun hlt=>?_,fun hge=>?_⟩
  · have hlt:=of_decide_eq_true hlt
    obtain ⟨x,hx⟩:=get_some (l:=l) (i:=k) (by omega)
    obtain ⟨a,ha,hat⟩:=(h.sub x5.gh).at_ k x hx
    have hw:IntKind.i64.wrap ((k:Int) + 1) = (k:Int) + 1:=wrapi (by omega) (by omega)
    rw [hw]
    have dec:((l.length:Int) - ((k:Int) + 1)).toNat < ((l.length:Int) - (k:Int)).toNat:=by omega
    have hs:=docK_succ number id hx
    have dl0:=docK_len number id l k
    have fin:∀ {H':Heap},RunE H H' b (addK l x ((docK number id l k).saw x)) → RFo H b number id l ((k:Int) + 1) H' ∧ ((l.length:Int) - ((k:Int) + 1)).toNat < ((l.length:Int) - (k:Int)).toNat:=fun r=>⟨⟨k + 1,by omega,by omega,by rw [hs]; exact r⟩,dec⟩
    refine ⟨a,⟨ha,by omega,by omega⟩,_,_,_,_,_,_,_,_,_,hat,_,t47 x.kind H5,fun H'=>RunE H H' b ((docK number id l k).saw x),⟨fun q=>?_,fun q=>?_⟩,fun H6 ⟨sl6,x6⟩=>?_⟩
    · have e:(docK number id l k).saw x = { docK number id l k with seen:=x.id }:=by unfold RS.saw seeD; rw [if_pos q]
      rw [e]
      exact x5.wr (k:=9) (by decide) { docK number id l k with seen:=x.id } rfl (fun _=>rfl) x5.attrs fun _ h'=>h'.e
    · have e:(docK number id l k).saw x = docK number id l k:=by unfold RS.saw seeD; rw [if_neg (by rw [q]; decide)]
      rw [e]
      exact x5.e
    have dl:DocLen ((docK number id l k).saw x) k:=⟨dl0.a,dl0.t,dl0.c,dl0.u⟩
    generalize (docK number id l k).saw x = S at x6 fin dl
    have n1:(sl6 1).n = S.acts.length:=sl_n (cells:=AcM.cells) (fun _=>rfl) (by decide) (x6.ok 1 (by decide))
    have n2:(sl6 2).n = S.timers.length:=sl_n (cells:=TmM.cells) (fun _=>rfl) (by decide) (x6.ok 2 (by decide))
    have n3:(sl6 3).n = S.kids.length:=sl_n (cells:=KdM.cells) (fun _=>rfl) (by decide) (x6.ok 3 (by decide))
    have n4:(sl6 4).n = S.updates.length:=sl_n (cells:=UpM.cells) (fun _=>rfl) (by decide) (x6.ok 4 (by decide))
    obtain ⟨d1,d2,d3,d4⟩:=dl
    have mk:∀ {H0:Heap} {i:Nat} {H7:Heap} {o:Obj},RunX H H0 b sl6 S → H0 i = none → H7 = H0.upd i o → RunX H H7 b sl6 S:=fun x0 hi e7=>by rw [e7]; exact (x0.ext hi _).weaken (Sub.upd_new (none_below x0.gh hi))
    refine ⟨fun q=>⟨fun q1 i hi H7 e7=>?_,fun q1=>?_⟩,fun m3=>⟨fun q=>⟨fun q1 i hi H7 e7=>?_,fun q1=>?_⟩,fun m4=>⟨fun q i hi H7 e7=>?_,fun m5=>⟨fun q=>?_,fun m10=>⟨fun q i hi H7 e7=>?_,fun m21=>?_⟩⟩⟩⟩⟩
    · -- an activity
      have kk:x.kind = 3:=by simpa using q
      have hc:closeM (lastP l).kind = false:=by simpa using q1
      have x7:=mk x6 hi e7
      refine ⟨_,t48 (by omega) (h.sub x7.gh) x.id (ks:=[6,22,23,24]) (by simp) (by decide) (by rw [e7]; exact hasI_new [6,22,23,24]),fun q2=>?_,fun q2=>?_⟩
      · have nn:=nm_neg (of_decide_eq_true q2)
        have he:addK l x S = { S with acts:=S.acts ++ [AcM.new x.id x.a x.b x.time] }:=by unfold addK attrD; simp [kk,hc,nn]
        have core:=x7.push3 (c:=1) (by decide) (T:=53) (bytes:=80) (new:=(AcM.new x.id x.a x.b x.time).cells) rfl rfl (by omega) (by omega) { S with acts:=S.acts ++ [AcM.new x.id x.a x.b x.time] } (fun _=>rfl) (by show (S.acts ++ [_]).flatMap AcM.cells = _; rw [List.flatMap_append,List.flatMap_singleton]; rfl) (five (P:=fun c'=>c' ≠ 1 → contR { S with acts:=S.acts ++ [AcM.new x.id x.a x.b x.time] } c' = contR S c') (fun _=>rfl) (fun q=>absurd rfl q) (fun _=>rfl) (fun _=>rfl) (fun _=>rfl)) x7.attrs
          (Q:=fun H'=>RFo H b number id l ((k:Int) + 1) H' ∧ ((l.length:Int) - ((k:Int) + 1)).toNat < ((l.length:Int) - (k:Int)).toNat) fun H' h'=>fin (by rw [he]; exact h')
        exact ⟨H,x7.gh,⟨_,_,_,x7.cell (k:=16) rfl,x7.gh,(t49 x.id x.a x.b x.time H7).mono fun v H8 ⟨hv,e8⟩=>by rw [e8]; exact ⟨_,_,_,_,_,_,_,_,_,_,hv,x7.gh,x7.gh,core⟩⟩,(t49 x.id x.a x.b x.time H7).mono fun v H8 ⟨hv,e8⟩=>by rw [e8]; exact ⟨_,_,_,_,_,_,_,_,_,_,hv,x7.gh,⟨_,_,_,x7.cell (k:=16) rfl,x7.gh,x7.gh,core⟩,x7.gh,_,_,_,x7.cell (k:=16) rfl,x7.gh,core⟩⟩
      · obtain ⟨j,y,_,_,ny,_⟩:=nm_pos (l:=l) (id:=x.id) (ks:=[6,22,23,24]) (by have:=of_decide_eq_false q2; omega)
        have he:addK l x S = S:=by unfold addK attrD; simp [kk,ny]
        exact fin (by rw [he]; exact x7.e)
    · have kk:x.kind = 3:=by simpa using q
      have hc:closeM (lastP l).kind = true:=by simpa using q1
      have he:addK l x S = S:=by unfold addK attrD; simp [kk,hc]
      exact fin (by rw [he]; exact x6.e)
    · -- a timer
      have kk:x.kind = 4:=by simpa using q
      have hc:closeM (lastP l).kind = false:=by simpa using q1
      have x7:=mk x6 hi e7
      refine ⟨_,t48 (by omega) (h.sub x7.gh) x.id (ks:=[7,25]) (by simp) (by decide) (by rw [e7]; exact hasI_new [7,25]),fun q2=>?_,fun q2=>?_⟩
      · have nn:=nm_neg (of_decide_eq_true q2)
        have he:addK l x S = { S with timers:=S.timers ++ [⟨x.id,x.a⟩] }:=by unfold addK attrD; simp [kk,hc,nn]
        exact ⟨_,_,_,x7.cell (k:=17) rfl,x7.push2 (c:=2) (by decide) (T:=83) (bytes:=16) (new:=(TmM.mk x.id x.a).cells) rfl rfl (by omega) (by omega) { S with timers:=S.timers ++ [⟨x.id,x.a⟩] } (fun _=>rfl) (by show (S.timers ++ [_]).flatMap TmM.cells = _; rw [List.flatMap_append,List.flatMap_singleton]; rfl) (five (P:=fun c'=>c' ≠ 2 → contR { S with timers:=S.timers ++ [⟨x.id,x.a⟩] } c' = contR S c') (fun _=>rfl) (fun _=>rfl) (fun q=>absurd rfl q) (fun _=>rfl) (fun _=>rfl)) x7.attrs
          fun H' h'=>fin (by rw [he]; exact h')⟩
      · obtain ⟨j,y,_,_,ny,_⟩:=nm_pos (l:=l) (id:=x.id) (ks:=[7,25]) (by have:=of_decide_eq_false q2; omega)
        have he:addK l x S = S:=by unfold addK attrD; simp [kk,ny]
        exact fin (by rw [he]; exact x7.e)
    · have kk:x.kind = 4:=by simpa using q
      have hc:closeM (lastP l).kind = true:=by simpa using q1
      have he:addK l x S = S:=by unfold addK attrD; simp [kk,hc]
      exact fin (by rw [he]; exact x6.e)
    · -- a child
      have kk:x.kind = 5:=by simpa using q
      have x7:=mk x6 hi e7
      have pk:∀ {i:Nat} {H8:Heap} {v:Int},valD (nameL l x.id [26]) = v → RunX H H8 b sl6 S → appC 98 5 40 H8 (sl6 3).A (sl6 3).n (sl6 3).c [.int .i64 x.id,.int .i64 x.a,.int .i64 x.b,.int .i64 v,.bool (decide (nameI l x.id [27,28] ≥ 0))] 1 fun A' n' c' H'=>Wr H' ((⟨b,0,none⟩:Addr).add (15 + 3)) (.slice A' n' c') fun H'=>RFo H b number id l ((k:Int) + 1) H' ∧ ((l.length:Int) - ((k:Int) + 1)).toNat < ((l.length:Int) - (k:Int)).toNat:=fun hv x8=>by
        have he:addK l x S = { S with kids:=S.kids ++ [⟨x.id,x.a,x.b,valD (nameL l x.id [26]),decide (nameI l x.id [27,28] ≥ 0)⟩] }:=by rw [← nm_some]; unfold addK attrD kidD; simp [kk]
        rw [← hv]
        exact x8.push2 (c:=3) (by decide) (T:=98) (bytes:=40) (new:=(KdM.mk x.id x.a x.b (valD (nameL l x.id [26])) (decide (nameI l x.id [27,28] ≥ 0))).cells) rfl rfl (by omega) (by omega) { S with kids:=S.kids ++ [⟨x.id,x.a,x.b,valD (nameL l x.id [26]),decide (nameI l x.id [27,28] ≥ 0)⟩] } (fun _=>rfl) (by show (S.kids ++ [_]).flatMap KdM.cells = _; rw [List.flatMap_append,List.flatMap_singleton]; rfl) (five (P:=fun c'=>c' ≠ 3 → contR { S with kids:=S.kids ++ [⟨x.id,x.a,x.b,valD (nameL l x.id [26]),decide (nameI l x.id [27,28] ≥ 0)⟩] } c' = contR S c') (fun _=>rfl) (fun _=>rfl) (fun _=>rfl) (fun q=>absurd rfl q) (fun _=>rfl)) x8.attrs
          fun H' h'=>fin (by rw [he]; exact h')
      refine ⟨_,t48 (by omega) (h.sub x7.gh) x.id (ks:=[26]) (by simp) (by decide) (by rw [e7]; exact hasI_new [26]),fun q2=>?_,fun q2 i2 hi2 H8 e8=>?_⟩
      · obtain ⟨j,y,hj,hy,ny,_⟩:=nm_pos (of_decide_eq_true q2)
        have hjl:=get_lt hy
        obtain ⟨ay,hay,haty⟩:=(h.sub x7.gh).at_ j y hy
        rw [hj]
        refine ⟨ay,⟨hay,by omega,by omega⟩,y.b,at_one 4 haty rfl,fun i2 hi2 H8 e8=>?_⟩
        have x8:=mk x7 hi2 e8
        exact ⟨_,t48 (by omega) (h.sub x8.gh) x.id (ks:=[27,28]) (by simp) (by decide) (by rw [e8]; exact hasI_new [27,28]),_,_,_,x8.cell (k:=18) rfl,pk (i:=0) (by rw [ny]; rfl) x8⟩
      · have nn:nameL l x.id [26] = none:=nm_neg (by have:=of_decide_eq_false q2; omega)
        have x8:=mk x7 hi2 e8
        exact ⟨_,t48 (by omega) (h.sub x8.gh) x.id (ks:=[27,28]) (by simp) (by decide) (by rw [e8]; exact hasI_new [27,28]),_,_,_,x8.cell (k:=18) rfl,pk (i:=0) (by rw [nn]; rfl) x8⟩
    · -- an attribute
      have kk:x.kind = 10:=by simpa using q
      obtain ⟨u1,u2⟩:=h10 x (List.mem_of_getElem? hx) kk
      have he:addK l x S = { S with attrs:=S.attrs.set x.a.toNat x.b }:=by unfold addK attrD; simp [kk]
      refine ⟨⟨u1,u2⟩,?_⟩
      have hx:((⟨b,0,none⟩:Addr).add 11).add (x.a.toNat * 1) = (⟨b,0,none⟩:Addr).add (11 + x.a.toNat):=by rw [Nat.mul_one]; exact add2 b 11 _
      show Wr H6 (((⟨b,0,none⟩:Addr).add 11).add (x.a.toNat * 1)) _ _
      rw [hx]
      refine x6.wr (k:=11 + x.a.toNat) (by omega) { S with attrs:=S.attrs.set x.a.toNat x.b } ?_ (fun _=>rfl) (by show (S.attrs.set _ _).length = 4; rw [List.length_set]; exact x6.attrs) fun H' h'=>fin (by rw [he]; exact h'.e)
      unfold rCells
      rw [List.set_append_left _ _ (by simp [cellsV]; omega),List.set_append_right _ _ (by simp),← cellsV_set x6.attrs (by omega)]
      simp
    · -- an update
      have kk:x.kind = 21:=by simpa using q
      have x7:=mk x6 hi e7
      have pu:∀ {u1 u2 u3 u4:Int},updD x.id (nameL l x.id [12,13,14]) = ⟨u1,u2,u3,u4⟩ → appC 107 4 32 H7 (sl6 4).A (sl6 4).n (sl6 4).c [.int .i64 u1,.int .i64 u2,.int .i64 u3,.int .i64 u4] 1 fun A' n' c' H'=>Wr H' ((⟨b,0,none⟩:Addr).add (15 + 4)) (.slice A' n' c') fun H'=>RFo H b number id l ((k:Int) + 1) H' ∧ ((l.length:Int) - ((k:Int) + 1)).toNat < ((l.length:Int) - (k:Int)).toNat:=fun {u1 u2 u3 u4} hu=>by
        have he:addK l x S = { S with updates:=S.updates ++ [⟨u1,u2,u3,u4⟩] }:=by rw [← hu]; unfold addK attrD; simp [kk]
        exact x7.push2 (c:=4) (by decide) (T:=107) (bytes:=32) (new:=(UpM.mk u1 u2 u3 u4).cells) rfl rfl (by omega) (by omega) { S with updates:=S.updates ++ [⟨u1,u2,u3,u4⟩] } (fun _=>rfl) (by show (S.updates ++ [_]).flatMap UpM.cells = _; rw [List.flatMap_append,List.flatMap_singleton]; rfl) (five (P:=fun c'=>c' ≠ 4 → contR { S with updates:=S.updates ++ [⟨u1,u2,u3,u4⟩] } c' = contR S c') (fun _=>rfl) (fun _=>rfl) (fun _=>rfl) (fun _=>rfl) (fun q=>absurd rfl q)) x7.attrs
          fun H' h'=>fin (by rw [he]; exact h')
      refine ⟨_,t48 (by omega) (h.sub x7.gh) x.id (ks:=[12,13,14]) (by simp) (by decide) (by rw [e7]; exact hasI_new [12,13,14]),fun q2=>?_,fun q2=>?_⟩
      · obtain ⟨j,y,hj,hy,ny,hky⟩:=nm_pos (of_decide_eq_true q2)
        have hjl:=get_lt hy
        obtain ⟨ay,hay,haty⟩:=(h.sub x7.gh).at_ j y hy
        have hky:y.kind = 12 ∨ y.kind = 13 ∨ y.kind = 14:=by simpa using hky
        have hwk:IntKind.i64.wrap (y.kind - 11) = y.kind - 11:=wrapi (by omega) (by omega)
        rw [hj]
        refine ⟨ay,⟨hay,by omega,by omega⟩,y.kind,at_one 2 haty rfl,ay,⟨hay,by omega,by omega⟩,y.b,at_one 4 haty rfl,?_⟩
        rw [hwk]
        refine ⟨fun q3=>⟨fun q4=>?_,fun q4=>?_⟩,fun q3=>⟨fun q4=>?_,fun q4=>?_⟩⟩
        · exact absurd ((show y.kind - 11 = 1 by simpa using q3).symm.trans (show y.kind - 11 = 3 by simpa using q4)) (by decide)
        · have k1 : y.kind = 12 := by have : y.kind - 11 = 1 := by simpa using q3
                                      omega
          exact ⟨_,_,_,x7.cell (k:=19) rfl,pu (by rw [ny]; unfold updD; simp [k1])⟩
        · have k1 : y.kind = 14 := by have : y.kind - 11 = 3 := by simpa using q4
                                      omega
          exact ⟨ay,⟨hay,by omega,by omega⟩,y.c,at_one 5 haty rfl,_,_,_,x7.cell (k:=19) rfl,pu (by rw [ny]; unfold updD; simp [k1])⟩
        · have k1 : y.kind = 13 := by
            have h1:¬ y.kind - 11 = 1:=by simpa using q3
            have h3:¬ y.kind - 11 = 3:=by simpa using q4
            omega
          exact ⟨_,_,_,x7.cell (k:=19) rfl,pu (by rw [ny]; unfold updD; simp [k1])⟩
      · have nn:nameL l x.id [12,13,14] = none:=nm_neg (by have:=of_decide_eq_false q2; omega)
        exact ⟨fun q3=>absurd q3 (by decide),fun _=>⟨fun q4=>absurd q4 (by decide),fun _=>⟨_,_,_,x7.cell (k:=19) rfl,pu (by rw [nn]; rfl)⟩⟩⟩
    · have he : addK l x S = S := by
        have m3:¬ x.kind = 3:=by simpa using m3
        have m4:¬ x.kind = 4:=by simpa using m4
        have m5:¬ x.kind = 5:=by simpa using m5
        have m10:¬ x.kind = 10:=by simpa using m10
        have m21:¬ x.kind = 21:=by simpa using m21
        unfold addK attrD; simp [m3,m4,m5,m10,m21]
      exact fin (by rw [he]; exact x6.e)
  · have hge:=of_decide_eq_false hge
    have:k = l.length:=by omega
    subst this
    have ha:=docK_all number id l
    refine ⟨fun q=>?_,fun q=>?_⟩
    · rw [if_pos q] at ha
      rw [ha]
      refine ⟨_,t50 (lastP l).kind H5,?_⟩
      refine x5.wr (k:=2) (by decide) { docK number id l l.length with status:=statusM (lastP l).kind } rfl (fun _=>rfl) x5.attrs fun H6 x6=>?_
      refine x6.wr (k:=10) (by decide) { docK number id l l.length with status:=statusM (lastP l).kind,value:=(lastP l).a } rfl (fun _=>rfl) x6.attrs fun H7 x7=>?_
      refine x7.wr (k:=5) (by decide) { docK number id l l.length with status:=statusM (lastP l).kind,value:=(lastP l).a,ended:=(lastP l).time } rfl (fun _=>rfl) x7.attrs fun H8 x8=>?_
      exact ⟨_,_,_,_,_,_,_,_,_,_,_,_,_,_,_,_,_,_,_,_,_,_,_,_,_,_,_,_,_,_,x8.at,⟨sl5,rfl,x8.l⟩⟩
    · rw [if_neg (by rw [q]; decide)] at ha
      rw [ha]
      exact ⟨_,_,_,_,_,_,_,_,_,_,_,_,_,_,_,_,_,_,_,_,_,_,_,_,_,_,_,_,_,_,x5.at,⟨sl5,rfl,x5.l⟩⟩
end Go.Proofs.YtkofafcgcnciaaaGreatDoor
set_option maxRecDepth 100000
namespace Go.Proofs.YtkofafcgcnciaaaGreatDoor
open Go.Ax
theorem valid_attr {x:Ev} (hv:validM x = true) (hk:x.kind = 10):0 ≤ x.a ∧ x.a < 4:=by
  unfold validM headOk at hv
  rw [hk] at hv
  simp [numOk,fieldsM,tabF,spanM] at hv
  omega
theorem valid_id {x:Ev} (hv:validM x = true):x.id ≤ 256:=by
  unfold validM headOk at hv
  simp only [Bool.and_eq_true,Bool.not_eq_true',Bool.or_eq_false_iff,decide_eq_false_iff_not] at hv
  omega
theorem gram_attr {l:List Ev} (g:Gram l):∀ x ∈ l,x.kind = 10 → 0 ≤ x.a ∧ x.a < 4:=fun x hx hk=>by
  obtain ⟨j,hj⟩:=List.getElem?_of_mem hx
  exact valid_attr (may_head (g j x hj)).1 hk
theorem gram_len {l:List Ev} (g:Gram l):l.length ≤ 256:=by
  rcases Nat.eq_zero_or_pos l.length with h | h
  · omega
  · obtain ⟨z,hz⟩:=get_some (l:=l) (i:=l.length - 1) (by omega)
    have m:=may_head (g _ z hz)
    have:=valid_id m.1
    have e:=m.2.1
    rw [List.length_take] at e
    omega
theorem tail_evs {H:Heap} {A:Option Addr} {x:Ev} {t:List Ev} {n c:Nat} (h:HasEvs H A n (x :: t)) (hc:n ≤ c):HasEvs H (if c = 1 then A else A.map fun a=>a.add (1 * 9)) t.length t :=
  ⟨rfl,fun i y hy=>by
    have hl:=get_lt hy
    have hn:=h.len
    rw [List.length_cons] at hn
    obtain ⟨a,ha,hat⟩:=h.at_ (i + 1) y (by simpa using hy)
    rw [if_neg (by omega),ha]
    refine ⟨a.add (1 * 9),rfl,?_⟩
    rw [add_add,show 1 * 9 + i * 9 = (i + 1) * 9 by omega]
    exact hat⟩
theorem RunL.grow {G H H':Heap} {sl:Nat → SlH} {R:RS} (h:RunL G H sl R) (s:Sub H H'):RunL G H' sl R:=⟨h.gh.trans s,h.own,h.inj,fun c hc=>(h.ok c hc).sub s,h.attrs⟩
def RS.folds (R:RS) (l:List Ev):RS:=l.foldl RS.book R
theorem RS.folds_snoc (R:RS) (l:List Ev) (e:Ev):R.folds (l ++ [e]) = (R.folds l).book e:=by unfold RS.folds; rw [List.foldl_append]; rfl
theorem RS.folds_le:∀ (l:List Ev) {R:RS},R.Le → (R.folds l).Le ∧ (R.folds l).events = R.events ++ l
  | [],R,h=>⟨h,by simp [RS.folds]⟩
  | e :: l,R,h=>by
    have:=RS.folds_le l (h.book e)
    rw [RS.book_events] at this
    refine ⟨this.1,?_⟩
    show (RS.folds (R.book e) l).events = _
    rw [this.2]; simp
theorem RS.new_le (number:Int) (id:ByteArray) (x:Ev):(RS.new number id x).Le:=RS.Le.book ⟨Nat.le_refl _,Nat.le_refl _,Nat.le_refl _,Nat.le_refl _⟩ _
theorem RS.new_ev (number:Int) (id:ByteArray) (x:Ev):(RS.new number id x).events.length = 1:=by unfold RS.new; rw [RS.book_events]; rfl
def RS.follow (number:Int) (id:ByteArray) (l:List Ev):RS × Int:=if stand l < l.length ∨ l = [] then (RS.zero,52) else ((RS.new number id (headP l)).folds (l.drop 1),0)
structure FlR (G:Heap) (z:RS × Int) (v:Value) (H':Heap):Prop where
  out:∃ sl,v = .tuple #[.agg ⟨rCells sl z.1⟩,.int .i64 z.2] ∧ RunL G H' sl z.1
theorem fl_none (H:Heap):RunL H H slNil RS.zero:=empty_l H rfl rfl rfl rfl rfl rfl
theorem t12 (number : Int) (id : ByteArray) {l : List Ev} (hb : l.length * 72 ≤ 140737488355328) {H : Heap} {A : Option Addr} {n c : Nat} (h : HasEvs H A n l) (hcap : n ≤ c) :
    Tr Tryz.prog 12 #[.int .i64 number,.string id,.slice A n c] H fun v H'=>FlR H (RS.follow number id l) v H':=by
  apply v12; unfold F12
  have gc:=t36 (c:=c) hb h
  rcases check_one (l:=l) with ⟨cv,hs⟩ | ⟨cv,hs⟩
  · rw [cv] at gc
    refine ⟨_,_,gc,fun _=>?_,fun q=>absurd q (by simp)⟩
    unfold RS.follow; rw [if_pos (.inl hs)]
    exact ⟨slNil,rfl,fl_none H⟩
  rw [cv] at gc
  refine ⟨_,_,gc,fun q=>?_,fun q=>?_⟩
  · have:n = 0:=by simpa using q
    have hl:l = []:=List.length_eq_zero_iff.1 (by have:=h.len; omega)
    unfold RS.follow; rw [if_pos (.inr hl)]
    exact ⟨slNil,rfl,fl_none H⟩
  have hn0:n ≠ 0:=by simpa using q
  obtain ⟨e0,t,rfl⟩:∃ e0 t,l = e0 :: t:=by
    cases l with
    | nil=>exact absurd h.len hn0
    | cons x t=>exact ⟨x,t,rfl⟩
  have g:=gram_of hs
  have h256:=gram_len g
  rw [List.length_cons] at h256
  have hfo:RS.follow number id (e0 :: t) = ((RS.new number id e0).folds t,0):=by unfold RS.follow; rw [if_neg (by rintro (h | h); exact hs h; cases h)]; rfl
  rw [hfo]
  have hn:=h.len
  rw [List.length_cons] at hn
  obtain ⟨a0,ha0,hat0⟩:=h.at_ 0 e0 rfl
  refine ⟨a0,⟨ha0,by omega,by omega⟩,_,_,_,_,_,_,_,_,_,hat0,(t21 number id e0 H).mono fun v H1 ⟨sl1,hv,l1⟩=>?_⟩
  refine ⟨_,_,_,_,_,_,_,_,_,_,_,_,_,_,_,_,_,_,_,_,_,_,_,_,_,_,_,_,_,_,hv,fun b hb1 H2 e2=>l1.var hb1 (cur:=rCells slNil RS.zero) rfl e2 fun H3 x3=>⟨⟨by decide,by omega⟩,?_⟩⟩
  have hE0:=tail_evs h hcap
  have hev:=RS.new_ev number id e0
  have le0:=RS.new_le number id e0
  generalize RS.new number id e0 = R0 at x3 hev le0 ⊢
  apply v42; unfold F42
  intro B1 hB1 Ha ea B2 hB2 H5 e5
  subst hn
  have x5:RunX (H.upd B1 (.cells #[.slice (if c = 1 then A else A.map fun a=>a.add (1 * 9)) t.length (c - 1)] 27 (0,0))) Ha b sl1 R0:=by rw [ea]; exact x3.ext hB1 _
  have x6:RunX ((H.upd B1 (.cells #[.slice (if c = 1 then A else A.map fun a=>a.add (1 * 9)) t.length (c - 1)] 27 (0,0))).upd B2 (.cells #[.slice none 0 0] 101 (0,0))) H5 b sl1 R0:=by rw [e5]; exact x5.ext hB2 _
  have hn1:H B1 = none:=none_below x3.gh hB1
  have hn2:(H.upd B1 (.cells #[.slice (if c = 1 then A else A.map fun a=>a.add (1 * 9)) t.length (c - 1)] 27 (0,0))) B2 = none:=none_below x5.gh hB2
  have gg:Sub H ((H.upd B1 (.cells #[.slice (if c = 1 then A else A.map fun a=>a.add (1 * 9)) t.length (c - 1)] 27 (0,0))).upd B2 (.cells #[.slice none 0 0] 101 (0,0))):=(Sub.upd_new hn1).trans (Sub.upd_new hn2)
  have g1:((H.upd B1 (.cells #[.slice (if c = 1 then A else A.map fun a=>a.add (1 * 9)) t.length (c - 1)] 27 (0,0))).upd B2 (.cells #[.slice none 0 0] 101 (0,0))) B1 = some (.cells #[.slice (if c = 1 then A else A.map fun a=>a.add (1 * 9)) t.length (c - 1)] 27 (0,0)):=(Sub.upd_new hn2).sub _ _ Heap.upd_same
  have g2:((H.upd B1 (.cells #[.slice (if c = 1 then A else A.map fun a=>a.add (1 * 9)) t.length (c - 1)] 27 (0,0))).upd B2 (.cells #[.slice none 0 0] 101 (0,0))) B2 = some (.cells #[.slice none 0 0] 101 (0,0)):=Heap.upd_same
  generalize ((H.upd B1 (.cells #[.slice (if c = 1 then A else A.map fun a=>a.add (1 * 9)) t.length (c - 1)] 27 (0,0))).upd B2 (.cells #[.slice none 0 0] 101 (0,0))) = G5 at x6 gg g1 g2
  have hE:=hE0.sub gg
  have hK:HasI G5 none 0 []:=⟨rfl,fun i x hx=>by simp at hx⟩
  have hlY:(ofY t []).length = t.length:=by
    have:=congrArg List.length (range_map (l:=t) (f:=fun x=>x))
    simpa using this
  refine ⟨_,rfl,_,_,⟨rfl,by kernel_rfl⟩,G5,t.length,evE t,ofY t [],x6.gh,it54 g1 g2 hE hK (by omega) (by decide),fun pre H1=>RunE G5 H1 b (R0.folds (pre.map fun i=>(t[i]?).getD Ev.zero)),⟨sl1,x6⟩,fun pre i hi hpl H1 r hsub hnc x27 x28 x29 x30 x31 x32 x33 x34 x35 x36 eE=>⟨⟨hnc,hsub⟩,?_⟩,fun H7 r _=>?_⟩
  · obtain ⟨x,hx⟩:=get_some (l:=t) (i:=i) hi
    rw [hlY] at hpl
    obtain ⟨sl2,x2⟩:=r
    have eE:(((i:Int),((t[i]?).getD Ev.zero).id,((t[i]?).getD Ev.zero).time,((t[i]?).getD Ev.zero).kind,((t[i]?).getD Ev.zero).a,((t[i]?).getD Ev.zero).b,((t[i]?).getD Ev.zero).c,((t[i]?).getD Ev.zero).d,((t[i]?).getD Ev.zero).e,((t[i]?).getD Ev.zero).f,()):Int × Int × Int × Int × Int × Int × Int × Int × Int × Int × PUnit) = (x27,x28,x29,x30,x31,x32,x33,x34,x35,x36,()):=eE
    have hmap:(pre ++ [i]).map (fun i=>(t[i]?).getD Ev.zero) = pre.map (fun i=>(t[i]?).getD Ev.zero) ++ [x]:=by rw [List.map_append,List.map_singleton,hx]; rfl
    rw [hx] at eE
    simp only [Option.getD_some,Prod.mk.injEq] at eE
    obtain ⟨rfl,rfl,rfl,rfl,rfl,rfl,rfl,rfl,rfl,rfl,-⟩:=eE
    simp only [hmap,RS.folds_snoc]
    have fl:=RS.folds_le (pre.map fun i=>(t[i]?).getD Ev.zero) le0
    have hlen:(R0.folds (pre.map fun i=>(t[i]?).getD Ev.zero)).events.length ≤ 1000000:=by rw [fl.2,List.length_append,List.length_map]; omega
    generalize R0.folds (pre.map fun i=>(t[i]?).getD Ev.zero) = R1 at x2 fl hlen ⊢
    refine (t43 x2 (fl.1.small hlen) x (gram_attr g x (List.mem_cons_of_mem _ (List.mem_of_getElem? hx)))).mono fun v H6 ⟨A',n',c',hv,⟨sl3,x3⟩,_,_⟩=>?_
    obtain ⟨G6,x7,hd7⟩:=x3.cut (Hand.nil (Sub.refl G5) 7) x6.gh
    exact ⟨A',n',c',hv,⟨sl3,x7.weaken hd7.g⟩,x3.gh⟩
  · obtain ⟨sl2,x2⟩:=r
    have hm:=range_map (l:=t) (f:=fun x=>x)
    rw [List.map_id'] at hm
    have x2:RunX G5 H7 b sl2 (R0.folds ((ofY t []).map fun i=>(t[i]?).getD Ev.zero)):=x2
    rw [hm] at x2
    have x2:=x2.weaken gg
    exact ⟨_,_,_,_,_,_,_,_,_,_,_,_,_,_,_,_,_,_,_,_,_,_,_,_,_,_,_,_,_,_,x2.at,⟨sl2,rfl,x2.l⟩⟩
theorem t13 {l:List Ev} (hb:l.length ≤ 100000000000000000) (w:∀ x ∈ l,x.W64) {H:Heap} {A:Option Addr} {n c:Nat} (h:HasEvs H A n l):Tr Tryz.prog 13 #[.slice A n c] H fun v H'=>v = .int .i64 (if stand l < l.length ∨ l = [] then 52 else 0) ∧ Sub H H':=by
  apply v13; unfold F13
  have gc:=t44 (c:=c) hb w h
  have hn:=h.len
  rcases check_one (l:=l) with ⟨cv,hs⟩ | ⟨cv,hs⟩
  · rw [cv] at gc
    exact ⟨_,_,gc,fun _=>⟨by rw [if_pos (.inl hs)],Sub.refl _⟩,fun q=>absurd q (by simp)⟩
  · rw [cv] at gc
    refine ⟨_,_,gc,fun q=>⟨?_,Sub.refl _⟩,fun q=>⟨?_,Sub.refl _⟩⟩
    · have:n = 0:=by simpa using q
      rw [if_pos (.inr (List.length_eq_zero_iff.1 (by omega)))]
    · have:n ≠ 0:=by simpa using q
      rw [if_neg (by rintro (h | h); exact hs h; subst h; exact this hn)]
theorem folds_doc (number:Int) (id:ByteArray) {e0:Ev} {t:List Ev} (g:Gram (e0 :: t)):(RS.new number id e0).folds t = docR number id (e0 :: t):=by
  have:=docR_fold number id e0 t t.length (Nat.le_refl _) g
  rw [List.take_length] at this
  exact this.symm
theorem le_lens {R:RS} (h:R.Le) (e:R.events.length ≤ 1000000):R.Lens:=⟨e,Nat.le_trans h.a e,Nat.le_trans h.t e,Nat.le_trans h.k e,Nat.le_trans h.u e⟩
theorem t4 (number : Int) (id : ByteArray) {l : List Ev} (hb : l.length * 72 ≤ 140737488355328) (w : ∀ x ∈ l, x.W64) {H : Heap} {A : Option Addr} {n c : Nat} (h : HasEvs H A n l) (hcap : n ≤ c) :
    Tr Tryz.prog 4 #[.int .i64 number,.string id,.slice A n c] H fun v H'=>v = .bool true ∧ Sub H H':=by
  apply v4; unfold F4
  refine ⟨_,t9 H,(t12 number id hb h hcap).mono fun v H1 ⟨sl,hv,l1⟩=>?_⟩
  refine ⟨_,_,_,_,_,_,_,_,_,_,_,_,_,_,_,_,_,_,_,_,_,_,_,_,_,_,_,_,_,_,_,hv,_,t13 (by omega) w (h.sub l1.gh),fun q=>?_,fun q=>?_⟩
  · have hc : stand l < l.length ∨ l = [] := by
      by_cases hc:stand l < l.length ∨ l = []
      · exact hc
      · rw [if_neg hc] at q; exact absurd q (by decide)
    have e:RS.follow number id l = (RS.zero,52):=by unfold RS.follow; rw [if_pos hc]
    rw [e] at l1 ⊢
    rw [if_pos hc]
    exact ⟨_,t14 l1 (fl_none H1) ⟨Nat.zero_le _,Nat.zero_le _,Nat.zero_le _,Nat.zero_le _,Nat.zero_le _⟩,rfl,l1.gh⟩
  · have hc:¬ (stand l < l.length ∨ l = []):=fun hc=>by rw [if_pos hc] at q; exact absurd q (by decide)
    obtain ⟨e0,t,rfl⟩:∃ e0 t,l = e0 :: t:=by
      cases l with
      | nil=>exact absurd (.inr rfl) hc
      | cons x t=>exact ⟨x,t,rfl⟩
    have g:Gram (e0 :: t):=gram_of fun h=>hc (.inl h)
    have h256:=gram_len g
    have e:RS.follow number id (e0 :: t) = (docR number id (e0 :: t),0):=by
      unfold RS.follow; rw [if_neg hc,← folds_doc number id g]; rfl
    have ln:(docR number id (e0 :: t)).Lens:=by
      rw [← folds_doc number id g]
      have fl:=RS.folds_le t (RS.new_le number id e0)
      refine le_lens fl.1 ?_
      rw [fl.2,List.length_append,RS.new_ev]
      rw [List.length_cons] at h256
      omega
    rw [e] at l1 ⊢
    refine (t15 number id (by simp) (by omega) (gram_attr g) (h.sub l1.gh)).mono fun v2 H2 ⟨sl2,hv2,l2⟩=>?_
    exact ⟨_,_,_,_,_,_,_,_,_,_,_,_,_,_,_,_,_,_,_,_,_,_,_,_,_,_,_,_,_,_,hv2,_,t14 (l1.grow l2.gh) l2 ln,rfl,l1.gh.trans l2.gh⟩
end Go.Proofs.YtkofafcgcnciaaaGreatDoor
set_option maxRecDepth 100000
namespace Go.Proofs.YtkofafcgcnciaaaGreatDoor
open Go.Ax Go.RowKit Go.ChangeShapes Go.WideShapes Go.ChangeAt
def IntAt (l:List Value) (k:Nat):Prop:=∃ x,(l.drop k).take 1 = [.int .i64 x] ∧ (Lit.int .i64 x).wf = true
theorem fitEv (H : Heap) (l : List Value) (n : Nat) (h : Fit Tryz.prog H (n + 2) 47 l) :
    l.length = 9 ∧ IntAt l 0 ∧ IntAt l 1 ∧ IntAt l 2 ∧ IntAt l 3 ∧ IntAt l 4 ∧ IntAt l 5 ∧ IntAt l 6 ∧ IntAt l 7 ∧ IntAt l 8 ∧ True :=
  Eq.mp (show Fit Tryz.prog H (n + 2) 47 l = (l.length = 9 ∧ IntAt l 0 ∧ IntAt l 1 ∧ IntAt l 2 ∧ IntAt l 3 ∧ IntAt l 4 ∧ IntAt l 5 ∧ IntAt l 6 ∧ IntAt l 7 ∧ IntAt l 8 ∧ True) by kernel_rfl) h
theorem ofEv {l:List Value} (h:l.length = 9 ∧ IntAt l 0 ∧ IntAt l 1 ∧ IntAt l 2 ∧ IntAt l 3 ∧ IntAt l 4 ∧ IntAt l 5 ∧ IntAt l 6 ∧ IntAt l 7 ∧ IntAt l 8 ∧ True):∃ x:Ev,x.Wf ∧ l = x.cells:=by
  obtain ⟨hl,⟨x0,e0,w0⟩,⟨x1,e1,w1⟩,⟨x2,e2,w2⟩,⟨x3,e3,w3⟩,⟨x4,e4,w4⟩,⟨x5,e5,w5⟩,⟨x6,e6,w6⟩,⟨x7,e7,w7⟩,⟨x8,e8,w8⟩,-⟩:=h
  match l,hl with
  | [c0,c1,c2,c3,c4,c5,c6,c7,c8],_ =>
    simp at e0 e1 e2 e3 e4 e5 e6 e7 e8
    subst e0 e1 e2 e3 e4 e5 e6 e7 e8
    refine ⟨⟨x0,x1,x2,x3,x4,x5,x6,x7,x8⟩,⟨wf_i64 w0,wf_i64 w1,wf_i64 w2,fun v hv=>?_⟩,rfl⟩
    simp [Ev.nums] at hv
    rcases hv with rfl | rfl | rfl | rfl | rfl | rfl
    · exact wf_i64 w3
    · exact wf_i64 w4
    · exact wf_i64 w5
    · exact wf_i64 w6
    · exact wf_i64 w7
    · exact wf_i64 w8
end Go.Proofs.YtkofafcgcnciaaaGreatDoor
namespace Go.Ax
open Go.RowKit Go.ChangeShapes Go.WideShapes Go.ChangeAt
theorem trod_slice_len {H : Type} {enc : TypeId × Value → H} {P : Program} {w : World} {base : Nat} {spare : Nat → Bool} {held : Bool} {t e : TypeId} {A : Option Addr} {n c : Nat} {d : DataW H} {p : List MemPlace}
    (hu:P.underlying t = some (.slice e)) (h:DataW.Trod enc P w base spare held t (.slice A n c) d p):(n = 0 ∧ d = .nil) ∨ ∃ elems sp,d = .slice elems sp ∧ elems.length = n:=by
  obtain ⟨fuel,hf⟩:=h
  rcases Deep.open_slice hu hf with ⟨h1,h2⟩ | ⟨a,len,cap,m,k,D,Pl,h1,_,_,_,_,h2,_⟩
  · simp [Value.cells] at h1
    exact .inl ⟨h1.2.1,(Prod.mk.inj h2).1⟩
  · simp [Value.cells] at h1
    refine .inr ⟨_,_,(Prod.mk.inj h2).1,?_⟩
    simp; omega
theorem slice_reach {H : Type} {enc : TypeId × Value → H} {P : Program} {w : World} {base : Nat} {spare : Nat → Bool} {held : Bool} {t e : TypeId} {A : Option Addr} {n c : Nat} {d : DataW H} {p : List MemPlace} {ts : List TypeId} {ds : List (DataW H)}
    (hsz:(DataW.weightsEach P ts ds).all (· ≤ reachBytes) = true) {j:Nat} (ht:ts[j]? = some t) (hd:ds[j]? = some d)
    (hu:P.underlying t = some (.slice e)) (h:DataW.Trod enc P w base spare held t (.slice A n c) d p):n * P.bytesOf e ≤ 140737488351232:=by
  have hr:reachBytes = 140737488351232:=by decide
  rcases trod_slice_len hu h with ⟨rfl,_⟩ | ⟨elems,sp,rfl,rfl⟩
  · omega
  · have:=sized_slice hsz ht hd hu
    rw [hr] at this
    exact Nat.le_trans (Nat.mul_le_mul_right _ (by omega)) this
theorem string_reach {H : Type} {P : Program} {ts : List TypeId} {ds : List (DataW H)} (hsz : (DataW.weightsEach P ts ds).all (· ≤ reachBytes) = true) {j : Nat} {t : TypeId} (ht : ts[j]? = some t) {s : ByteArray}
    (hd:ds[j]? = some (.lit (.string s.data.toList))):s.size ≤ 140737488351232:=by
  have:=sized_string hsz ht hd
  have hr:reachBytes = 140737488351232:=by decide
  rw [hr] at this
  have e:s.data.toList.length = s.size:=by simp
  omega
end Go.Ax
set_option maxRecDepth 100000
namespace Go.Proofs.YtkofafcgcnciaaaGreatDoor
open Go.Ax Go.RowKit Go.ChangeShapes Go.WideShapes Go.ChangeAt
theorem wf_w64 {x:Ev} (w:x.Wf):x.W64:=fun k v hv=>w.nums v (List.mem_of_getElem? hv)
theorem openEvs {P : Program} {W : World} {t : TypeId} (ht : P.underlying t = some (.slice 47)) (hP : P = Tryz.prog)
    {H:Type} {enc:TypeId × Value → H} {b0:Nat} {spare:Nat → Bool} {held:Bool} {d:DataW H} {p:List MemPlace} {A:Option Addr} {n c:Nat} (h:DataW.Trod enc P W b0 spare held t (.slice A n c) d p) :
    ∃ l:List Ev,HasEvs (hp W) A n l ∧ (∀ x ∈ l,x.W64) ∧ n ≤ c:=by
  subst hP
  have f:=fit_of_Trod 3 h
  unfold Fit at f
  rw [ht] at f
  obtain ⟨A',n',c',e1,h1,h2,h3,h4⟩:=f
  simp [Value.cells] at e1
  obtain ⟨rfl,rfl,rfl⟩:=e1
  have hc:Tryz.prog.cellsOf 47 = 9:=by kernel_rfl
  obtain ⟨l,hl,hp'⟩:=list_of (p:=fun i (x:Ev)=>x.Wf ∧ ∃ a,A = some a ∧ At (hp W) (a.add (i * 9)) x.cells) n fun i hi=>by
    cases hA:A with
    | none=>have:=h3 hA; omega
    | some a =>
      obtain ⟨cs',hl,hat,hf⟩:=h4 a hA i hi
      obtain ⟨x,w,hx⟩:=ofEv (fitEv _ _ 0 hf)
      rw [hc] at hat
      subst hx
      exact ⟨x,w,a,rfl,hat (by decide)⟩
  refine ⟨l,⟨hl.symm,fun i x hx=>(hp' i x hx).2⟩,fun x hx=>?_,h1⟩
  obtain ⟨i,hi,rfl⟩:=List.getElem_of_mem hx
  exact wf_w64 (hp' i _ (List.getElem?_eq_getElem hi)).1
theorem bytesEv:Tryz.prog.bytesOf 47 = 72:=by kernel_rfl
end Go.Proofs.YtkofafcgcnciaaaGreatDoor
namespace Go.Proofs.YtkofafcgcnciaaaGreatDoor
def tab64 (k:IntKind) (l:List Int):Array Value:=⟨l.map (Value.int k)⟩
def layT (vs:Array Value):Obj → Obj
  | .cells _ t frozen=>.cells vs t frozen
  | o=>o
def Tryz.pow10L:List Int:=[1,10,100,1000,10000,100000,1000000,10000000,100000000,1000000000,10000000000,100000000000,1000000000000,10000000000000,100000000000000,1000000000000000,10000000000000000,100000000000000000,1000000000000000000,10000000000000000000]
def Tryz.bruijn32L:List Int:=[0,1,28,2,29,14,24,3,30,22,20,15,25,17,4,8,31,27,13,23,21,19,16,7,26,12,18,6,11,5,10,9]
def Tryz.bruijn64L:List Int:=[0,1,56,2,57,49,28,3,61,58,42,50,38,29,17,4,62,47,59,36,45,43,51,22,53,39,33,30,24,18,12,5,63,55,48,27,60,41,37,16,46,35,44,21,52,32,23,11,54,26,40,15,34,20,31,10,25,14,19,9,13,8,7,6]
end Go.Proofs.YtkofafcgcnciaaaGreatDoor
namespace Go.Proofs.YtkofafcgcnciaaaGreatDoor
open Go.ChangeShapes Go.WideShapes Go.ChangeAt Go.RowKit Go.Ax
open Go.ChangeMaps (open_string shut_string)
set_option linter.unusedVariables false
theorem own4:ownKnob Tryz.prog.godebug = none:=by kernel_rfl
theorem laidOut4:laidOutB Tryz.prog = true:=by kernel_rfl
noncomputable def laidWorld4 (os:Os):World :=
  { World.holding Tryz.prog os ⟨#[],#[],[]⟩ with heap:=(((World.holding Tryz.prog os ⟨#[],#[],[]⟩).heap.modify 0 (layT (tab64 .u64 Tryz.pow10L))).modify 1 (layT (tab64 .u8 Tryz.bruijn32L))).modify 2 (layT (tab64 .u8 Tryz.bruijn64L)) }
theorem laid_met4 (os:Os):laidMet Tryz.prog Rows.runsFollowsRow.laid ((laidWorld4 os).forCall (fun _ _=>0) ⟨#[],#[.int .i64 0,.string ByteArray.empty,.slice none 0 0],[]⟩).memory :=
  laidMet_of_run' 8 (by kernel_rfl) (by kernel_rfl)
theorem reads4 (os:Os) {H:Type} (enc:TypeId × Value → H):∃ places,DataW.whole enc Tryz.prog ((laidWorld4 os).forCall (fun _ _=>0) ⟨#[],#[.int .i64 0,.string ByteArray.empty,.slice none 0 0],[]⟩).memory Tryz.f4.params.toList Rows.runsFollowsSpec.vars false (#[.int .i64 0,.string ByteArray.empty,.slice none 0 0]:Array Value).toList 8 = some ([.lit (.int .i64 0),.lit (.string []),.nil],[],places) :=
  ⟨[],by kernel_rfl⟩
set_option maxRecDepth 100000 in
theorem contract4 (H : Type) (enc : TypeId × Value → H) (W : World) (base : Nat) (args : Array Value) (ds gs : List (DataW H)) (before : List MemPlace)
    (hval0:∀ (j:Nat) t v,Tryz.f4.params[j]? = some t → args[j]? = some v → Value.okWide Tryz.prog W .any base t v)
    (hW:DataW.Whole enc Tryz.prog Tryz.f4.params.toList Rows.runsFollowsSpec.vars false W args.toList ds gs before)
    (hsz:(DataW.weightsEach Tryz.prog (Tryz.f4.params.toList ++ Rows.runsFollowsSpec.plain.varTypes Tryz.prog) (ds ++ gs)).all (· ≤ reachBytes) = true) (hL:laidMetH Tryz.prog Rows.runsFollowsRow.laid W) :
    Calls Tryz.prog 4 args W fun e W'=>∃ v,e = .returned v ∧ Rows.runsFollowsSpec.post enc Tryz.prog Tryz.f4 false true false false W args v W':=by
  have hval:∀ (j:Nat) t v,Tryz.f4.params[j]? = some t → args[j]? = some v → Value.okWide Tryz.prog W .any base t v:=hval0
  have hW':=hW
  obtain ⟨p,q,hA0,hV,rfl,hfz,hnd⟩:=hW
  have hA:DataW.TrodAll enc Tryz.prog W 0 (fun _=>true) true Tryz.f4.params.toList args.toList ds p:=hA0
  rw [Tryz.params4] at hA hval
  obtain ⟨v0,vs0,d0,ds0,p0,q0,hargs,rfl,rfl,h0,s0⟩:=trodAll_cons hA
  obtain ⟨v1,vs1,d1,ds1,p1,q1,rfl,rfl,rfl,h1,s1⟩:=trodAll_cons s0
  obtain ⟨v2,vs2,d2,ds2,p2,q2,rfl,rfl,rfl,h2,s2⟩:=trodAll_cons s1
  obtain ⟨rfl,rfl,rfl⟩:=trodAll_nil s2
  obtain rfl:args = #[v0,v1,v2]:=by cases args; simp_all
  obtain ⟨rfl,rfl⟩:=trodVars_none hV
  have k0:=h0
  have lt0:∀ x ∈ p0,x.block < W.heap.size:=by obtain ⟨m,hm⟩:=k0; exact DataW.trod_lt m _ _ _ hm
  have k1:=h1
  have lt1:∀ x ∈ p1,x.block < W.heap.size:=by obtain ⟨m,hm⟩:=k1; exact DataW.trod_lt m _ _ _ hm
  have k2:=h2
  have lt2:∀ x ∈ p2,x.block < W.heap.size:=by obtain ⟨m,hm⟩:=k2; exact DataW.trod_lt m _ _ _ hm
  obtain ⟨a0,rfl,-,-,r0⟩:=open_int Tryz.underlying3 (hval 0 3 v0 rfl rfl) h0
  obtain ⟨a1,rfl,e1,-,r1⟩:=open_string Tryz.underlying9 (hval 1 9 v1 rfl rfl) h1
  subst e1
  have ssz1:=string_reach (P:=Tryz.prog) (s:=a1) hsz (j:=1) rfl rfl
  obtain ⟨A2,n2,c2,rfl⟩:=okWide_slice Tryz.underlying27 (hval 2 27 v2 rfl rfl)
  obtain ⟨z2,r2,w2,u2⟩:=openEvs Tryz.underlying27 rfl h2
  have lsz2:=slice_reach (P:=Tryz.prog) hsz (j:=2) rfl rfl Tryz.underlying27 h2
  rw [bytesEv,r2.len] at lsz2
  clear hA0 hval0
  refine (below_of_tr (f:=4) (t4 a0 a1 (by omega) w2 r2 u2)).mono fun e W' ⟨he,bel⟩=>?_
  subst he
  exact ⟨_,rfl,_,_,_,[],_,[],hW',trodAll_mk1 (shut_bool Tryz.underlying4 _),(trodAll_cons_mk (Below.trod laidOut4 (by kernel_rfl) (of_decide_eq_true (by kernel_rfl)) k0 bel lt0) (trodAll_cons_mk (Below.trod laidOut4 (by kernel_rfl) (of_decide_eq_true (by kernel_rfl)) k1 bel lt1) (trodAll_cons_mk (Below.trod laidOut4 (by kernel_rfl) (of_decide_eq_true (by kernel_rfl)) k2 bel lt2) trodAll_mk0))),rfl,bel.frame _,fun h=>by cases h⟩
set_option maxRecDepth 100000 in
theorem lifted4 (os : Os) (started : os.Started) (H : Type) (enc : TypeId × Value → H) (F : Stop.Interp) :
    ReturnsInHanded {} Tryz.checked os 4 .any ((OpenSpec.ofChange Rows.runsFollowsSpec).preRow enc Tryz.prog Tryz.f4 Rows.runsFollowsRow.domain false Rows.runsFollowsRow.laid) (((OpenSpec.ofChange Rows.runsFollowsSpec).at F).post enc Tryz.prog Tryz.f4 false true false false):=by
  obtain ⟨places,hx⟩:=reads4 os enc
  refine returnsInHanded_of_row (C:=Tryz.checked) (s:=OpenSpec.ofChange Rows.runsFollowsSpec) own4 started (by kernel_rfl) Tryz.func4
    (witness_row_at (enc:=enc) (C:=Tryz.checked) false (laidWorld4 os) #[.int .i64 0,.string ByteArray.empty,.slice none 0 0] rfl (by kernel_rfl) (by kernel_rfl) (by kernel_rfl)
      (OpenSpec.preRow_of_cond 8 hx (by kernel_rfl) (fun k hk=>by cases hk) (by kernel_rfl) (laid_met4 os))) ?_
  intro W base args ds gs before hval hW _ _ hsz hL _ _
  exact contract4 H enc W base args ds gs before hval hW hsz hL
theorem over4:Rows.RunsFollowsSaid :=
  OpenClaim.holds_of_cond 4 Tryz.f4 rfl rfl rfl rfl rfl rfl rfl ⟨rfl,rfl,rfl,rfl,rfl⟩ rfl rfl rfl rfl rfl (by kernel_rfl) Tryz.func4 (by kernel_rfl)
    (of_decide_eq_true (by kernel_rfl)) (by unfold Func.isWrapper; first | (rw [if_pos (by decide +kernel)]; kernel_rfl) | (rw [if_neg (by decide +kernel)]; exact ⟨rfl,rfl⟩))
    (fun os started H enc _ F=>by rw [OpenClaim.pre_eq_preRow]; exact lifted4 os started H enc F)
theorem plain4 (f : FuncId) (fn : Func) (hf : Tryz.pinned.checked.prog.funcNamed "tapestry/tapestrylaw19.RunsFollows" = some f) (hfn : Tryz.pinned.checked.prog.funcs[f]? = some fn) :
    false = Tryz.pinned.checked.prog.looks [] ∧ ∀ (j:Nat) t,fn.params[j]? = some t → Tryz.pinned.checked.prog.wantsStandIn t = false:=by
  obtain rfl : f = 4 := Option.some.inj ((show Tryz.prog.funcNamed "tapestry/tapestrylaw19.RunsFollows" = some 4 by kernel_rfl).symm.trans hf) |>.symm
  obtain rfl:fn = Tryz.f4:=(Option.some.inj (Tryz.func4.symm.trans hfn)).symm
  refine ⟨by kernel_rfl,fun j t ht=>?_⟩
  rw [Tryz.params4] at ht
  have hm:=Array.mem_of_getElem? ht
  simp at hm
  rcases hm with rfl | rfl | rfl
  · exact (show Tryz.prog.wantsStandIn 3 = false by kernel_rfl)
  · exact (show Tryz.prog.wantsStandIn 9 = false by kernel_rfl)
  · exact (show Tryz.prog.wantsStandIn 27 = false by kernel_rfl)
theorem provedRunsFollows:Rows.RunsFollowsCardSaid :=
  Claim7.holds_tied_plain_at .later [] _ _ _ _ over4 (fun _ h=>by cases h) (by kernel_rfl) (fun _ h=>by cases h) runsFollows_row_tie rfl ⟨rfl,rfl⟩ (by kernel_rfl) rfl plain4 (by kernel_rfl)
end Go.Proofs.YtkofafcgcnciaaaGreatDoor
