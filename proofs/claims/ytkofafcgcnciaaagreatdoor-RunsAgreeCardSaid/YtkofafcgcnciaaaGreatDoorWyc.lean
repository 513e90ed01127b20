/- Lemmas that the claim needs, in order. Conditions: those of each lemma. -/
import Derived.Test.YtkofafcgcnciaaaGreatDoorWyb
set_option maxRecDepth 100000
namespace Go.Proofs.YtkofafcgcnciaaaGreatDoor
open Go.Ax
section
variable {G H:Heap} {m:Nat} {pf po:SlH} {sl:Nat→SlH} {F:Heap} {ex:Value} {st:List SlH} {s:VS}
structure Free (F H:Heap) (m:Nat) (sl:Nat→SlH) (ex:Value) (c b:Nat):Prop where
 f:F b=none
 m:b≠m
 sl:∀c',c'<14→(sl c').blk=some b→c'=c
 x:∀(xb:Nat),ex=.func (.func 112) #[] #[.pointer (some ⟨xb,0,none⟩)]→xb≠b
theorem VMX.free_own (h:VMX G H m pf po sl F ex st s) {c b:Nat} (hc:c<14) (hb:(sl c).blk=some b):Free F H m sl ex c b:=by
 refine ⟨(h.own c hc b hb).1,(h.own c hc b hb).2,fun c' hc' hb'=>h.inj c' c b hc' hc hb' hb,fun xb e=>?_⟩
 cases he:s.expect with
 | none=>rw [h.exp.none_ he] at e; cases e
 | some l =>
  obtain ⟨xb',A,n,k,T,q1,-,-,-,q5,-⟩:=h.exp.some_ l he
  rw [q1] at e
  injection e with _ _ e
  simp at e
  subst e
  intro e2; subst e2; exact q5 c hc hb
theorem VMX.free_new (h:VMX G H m pf po sl F ex st s) {c b:Nat} (hb:H b=none):Free F H m sl ex c b:=by
 refine ⟨none_below h.fh hb,fun e=>(by subst e; rw [h.hm] at hb; cases hb),fun c' hc' hb'=>?_,fun xb e=>?_⟩
 ·rcases (h.ok c' hc').at_ with a|⟨b',off,cur,T,a1,a2,_⟩
  ·unfold SlH.blk at hb'; rw [a.1] at hb'; cases hb'
  ·unfold SlH.blk at hb'; rw [a1] at hb'; cases hb'; rw [hb] at a2; cases a2
 ·cases he:s.expect with
  | none=>rw [h.exp.none_ he] at e; cases e
  | some l =>
   obtain ⟨xb',A,n,k,T,q1,q2,-⟩:=h.exp.some_ l he
   rw [q1] at e
   injection e with _ _ e
   simp at e
   subst e
   intro e2; subst e2; rw [hb] at q2; cases q2
structure Ready (F H:Heap) (m:Nat) (sl:Nat→SlH) (ex:Value) (c:Nat) (hn:SlH) (cs:List Value):Prop where
 ok:SlOk H hn (szC c) cs
 free:∀b,hn.blk=some b→Free F H m sl ex c b
theorem VMX.app (h : VMX G H m pf po sl F ex st s) {c : Nat} (hc : c<14) {e : TypeId} {bytes : Nat} {new : List Value} {k : Nat} (hk : new.length=k*szC c) (h1 : allOne new=true) (hb : ((sl c).n+k)*bytes≤140737488355328) (hl : (sl c).n+k≤9223372036854775807)
  {K:Option Addr→Nat→Nat→Heap→Prop} (q:∀A' c' H',VMX G H' m pf po sl F ex st s→Ready F H' m sl ex c ⟨A',(sl c).n+k,c'⟩ (contC sl st s c++new)→K A' ((sl c).n+k) c' H') :
  appC e (szC c) bytes H (sl c).A (sl c).n (sl c).c new k K:=by
 have ok:=h.ok c hc
 refine ⟨⟨contC sl st s c,ok.src,ok.len,hk,h1,hb,hl,fun hcap=>?_,fun hcap b cap rest hbn hle hr=>?_⟩⟩
 ·rcases ok.at_ with ⟨a1,a2,a3⟩|⟨b,off,cur,T,a1,a2,a3,a4⟩
  ·left
   have k0:k=0:=by omega
   subst k0
   have hn:new=[]:=List.length_eq_zero_iff.1 (by omega)
   subst hn
   refine ⟨rfl,q _ _ _ h ⟨⟨by rw [List.append_nil]; simpa using ok.len,hcap,.inl ⟨a1,by simp only; omega,a3⟩⟩,fun b hb=>?_⟩⟩
   unfold SlH.blk at hb; simp only at hb; rw [a1] at hb; cases hb
  ·right
   have hsz:(off+(sl c).n*szC c)+new.length≤cur.size:=by
    have:((sl c).n+k)*szC c≤(sl c).c*szC c:=Nat.mul_le_mul_right _ hcap
    rw [Nat.add_mul] at this
    omega
   have hblk:(sl c).blk=some b:=by unfold SlH.blk; rw [a1]; rfl
   have fr:=h.free_own hc hblk
   have hlen:=ok.len
   have old:∀j v,(contC sl st s c)[j]?=some v→(splice cur (off+(sl c).n*szC c) new)[off+j]?=some v:=fun j v hv=>by
    rw [splice_get hsz,if_pos (by have:=get_lt hv; omega)]; exact a4 j v hv
   refine ⟨⟨b,off,none⟩,cur,T,a1,rfl,a2,hsz,q _ _ _ ?_ ⟨⟨?_,hcap,.inr ⟨b,off,_,T,a1,Heap.upd_same,?_,fun j v hv=>?_⟩⟩,fun b' hb'=>?_⟩⟩
   ·refine ⟨h.gf,⟨fun i o ho=>?_⟩,h.fm,by rw [Heap.upd_other (fun e=>fr.m e.symm)]; exact h.hm,h.own,h.inj,fun c' hc'=>?_,h.stl,h.stk,h.vars,h.attrs,h.sigs,h.exp.none_,fun l hl=>?_⟩
    ·rw [Heap.upd_other (fun e=>by subst e; rw [fr.f] at ho; cases ho)]; exact h.fh.sub _ _ ho
    ·by_cases hcc:c'=c
     ·subst hcc
      exact ⟨ok.len,ok.cap,.inr ⟨b,off,_,T,a1,Heap.upd_same,by rw [splice_size hsz]; exact a3,old⟩⟩
     ·exact (h.ok c' hc').mono fun b' hb'=>Heap.upd_other fun e=>by subst e; exact hcc (fr.sl c' hc' hb')
    ·obtain ⟨xb,A,n,c2,T2,q1,q2,q3,q4,q5,q6,q7⟩:=h.exp.some_ l hl
     exact ⟨xb,A,n,c2,T2,q1,by rw [Heap.upd_other (fr.x xb q1)]; exact q2,q3,q4,q5,q6,q7⟩
   ·rw [List.length_append,hlen,hk,Nat.add_mul]
   ·rw [splice_size hsz]; exact a3
   ·by_cases hj:j<(sl c).n*szC c
    ·rw [List.getElem?_append_left (by omega)] at hv
     exact old j v hv
    ·have hlt:=get_lt hv
     rw [List.length_append] at hlt
     rw [List.getElem?_append_right (by omega),hlen] at hv
     rw [splice_get hsz,if_neg (by omega),if_pos (by omega)]
     rw [←hv]; congr 1; omega
   ·unfold SlH.blk at hb'; simp only at hb'; rw [a1] at hb'; cases hb'
    exact ⟨fr.f,fr.m,fr.sl,fr.x⟩
 ·have h':=h.grow (Sub.upd_new (o:=.cells ⟨contC sl st s c++new++rest⟩ e (0,0)) hbn)
  have fr:=h.free_new (c:=c) hbn
  refine q _ _ _ h' ⟨⟨by rw [List.length_append,ok.len,hk,Nat.add_mul],hle,.inr ⟨b,0,_,e,rfl,Heap.upd_same,?_,fun j v hv=>?_⟩⟩,fun b' hb'=>?_⟩
  ·simp only [List.size_toArray,List.length_append,ok.len,hk,hr]
   rw [←Nat.add_mul,←Nat.add_mul]
   have:(sl c).n+k+(cap-((sl c).n+k))=cap:=by omega
   rw [this]; simp
  ·have hj:=get_lt hv
   simp only [List.getElem?_toArray,Nat.zero_add]
   rw [List.getElem?_append_left hj]; exact hv
  ·unfold SlH.blk at hb'; simp only at hb'; cases hb'
   exact ⟨fr.f,fr.m,fr.sl,fr.x⟩
def setH (sl:Nat→SlH) (c:Nat) (hn:SlH):Nat→SlH:=fun i=>if i=c then hn else sl i
theorem VMX.setSl (h : VMX G H m pf po sl F ex st s) {c : Nat} (hc : c<14) {hn : SlH} {cs : List Value} (r : Ready F H m sl ex c hn cs) (s' : VS) (st' : List SlH)
  (e0:contC (setH sl c hn) st' s' c=cs) (ec:∀c',c'<14→c'≠c→contC (setH sl c hn) st' s' c'=contC sl st s c') (e7:s'.expect=s.expect) (e8:s'.vars.length=16) (e9:s'.attrs.length=4) (e10:s'.signals.length=8)
  (e11:st'.length=s'.threads.length) (e12:∀(j:Nat) (t:Thr) (q:SlH),s'.threads[j]?=some t→st'[j]?=some q→HasL (dif F G) q t.stack) :
  VMX G (H.upd m (.cells ⟨mCells pf po (setH sl c hn) ex s'⟩ 149 (0,0))) m pf po (setH sl c hn) F ex st' s':=by
 have get:∀c',setH sl c hn c'=if c'=c then hn else sl c':=fun _=>rfl
 refine ⟨h.gf,⟨fun i o ho=>?_⟩,h.fm,Heap.upd_same,fun c' hc' b hb=>?_,fun c1 c2 b hc1 hc2 h1 h2=>?_,fun c' hc'=>?_,e11,e12,e8,e9,e10,⟨fun q=>h.exp.none_ (by rw [←e7]; exact q),fun l hl=>?_⟩⟩
 ·rw [Heap.upd_other (fun e=>by subst e; rw [h.fm] at ho; cases ho)]; exact h.fh.sub _ _ ho
 ·rw [get] at hb
  split at hb
  ·exact ⟨(r.free b hb).f,(r.free b hb).m⟩
  ·exact h.own c' hc' b hb
 ·rw [get] at h1 h2
  split at h1
  ·rename_i q1
   split at h2
   ·rename_i q2; rw [q1,q2]
   ·rw [q1]; exact ((r.free b h1).sl c2 hc2 h2).symm
  ·split at h2
   ·rename_i q2; rw [q2]; exact (r.free b h2).sl c1 hc1 h1
   ·exact h.inj c1 c2 b hc1 hc2 h1 h2
 ·by_cases hcc:c'=c
  ·subst hcc
   rw [e0,get,if_pos rfl]
   exact r.ok.mono fun b hb=>Heap.upd_other (r.free b hb).m
  ·rw [ec c' hc' hcc,get,if_neg hcc]
   exact (h.ok c' hc').mono fun b hb=>Heap.upd_other (h.own c' hc' b hb).2
 ·rw [e7] at hl
  obtain ⟨xb,A,n,k,T,q1,q2,q3,q4,q5,q6,q7⟩:=h.exp.some_ l hl
  refine ⟨xb,A,n,k,T,q1,by rw [Heap.upd_other q4]; exact q2,q3,q4,fun c' hc' hb=>?_,q6,q7⟩
  rw [get] at hb
  split at hb
  ·exact (r.free xb hb).x xb q1 rfl
  ·exact q5 c' hc' hb
theorem VMX.put (h : VMX G H m pf po sl F ex st s) {c : Nat} (hc : c<14) {a : Addr} (ha : (sl c).A=some a) {k : Nat} {v : Value} (hk : k<(contC sl st s c).length) (s' : VS)
  (e0:contC sl st s' c=(contC sl st s c).set k v) (ec:∀c',c'<14→c'≠c→contC sl st s' c'=contC sl st s c') (em:mCells pf po sl ex s'=mCells pf po sl ex s) (e1:s'.threads=s.threads) (e7:s'.expect=s.expect) (e8:s'.vars.length=16) (e9:s'.attrs.length=4) (e10:s'.signals.length=8)
  {Q:Heap→Prop} (q:∀H',VMX G H' m pf po sl F ex st s'→Q H') :
  ∃(cur:Array Value) (T:TypeId),H (a.add k).block=some (.cells cur T (0,0))∧(a.add k).spot=none∧(a.add k).off+[v].length≤cur.size∧∀H1,H1=H.upd (a.add k).block (.cells (splice cur (a.add k).off [v]) T (0,0))→Q H1:=by
 have ok:=h.ok c hc
 have hlen:=ok.len
 rcases ok.at_ with ⟨a1,_⟩|⟨b,off,cur,T,a1,a2,a3,a4⟩
 ·rw [a1] at ha; cases ha
 ·rw [a1] at ha; cases ha
  have b0:((⟨b,off,none⟩:Addr).add k).block=b:=by unfold Addr.add; split<;>rfl
  have o0:((⟨b,off,none⟩:Addr).add k).off=off+k:=by unfold Addr.add; split<;>simp_all
  have s0:((⟨b,off,none⟩:Addr).add k).spot=none:=by unfold Addr.add; split<;>rfl
  rw [b0,o0,s0]
  have hcap:(sl c).n*szC c≤(sl c).c*szC c:=Nat.mul_le_mul_right _ ok.cap
  have hsz:off+k+[v].length≤cur.size:=by show off+k+1≤_; omega
  have hblk:(sl c).blk=some b:=by unfold SlH.blk; rw [a1]; rfl
  have fr:=h.free_own hc hblk
  refine ⟨cur,T,a2,rfl,hsz,fun H1 e=>q H1 ?_⟩
  subst e
  refine ⟨h.gf,⟨fun i o ho=>?_⟩,h.fm,by rw [Heap.upd_other (fun e=>fr.m e.symm),em]; exact h.hm,h.own,h.inj,fun c' hc'=>?_,by rw [e1]; exact h.stl,by rw [e1]; exact h.stk,e8,e9,e10,⟨fun q=>h.exp.none_ (by rw [←e7]; exact q),fun l hl=>?_⟩⟩
  ·rw [Heap.upd_other (fun e=>by subst e; rw [fr.f] at ho; cases ho)]; exact h.fh.sub _ _ ho
  ·by_cases hcc:c'=c
   ·subst hcc
    rw [e0]
    refine ⟨by rw [List.length_set]; exact hlen,ok.cap,.inr ⟨b,off,_,T,a1,Heap.upd_same,by rw [splice_size hsz]; exact a3,fun j u hu=>?_⟩⟩
    rw [splice_get hsz]
    rw [List.getElem?_set] at hu
    by_cases hj:k=j
    ·subst hj
     rw [if_pos rfl,if_pos hk] at hu
     rw [if_neg (by omega),if_pos (by show off+k<off+k+1; omega)]
     have:off+k-(off+k)=0:=by omega
     rw [this]; exact hu
    ·rw [if_neg hj] at hu
     have:=a4 j u hu
     by_cases hlt:off+j<off+k
     ·rw [if_pos hlt]; exact this
     ·rw [if_neg hlt,if_neg (by show ¬off+j<off+k+1; omega)]; exact this
   ·rw [ec c' hc' hcc]
    exact (h.ok c' hc').mono fun b' hb'=>Heap.upd_other fun e=>by subst e; exact hcc (fr.sl c' hc' hb')
  ·rw [e7] at hl
   obtain ⟨xb,A,n,c2,T2,q1,q2,q3,q4,q5,q6,q7⟩:=h.exp.some_ l hl
   exact ⟨xb,A,n,c2,T2,q1,by rw [Heap.upd_other (fr.x xb q1)]; exact q2,q3,q4,q5,q6,q7⟩
end
set_option linter.unusedVariables false
open IntKind
noncomputable def c69:Cx:={ P:=Tryz.prog,res:=[],pub:=[],loops:=[],quiet:=[],asm:=true }
def F69 (eId eTime eKind eA eB eC eD eE eF:Int) (H:Heap) (K:Value→Heap→Prop):Prop:=((eKind==16)=true→K (.bool (eA==(-4))) H) ∧
 ((eKind==16)=false→K (.bool (eKind==1||decide (eKind≥19))) H)

theorem v69 {eId eTime eKind eA eB eC eD eE eF:Int} {H:Heap} {K:Value→Heap→Prop} (h:F69 eId eTime eKind eA eB eC eD eE eF H K):Tr Tryz.prog 69 #[.agg #[.int .i64 eId,.int .i64 eTime,.int .i64 eKind,.int .i64 eA,.int .i64 eB,.int .i64 eC,.int .i64 eD,.int .i64 eE,.int .i64 eF]] H K :=
 tr_of_eq (C:=c69) Tryz.func69 (by kernel_rfl) h
noncomputable def c110:Cx:={ P:=Tryz.prog,res:=[],pub:=[],loops:=[],quiet:=[],asm:=true }
def F110 (m:Option Addr) (i v status:Int) (H:Heap) (K:Value→Heap→Prop):Prop :=
 ∃(a:Addr),(decide (i≥0)=true→m=some a) ∧∃(A:Option Addr) (n c:Nat),(decide (i≥0)=true→At H ((a.add 2).add 22) [.slice A n c]) ∧∃(a1:Addr),(decide (i≥0)=true→A=some a1 ∧(0:Int)≤i ∧i<(↑n:Int)) ∧∃(b:Bool),(decide (i≥0)=true→At H ((a1.add (i.toNat*6)).add 3) [.bool b]) ∧((decide (i≥0)&&!b)=true→∃(a2:Addr),m=some a2 ∧∃(A1:Option Addr) (n1 c1:Nat),At H ((a2.add 2).add 22) [.slice A1 n1 c1] ∧∃(a3:Addr),InB A1 a3 i n1 ∧∃(a4:Addr),some (a3.add (i.toNat*6))=some a4 ∧StL H (a4.add 3) [.bool true] fun H1 =>∃(a5:Addr),
 some (a3.add (i.toNat*6))=some a5 ∧StL H1 (a5.add 4) [v] fun H11 =>∃(a6:Addr),some (a3.add (i.toNat*6))=some a6 ∧StL H11 (a6.add 5) [status] fun H12=>K (.tuple #[]) H12) ∧((decide (i≥0)&&!b)=false→K (.tuple #[]) H)

theorem v110 {m:Option Addr} {i v status:Int} {H:Heap} {K:Value→Heap→Prop} (h:F110 m i v status H K):Tr Tryz.prog 110 #[.pointer m,.int .i64 i,.int .i64 v,.int .i64 status] H K :=
 tr_of_eq (C:=c110) Tryz.func110 (by kernel_rfl) h
noncomputable def c111:Cx:={ P:=Tryz.prog,res:=[],pub:=[],loops:=[⟨2,[(13,.int .i64)],[4,5,6,14,15,16,17,18,19,20,21,22,23,24,25,26,27,28],[]⟩],quiet:=[],asm:=true }
def F111 (m:Option Addr) (id:Int) (H:Heap) (K:Value→Heap→Prop):Prop :=
 ∃(a:Addr),m=some a ∧∃(A:Option Addr) (n c:Nat),At H ((a.add 2).add 22) [.slice A n c] ∧∃(Rel:Int→Heap→Prop) (mu:Int→Heap→Nat),Rel (0:Int) H ∧∀(x:Int) (H1:Heap),Rel x H1→(decide (x<(↑n:Int))=true→∃(a1:Addr),InB A a1 x n ∧∃(x1 x2 x3:Int) (b:Bool) (x4 x5:Int),At H1 (a1.add (x.toNat*6)) [x1,x2,x3,.bool b,x4,x5] ∧((x2 != 0&&x2==id)=true→K (.int .i64 x) H1) ∧((x2 != 0&&x2==id)=false→Rel (i64.wrap (x+1)) H1 ∧mu (i64.wrap (x+1)) H1<mu x H1)) ∧(decide (x<(↑n:Int))=false→K (.int .i64 (-1)) H1)

theorem v111 {m:Option Addr} {id:Int} {H:Heap} {K:Value→Heap→Prop} (h:F111 m id H K):Tr Tryz.prog 111 #[.pointer m,.int .i64 id] H K :=
 tr_of_eq (C:=c111) Tryz.func111 (by kernel_rfl) h
noncomputable def c117:Cx:={ P:=Tryz.prog,res:=[],pub:=[],loops:=[],quiet:=[],asm:=true }
def F117 (m:Option Addr) (tFunc tAt tScope:Int) (tStackA:Option Addr) (tStackn tStackc:Nat) (tArg tFuture tUpdate tWaits tSignal:Int) (H:Heap) (K:Value→Heap→Prop):Prop:=(decide (tWaits≥0)=true →
 ∃(a:Addr),m=some a ∧∃(A:Option Addr) (n c:Nat),At H ((a.add 2).add 22) [.slice A n c] ∧∃(a1:Addr),InB A a1 tWaits n ∧∃(b:Bool),At H ((a1.add (tWaits.toNat*6)).add 3) [.bool b] ∧K (.bool b) H) ∧(decide (tWaits≥0)=false→(decide (tSignal≥0)=true→∃(a2:Addr),m=some a2 ∧∃(A1:Option Addr) (n1 c1:Nat),At H ((a2.add 2).add 24) [.slice A1 n1 c1] ∧∃(a3:Addr),InB A1 a3 tSignal n1 ∧∃(A2:Option Addr) (n2 c2:Nat),At H (a3.add (tSignal.toNat*1)) [.slice A2 n2 c2] ∧K (.bool (decide ((↑n2:Int)>0))) H) ∧(decide (tSignal≥0)=false→K (.bool true) H))

theorem v117 {m:Option Addr} {tFunc tAt tScope:Int} {tStackA:Option Addr} {tStackn tStackc:Nat} {tArg tFuture tUpdate tWaits tSignal:Int} {H:Heap} {K:Value→Heap→Prop} (h:F117 m tFunc tAt tScope tStackA tStackn tStackc tArg tFuture tUpdate tWaits tSignal H K):Tr Tryz.prog 117 #[.pointer m,.agg #[.int .i64 tFunc,.int .i64 tAt,.int .i64 tScope,.slice tStackA tStackn tStackc,.int .i64 tArg,.int .i64 tFuture,.int .i64 tUpdate,.int .i64 tWaits,.int .i64 tSignal]] H K :=
 tr_of_eq (C:=c117) Tryz.func117 (by kernel_rfl) h
noncomputable def c150:Cx:={ P:=Tryz.prog,res:=[],pub:=[],loops:=[],quiet:=[],draws:=[⟨6,[],[],false,true⟩],asm:=true }
def F150 (r:Option Addr) (H:Heap) (K:Value→Heap→Prop):Prop :=
 ∃(a:Addr),r=some a ∧∃(v:Option Addr),At H (a.add 1) [.pointer v] ∧∃(a1:Addr),v=some a1 ∧∃(A:Option Addr) (n c:Nat),At H (a1.add 3) [.slice A n c] ∧(((↑n:Int)==0)=true→∃(a2:Addr),r=some a2 ∧StL H (a2.add 2) [.bool true] fun H1=>K (.int .i64 0) H1) ∧(((↑n:Int)==0)=false→∃(a3:Addr),r=some a3 ∧∃(v1:Option Addr),At H (a3.add 1) [.pointer v1] ∧∃(a4:Addr),v1=some a4 ∧∃(A1:Option Addr) (n1 c2:Nat),At H (a4.add 3) [.slice A1 n1 c2] ∧∃(a5:Addr),InB A1 a5 (i64.wrap ((↑n:Int)-1)) n1 ∧∃(x:Int),At H (a5.add ((i64.wrap ((↑n:Int)-1)).toNat*1)) [x] ∧∃(a6:Addr),
 r=some a6 ∧∃(a7:Addr),r=some a7 ∧(∃(v2:Option Addr),At H (a6.add 1) [.pointer v2] ∧∃(v3:Option Addr),At H (a7.add 1) [.pointer v3] ∧∃(a8:Addr),v3=some a8 ∧∃(A2:Option Addr) (n2 c3:Nat),At H (a8.add 3) [.slice A2 n2 c3] ∧((0:Int)≤i64.wrap ((↑n:Int)-1) ∧i64.wrap ((↑n:Int)-1)≤(↑c3:Int)) ∧∃(a9:Addr),v2=some a9 ∧StL H (a9.add 3) [.slice (if c3=(0:Nat) then A2 else Option.map (fun (x:Addr)=>x.add ((0:Nat)*1)) A2) ((i64.wrap ((↑n:Int)-1)).toNat-(0:Nat)) (c3-(0:Nat))] fun H11=>K (.int .i64 x) H11) ∧∃(v4:Option Addr),At H (a7.add 1) [.pointer v4] ∧∃(a10:Addr),
 v4=some a10 ∧(∃(v5:Option Addr),At H (a6.add 1) [.pointer v5] ∧∃(A3:Option Addr) (n3 c5:Nat),At H (a10.add 3) [.slice A3 n3 c5] ∧((0:Int)≤i64.wrap ((↑n:Int)-1) ∧i64.wrap ((↑n:Int)-1)≤(↑c5:Int)) ∧∃(a11:Addr),v5=some a11 ∧StL H (a11.add 3) [.slice (if c5=(0:Nat) then A3 else Option.map (fun (x:Addr)=>x.add ((0:Nat)*1)) A3) ((i64.wrap ((↑n:Int)-1)).toNat-(0:Nat)) (c5-(0:Nat))] fun H12=>K (.int .i64 x) H12) ∧∃(A4:Option Addr) (n4 c7:Nat),At H (a10.add 3) [.slice A4 n4 c7] ∧((0:Int)≤i64.wrap ((↑n:Int)-1) ∧i64.wrap ((↑n:Int)-1)≤(↑c7:Int)) ∧∃(v6:Option Addr),
 At H (a6.add 1) [.pointer v6] ∧∃(a12:Addr),v6=some a12 ∧StL H (a12.add 3) [.slice (if c7=(0:Nat) then A4 else Option.map (fun (x:Addr)=>x.add ((0:Nat)*1)) A4) ((i64.wrap ((↑n:Int)-1)).toNat-(0:Nat)) (c7-(0:Nat))] fun H13=>K (.int .i64 x) H13)

theorem v150 {r:Option Addr} {H:Heap} {K:Value→Heap→Prop} (h:F150 r H K):Tr Tryz.prog 150 #[.pointer r] H K :=
 tr_of_eq (C:=c150) Tryz.func150 (by kernel_rfl) h
noncomputable def c140:Cx:={ P:=Tryz.prog,res:=[],pub:=[],loops:=[⟨1,[(1,.int .i64)],[4,5,6,7,8,9,10,11,12,13,14,15,16,17,18,19,20,21,22,23,24],[]⟩],quiet:=[],asm:=true }
def F140 (m:Option Addr) (s:Int) (H:Heap) (K:Value→Heap→Prop):Prop :=
 ∃(Rel:Int→Heap→Prop) (mu:Int→Heap→Nat),Rel s H ∧∀(x:Int) (H1:Heap),Rel x H1→(decide (x≥0)=true→∃(a:Addr),m=some a ∧∃(A:Option Addr) (n c:Nat),At H1 ((a.add 2).add 23) [.slice A n c] ∧∃(a1:Addr),InB A a1 x n ∧∃(b:Bool),At H1 ((a1.add (x.toNat*2)).add 1) [.bool b] ∧(b=true→K (.bool true) H1) ∧(b=false→∃(a2:Addr),m=some a2 ∧∃(A1:Option Addr) (n1 c1:Nat),At H1 ((a2.add 2).add 23) [.slice A1 n1 c1] ∧∃(a3:Addr),InB A1 a3 x n1 ∧∃(x1:Int),At H1 ((a3.add (x.toNat*2)).add 0) [x1] ∧Rel x1 H1 ∧mu x1 H1<mu x H1)) ∧(decide (x≥0)=false→K (.bool false) H1)

theorem v140 {m:Option Addr} {s:Int} {H:Heap} {K:Value→Heap→Prop} (h:F140 m s H K):Tr Tryz.prog 140 #[.pointer m,.int .i64 s] H K :=
 tr_of_eq (C:=c140) Tryz.func140 (by kernel_rfl) h
noncomputable def c141:Cx:={ P:=Tryz.prog,res:=[],pub:=[],loops:=[],quiet:=[53,167],draws:=[⟨1,[3,9],[0],true,true⟩,⟨12,[5],[],false,true⟩],asm:=true,dyn:=[40] }
def F141 (m:Option Addr) (eId eTime eKind eA eB eC eD eE eF:Int) (H:Heap) (K:Value→Heap→Prop):Prop :=
 ∃(Hs:Heap),Ax.Sub Hs H ∧∃(a:Addr),m=some a ∧∃(a1:Addr),m=some a1 ∧∃(x:Int),At Hs (a.add 30) [x] ∧∃(x1:Int),At Hs ((a1.add 2).add 20) [x1] ∧Ax.Sub Hs H ∧Ax.Sub Hs H ∧∃(b:Bool),((i64.wrap (x+1)==256)=true→Tr Tryz.prog 53 #[eKind] H fun v H'=>v=.bool b ∧Ax.Sub H H') ∧((i64.wrap (x+1)==256&&!b)=true→Tr Tryz.prog 142 #[.pointer m,(-4:Int)] H fun v1 H'1=>v1=.tuple #[] ∧K (.tuple #[(0:Int),.bool false]) H'1) ∧((i64.wrap (x+1)==256&&!b)=false→∃(a2:Addr),m=some a2 ∧∃(v2:Value),At H (a2.add 34) [v2] ∧∃(b1:Bool),fnNil v2 b1 ∧((!b1)=true→∃(a3:Addr),
 m=some a3 ∧∃(v3:Value),At H (a3.add 34) [v3] ∧∃(g:Nat) (all:List Value),isFn Tryz.prog v3 [] g all ∧Tr Tryz.prog g { toList:=all } H fun v4 H'2 =>∃(x2 x3 x4 x5 x6 x7 x8 x9 x10:Int) (b2:Bool),v4=.tuple #[.agg #[x2,x3,x4,x5,x6,x7,x8,x9,x10],.bool b2] ∧∃(b3:Bool),((!!b2)=true→Tr Tryz.prog 167 #[.agg #[(i64.wrap (x+1)),x1,eKind,eA,eB,eC,eD,eE,eF],.agg #[x2,x3,x4,x5,x6,x7,x8,x9,x10]] H'2 fun v5 H'3=>v5=.bool b3 ∧Ax.Sub H'2 H'3) ∧((!b2||!b3)=true→∃(a4:Addr),m=some a4 ∧StL H'2 (a4.add 35) [.bool true] fun H1 =>∃(a5:Addr),m=some a5 ∧
 StL H1 ((a5.add 2).add 25) [.bool true] fun H11=>K (.tuple #[(0:Int),.bool false]) H11) ∧((!b2||!b3)=false→∃(a6:Addr),m=some a6 ∧∃(x11:Int),At H'2 (a6.add 30) [x11] ∧∃(a7:Addr),m=some a7 ∧StL H'2 (a7.add 30) [(i64.wrap (x11+1))] fun H12 =>∃(a8:Addr),m=some a8 ∧(∃(A:Option Addr),∃(n c3:Nat),At H12 (a8.add 32) [.slice A n c3] ∧appC 47 9 72 H12 A n c3 [x2,x3,x4,x5,x6,x7,x8,x9,x10] 1 fun (A':Option Addr) (n' c':Nat) (H'4:Heap) =>∃(a9:Addr),m=some a9 ∧StL H'4 (a9.add 32) [.slice A' n' c'] fun H13 =>∃(b4:Bool),TrQ Tryz.prog 53 #[x4] H13 (.bool b4) ∧(b4=true→∃(a10:Addr),
 m=some a10 ∧StL H13 ((a10.add 2).add 25) [.bool true] fun H14=>K (.tuple #[x2,.bool true]) H14) ∧(b4=false→K (.tuple #[x2,.bool true]) H13)) ∧∃(A1:Option Addr) (n1 c6:Nat),At H12 (a8.add 32) [.slice A1 n1 c6] ∧appC 47 9 72 H12 A1 n1 c6 [x2,x3,x4,x5,x6,x7,x8,x9,x10] 1 fun (A'1:Option Addr) (n'1 c'1:Nat) (H'6:Heap) =>∃(a11:Addr),m=some a11 ∧StL H'6 (a11.add 32) [.slice A'1 n'1 c'1] fun H15 =>∃(b5:Bool),TrQ Tryz.prog 53 #[x4] H15 (.bool b5) ∧(b5=true→∃(a12:Addr),m=some a12 ∧StL H15 ((a12.add 2).add 25) [.bool true] fun H16=>K (.tuple #[x2,.bool true]) H16) ∧
 (b5=false→K (.tuple #[x2,.bool true]) H15))) ∧((!b1)=false→∃(a13:Addr),m=some a13 ∧∃(x12:Int),At H (a13.add 30) [x12] ∧∃(a14:Addr),m=some a14 ∧StL H (a14.add 30) [(i64.wrap (x12+1))] fun H17 =>∃(a15:Addr),m=some a15 ∧(∃(A2:Option Addr),∃(n2 c10:Nat),At H17 (a15.add 32) [.slice A2 n2 c10] ∧appC 47 9 72 H17 A2 n2 c10 [(i64.wrap (x+1)),x1,eKind,eA,eB,eC,eD,eE,eF] 1 fun (A'2:Option Addr) (n'2 c'2:Nat) (H'8:Heap) =>∃(a16:Addr),m=some a16 ∧StL H'8 (a16.add 32) [.slice A'2 n'2 c'2] fun H18 =>∃(b6:Bool),TrQ Tryz.prog 53 #[eKind] H18 (.bool b6) ∧(b6=true→∃(a17:Addr),
 m=some a17 ∧StL H18 ((a17.add 2).add 25) [.bool true] fun H19=>K (.tuple #[(i64.wrap (x+1)),.bool true]) H19) ∧(b6=false→K (.tuple #[(i64.wrap (x+1)),.bool true]) H18)) ∧∃(A3:Option Addr) (n3 c13:Nat),At H17 (a15.add 32) [.slice A3 n3 c13] ∧appC 47 9 72 H17 A3 n3 c13 [(i64.wrap (x+1)),x1,eKind,eA,eB,eC,eD,eE,eF] 1 fun (A'3:Option Addr) (n'3 c'3:Nat) (H'10:Heap) =>∃(a18:Addr),m=some a18 ∧StL H'10 (a18.add 32) [.slice A'3 n'3 c'3] fun H110 =>∃(b7:Bool),TrQ Tryz.prog 53 #[eKind] H110 (.bool b7) ∧(b7=true→∃(a19:Addr),m=some a19 ∧
 StL H110 ((a19.add 2).add 25) [.bool true] fun H111=>K (.tuple #[(i64.wrap (x+1)),.bool true]) H111) ∧(b7=false→K (.tuple #[(i64.wrap (x+1)),.bool true]) H110)))

theorem v141 {m:Option Addr} {eId eTime eKind eA eB eC eD eE eF:Int} {H:Heap} {K:Value→Heap→Prop} (h:F141 m eId eTime eKind eA eB eC eD eE eF H K):Tr Tryz.prog 141 #[.pointer m,.agg #[.int .i64 eId,.int .i64 eTime,.int .i64 eKind,.int .i64 eA,.int .i64 eB,.int .i64 eC,.int .i64 eD,.int .i64 eE,.int .i64 eF]] H K :=
 tr_of_eq (C:=c141) Tryz.func141 (by kernel_rfl) h
noncomputable def c142:Cx:={ P:=Tryz.prog,res:=[],pub:=[],loops:=[],quiet:=[],asm:=true }
def F142 (m:Option Addr) (c:Int) (H:Heap) (K:Value→Heap→Prop):Prop:=Tr Tryz.prog 141 #[.pointer m,.agg #[(0:Int),(0:Int),(16:Int),c,(0:Int),(0:Int),(0:Int),(0:Int),(0:Int)]] H fun v H' =>
 ∃(x:Int) (b:Bool),v=.tuple #[x,.bool b] ∧K (.tuple #[]) H'

theorem v142 {m:Option Addr} {c:Int} {H:Heap} {K:Value→Heap→Prop} (h:F142 m c H K):Tr Tryz.prog 142 #[.pointer m,.int .i64 c] H K :=
 tr_of_eq (C:=c142) Tryz.func142 (by kernel_rfl) h
noncomputable def c174:Cx:={ P:=Tryz.prog,res:=[],pub:=[],loops:=[],quiet:=[],draws:=[⟨0,[3],[],true,true⟩],asm:=true }
def F174 (r lA:Option Addr) (ln lc:Nat) (H:Heap) (K:Value→Heap→Prop):Prop :=
 ∃(Hs:Heap),Ax.Sub Hs H ∧∃(a:Addr),r=some a ∧∃(a1:Addr),r=some a1 ∧∃(v:Option Addr),At Hs (a.add 1) [.pointer v] ∧∃(v1:Option Addr),At H (a1.add 1) [.pointer v1] ∧Ax.Sub Hs H ∧∃(a2:Addr),v1=some a2 ∧∃(A:Option Addr) (n c:Nat),At H (a2.add 3) [.slice A n c] ∧Ax.Sub Hs H ∧appS 2 1 8 H A n c lA ln fun A' n' c' H'=>Ax.Sub Hs H' ∧∃(a3:Addr),v=some a3 ∧StL H' (a3.add 3) [.slice A' n' c'] fun H1=>Ax.Sub Hs H1 ∧∃(a4:Addr),r=some a4 ∧∃(v2:Option Addr),At H1 (a4.add 1) [.pointer v2] ∧∃(a5:Addr),v2=some a5 ∧∃(A1:Option Addr) (n1 c2:Nat),At H1 (a5.add 3) [.slice A1 n1 c2] ∧
 (decide ((↑n1:Int)>32)=true→∃(a6:Addr),r=some a6 ∧StL H1 (a6.add 2) [.bool true] fun H11=>K (.tuple #[]) H11) ∧(decide ((↑n1:Int)>32)=false→K (.tuple #[]) H1)

theorem v174 {r lA:Option Addr} {ln lc:Nat} {H:Heap} {K:Value→Heap→Prop} (h:F174 r lA ln lc H K):Tr Tryz.prog 174 #[.pointer r,.slice lA ln lc] H K :=
 tr_of_eq (C:=c174) Tryz.func174 (by kernel_rfl) h
noncomputable def c175:Cx:={ P:=Tryz.prog,res:=[],pub:=[],loops:=[],quiet:=[],asm:=true }
def F175 (is0:Bool) (H:Heap) (K:Value→Heap→Prop):Prop:=(is0=true→K (.int .i64 1) H) ∧
 (is0=false→K (.int .i64 0) H)

theorem v175 {is0:Bool} {H:Heap} {K:Value→Heap→Prop} (h:F175 is0 H K):Tr Tryz.prog 175 #[.bool is0] H K :=
 tr_of_eq (C:=c175) Tryz.func175 (by kernel_rfl) h
noncomputable def c176:Cx:={ P:=Tryz.prog,res:=[],pub:=[],loops:=[],quiet:=[175],asm:=true }
def F176 (op a b:Int) (H:Heap) (K:Value→Heap→Prop):Prop:=((op==5)=true→K (.int .i64 (i64.wrap (a+b))) H) ∧
 ((op==5)=false→((op==6)=true→K (.int .i64 (i64.wrap (a-b))) H) ∧((op==6)=false→((op==7)=true→K (.int .i64 (i64.wrap (a*b))) H) ∧((op==7)=false→((op==10)=true→∃(x:Int),TrQ Tryz.prog 175 #[.bool (a==b)] H (.int .i64 x) ∧K (.int .i64 x) H) ∧((op==10)=false→((op==11)=true→∃(x1:Int),TrQ Tryz.prog 175 #[.bool (decide (a<b))] H (.int .i64 x1) ∧K (.int .i64 x1) H) ∧((op==11)=false→((b==0)=true→K (.int .i64 0) H) ∧((b==0)=false→((op==8)=true→b≠(0:Int) ∧K (.int .i64 (i64.wrap (a.tdiv b))) H) ∧
 ((op==8)=false→b≠(0:Int) ∧K (.int .i64 (a.tmod b)) H)))))))

theorem v176 {op a b:Int} {H:Heap} {K:Value→Heap→Prop} (h:F176 op a b H K):Tr Tryz.prog 176 #[.int .i64 op,.int .i64 a,.int .i64 b] H K :=
 tr_of_eq (C:=c176) Tryz.func176 (by kernel_rfl) h
noncomputable def c167:Cx:={ P:=Tryz.prog,res:=[],pub:=[],loops:=[],quiet:=[],asm:=true }
def F167 (eId eTime eKind eA eB eC eD eE eF wantId wantTime wantKind wantA wantB wantC wantD wantE wantF:Int) (H:Heap) (K:Value→Heap→Prop):Prop:=((eKind==11)=true→K (.bool (eId==wantId&&(eTime==wantTime&&(eKind==wantKind&&(wantA==wantA&&(eB==wantB&&(eC==wantC&&(eD==wantD&&(eE==wantE&&(eF==wantF&&true)))))))))) H) ∧
 ((eKind==11)=false→((eKind==18)=true→K (.bool (eId==wantId&&(eTime==wantTime&&(eKind==wantKind&&(eA==wantA&&(wantB==wantB&&(eC==wantC&&(eD==wantD&&(eE==wantE&&(eF==wantF&&true)))))))))) H) ∧((eKind==18)=false→K (.bool (eId==wantId&&(eTime==wantTime&&(eKind==wantKind&&(eA==wantA&&(eB==wantB&&(eC==wantC&&(eD==wantD&&(eE==wantE&&(eF==wantF&&true)))))))))) H))

theorem v167 {eId eTime eKind eA eB eC eD eE eF wantId wantTime wantKind wantA wantB wantC wantD wantE wantF:Int} {H:Heap} {K:Value→Heap→Prop} (h:F167 eId eTime eKind eA eB eC eD eE eF wantId wantTime wantKind wantA wantB wantC wantD wantE wantF H K):Tr Tryz.prog 167 #[.agg #[.int .i64 eId,.int .i64 eTime,.int .i64 eKind,.int .i64 eA,.int .i64 eB,.int .i64 eC,.int .i64 eD,.int .i64 eE,.int .i64 eF],.agg #[.int .i64 wantId,.int .i64 wantTime,.int .i64 wantKind,.int .i64 wantA,.int .i64 wantB,.int .i64 wantC,.int .i64 wantD,.int .i64 wantE,.int .i64 wantF]] H K :=
 tr_of_eq (C:=c167) Tryz.func167 (by kernel_rfl) h
noncomputable def c194:Cx:={ P:=Tryz.prog,res:=[],pub:=[],loops:=[],quiet:=[],asm:=true }
def F194 (r:Option Addr) (d:Int) (H:Heap) (K:Value→Heap→Prop):Prop :=
 ∃(a:Addr),r=some a ∧∃(v:Option Addr),At H (a.add 1) [.pointer v] ∧∃(a1:Addr),v=some a1 ∧∃(A:Option Addr) (n c:Nat),At H (a1.add 3) [.slice A n c] ∧∃(a2:Addr),((!decide (i64.wrap (i64.wrap ((↑n:Int)-1)-d)<0))=true→r=some a2) ∧∃(v1:Option Addr),((!decide (i64.wrap (i64.wrap ((↑n:Int)-1)-d)<0))=true→At H (a2.add 1) [.pointer v1]) ∧∃(a3:Addr),((!decide (i64.wrap (i64.wrap ((↑n:Int)-1)-d)<0))=true→v1=some a3) ∧∃(A1:Option Addr) (n1 c1:Nat),((!decide (i64.wrap (i64.wrap ((↑n:Int)-1)-d)<0))=true→At H (a3.add 3) [.slice A1 n1 c1]) ∧∃(a4:Addr),
 ((!decide (i64.wrap (i64.wrap ((↑n:Int)-1)-d)<0))=true→A1=some a4 ∧(0:Int)≤i64.wrap (i64.wrap ((↑n:Int)-1)-d) ∧i64.wrap (i64.wrap ((↑n:Int)-1)-d)<(↑n1:Int)) ∧∃(x:Int),((!decide (i64.wrap (i64.wrap ((↑n:Int)-1)-d)<0))=true→At H (a4.add ((i64.wrap (i64.wrap ((↑n:Int)-1)-d)).toNat*1)) [x]) ∧∃(a5:Addr),((!(decide (i64.wrap (i64.wrap ((↑n:Int)-1)-d)<0)||decide (x<0)))=true→r=some a5) ∧∃(v2:Option Addr),((!(decide (i64.wrap (i64.wrap ((↑n:Int)-1)-d)<0)||decide (x<0)))=true→At H (a5.add 1) [.pointer v2]) ∧∃(a6:Addr),
 ((!(decide (i64.wrap (i64.wrap ((↑n:Int)-1)-d)<0)||decide (x<0)))=true→v2=some a6) ∧∃(A2:Option Addr) (n2 c2:Nat),((!(decide (i64.wrap (i64.wrap ((↑n:Int)-1)-d)<0)||decide (x<0)))=true→At H (a6.add 3) [.slice A2 n2 c2]) ∧∃(a7:Addr),((!(decide (i64.wrap (i64.wrap ((↑n:Int)-1)-d)<0)||decide (x<0)))=true→A2=some a7 ∧(0:Int)≤i64.wrap (i64.wrap ((↑n:Int)-1)-d) ∧i64.wrap (i64.wrap ((↑n:Int)-1)-d)<(↑n2:Int)) ∧∃(x1:Int),
 ((!(decide (i64.wrap (i64.wrap ((↑n:Int)-1)-d)<0)||decide (x<0)))=true→At H (a7.add ((i64.wrap (i64.wrap ((↑n:Int)-1)-d)).toNat*1)) [x1]) ∧∃(a8:Addr),((!(decide (i64.wrap (i64.wrap ((↑n:Int)-1)-d)<0)||decide (x<0)))=true→r=some a8) ∧∃(v3:Option Addr),((!(decide (i64.wrap (i64.wrap ((↑n:Int)-1)-d)<0)||decide (x<0)))=true→At H (a8.add 0) [.pointer v3]) ∧∃(a9:Addr),((!(decide (i64.wrap (i64.wrap ((↑n:Int)-1)-d)<0)||decide (x<0)))=true→v3=some a9) ∧∃(A3:Option Addr) (n3 c3:Nat),
 ((!(decide (i64.wrap (i64.wrap ((↑n:Int)-1)-d)<0)||decide (x<0)))=true→At H ((a9.add 2).add 22) [.slice A3 n3 c3]) ∧((decide (i64.wrap (i64.wrap ((↑n:Int)-1)-d)<0)||decide (x<0)||decide (x1≥(↑n3:Int)))=true→∃(a10:Addr),r=some a10 ∧StL H (a10.add 2) [.bool true] fun H1=>K (.int .i64 (-1)) H1) ∧((decide (i64.wrap (i64.wrap ((↑n:Int)-1)-d)<0)||decide (x<0)||decide (x1≥(↑n3:Int)))=false→∃(a11:Addr),r=some a11 ∧∃(v4:Option Addr),At H (a11.add 1) [.pointer v4] ∧∃(a12:Addr),v4=some a12 ∧∃(A4:Option Addr) (n4 c5:Nat),
 At H (a12.add 3) [.slice A4 n4 c5] ∧∃(a13:Addr),InB A4 a13 (i64.wrap (i64.wrap ((↑n:Int)-1)-d)) n4 ∧∃(x2:Int),At H (a13.add ((i64.wrap (i64.wrap ((↑n:Int)-1)-d)).toNat*1)) [x2] ∧K (.int .i64 x2) H)

theorem v194 {r:Option Addr} {d:Int} {H:Heap} {K:Value→Heap→Prop} (h:F194 r d H K):Tr Tryz.prog 194 #[.pointer r,.int .i64 d] H K :=
 tr_of_eq (C:=c194) Tryz.func194 (by kernel_rfl) h
noncomputable def c195:Cx:={ P:=Tryz.prog,res:=[],pub:=[],loops:=[],quiet:=[],asm:=true }
def F195 (r:Option Addr) (H:Heap) (K:Value→Heap→Prop):Prop:=Tr Tryz.prog 150 #[.pointer r] H fun v H' =>
 ∃(x:Int),v=.int .i64 x ∧∃(a:Addr),((!decide (x<0))=true→r=some a) ∧∃(v1:Option Addr),((!decide (x<0))=true→At H' (a.add 0) [.pointer v1]) ∧∃(a1:Addr),((!decide (x<0))=true→v1=some a1) ∧∃(A:Option Addr) (n c:Nat),((!decide (x<0))=true→At H' ((a1.add 2).add 23) [.slice A n c]) ∧((decide (x<0)||decide (x≥(↑n:Int)))=true→∃(a2:Addr),r=some a2 ∧StL H' (a2.add 2) [.bool true] fun H1=>K (.int .i64 x) H1) ∧((decide (x<0)||decide (x≥(↑n:Int)))=false→K (.int .i64 x) H')

theorem v195 {r:Option Addr} {H:Heap} {K:Value→Heap→Prop} (h:F195 r H K):Tr Tryz.prog 195 #[.pointer r] H K :=
 tr_of_eq (C:=c195) Tryz.func195 (by kernel_rfl) h
noncomputable def c196:Cx:={ P:=Tryz.prog,res:=[],pub:=[],loops:=[],quiet:=[],asm:=true }
def F196 (n:Int) (H:Heap) (K:Value→Heap→Prop):Prop:=(0:Int)≤(30:Int) ∧
 (0:Int)≤(27:Int) ∧(0:Int)≤(31:Int) ∧
 K (.int .u64 (bitsI BinOp.xor .u64 (u64.wrap (bitsI BinOp.xor .u64 (u64.wrap (bitsI BinOp.xor .u64 (u64.wrap (n+11400714819323198485)) ((u64.wrap (n+11400714819323198485)).fdiv ((2:Int) ^ shAmt .u64 (30:Int)))*(13787848793156543929:Int))) ((u64.wrap (bitsI BinOp.xor .u64 (u64.wrap (n+11400714819323198485)) ((u64.wrap (n+11400714819323198485)).fdiv ((2:Int) ^ shAmt .u64 (30:Int)))*(13787848793156543929:Int))).fdiv ((2:Int) ^ shAmt .u64 (27:Int)))*(10723151780598845931:Int))) ((u64.wrap (bitsI BinOp.xor .u64 (u64.wrap (bitsI BinOp.xor .u64 (u64.wrap (n+11400714819323198485)) ((u64.wrap (n+11400714819323198485)).fdiv ((2:Int) ^ shAmt .u64 (30:Int)))*(13787848793156543929:Int))) ((u64.wrap (bitsI BinOp.xor .u64 (u64.wrap (n+11400714819323198485)) ((u64.wrap (n+11400714819323198485)).fdiv ((2:Int) ^ shAmt .u64 (30:Int)))*(13787848793156543929:Int))).fdiv ((2:Int) ^ shAmt .u64 (27:Int)))*(10723151780598845931:Int))).fdiv ((2:Int) ^ shAmt .u64 (31:Int))))) H

theorem v196 {n:Int} {H:Heap} {K:Value→Heap→Prop} (h:F196 n H K):Tr Tryz.prog 196 #[.int .u64 n] H K :=
 tr_of_eq (C:=c196) Tryz.func196 (by kernel_rfl) h
noncomputable def c197:Cx:={ P:=Tryz.prog,res:=[],pub:=[50],loops:=[],quiet:=[140],draws:=[⟨2,[1,5,8],[1],true,true⟩,⟨9,[6],[],false,true⟩],asm:=true }
def F197 (r:Option Addr) (eId eTime eKind eA eB eC eD eE eF:Int) (H:Heap) (K:Value→Heap→Prop):Prop :=
 ∃(a:Addr),r=some a ∧∃(v:Option Addr),At H (a.add 0) [.pointer v] ∧∃(Hs:Heap),Ax.Sub Hs H ∧∃(a1:Addr),r=some a1 ∧∃(v1:Option Addr),At Hs (a1.add 1) [.pointer v1] ∧∃(a2:Addr),v1=some a2 ∧∃(x:Int),At Hs (a2.add 2) [x] ∧Ax.Sub Hs H ∧Ax.Sub Hs H ∧∃(a3:Addr),r=some a3 ∧∃(v2:Option Addr),At H (a3.add 1) [.pointer v2] ∧∃(a4:Addr),v2=some a4 ∧∃(x1:Int),At H (a4.add 2) [x1] ∧∃(b:Bool),TrQ Tryz.prog 140 #[.pointer v,x1] H (.bool b) ∧(b=true→∃(a5:Addr),v=some a5 ∧∃(A:Option Addr) (n c:Nat),At H ((a5.add 2).add 22) [.slice A n c] ∧
 ∀b1,H b1=none→∀H1,H1=H.upd b1 (.cells #[.int .i64 (↑n:Int)] 2)→Tr Tryz.prog 174 #[.pointer r,.slice (some (b1:Addr)) (1:Nat) (1:Nat)] H1 fun v4 H'1=>v4=.tuple #[] ∧∃(a6:Addr),v=some a6 ∧(∃(A1:Option Addr),∃(n1 c1:Nat),At H'1 ((a6.add 2).add 22) [.slice A1 n1 c1] ∧appC 81 6 48 H'1 A1 n1 c1 [eKind,(0:Int),x,.bool true,(0:Int),(3:Int)] 1 fun (A':Option Addr) (n' c':Nat) (H'2:Heap) =>∃(a7:Addr),v=some a7 ∧StL H'2 ((a7.add 2).add 22) [.slice A' n' c'] fun H11=>K (.tuple #[]) H11) ∧∃(A2:Option Addr) (n2 c3:Nat),At H'1 ((a6.add 2).add 22) [.slice A2 n2 c3] ∧
 appC 81 6 48 H'1 A2 n2 c3 [eKind,(0:Int),x,.bool true,(0:Int),(3:Int)] 1 fun (A'1:Option Addr) (n'1 c'1:Nat) (H'3:Heap) =>∃(a8:Addr),v=some a8 ∧StL H'3 ((a8.add 2).add 22) [.slice A'1 n'1 c'1] fun H12=>K (.tuple #[]) H12) ∧(b=false→Tr Tryz.prog 141 #[.pointer v,.agg #[eId,eTime,eKind,eA,eB,eC,eD,eE,eF]] H fun v5 H'4 =>∃(x2:Int) (b2:Bool),v5=.tuple #[x2,.bool b2] ∧((!b2)=true→K (.tuple #[]) H'4) ∧((!b2)=false→∃(a9:Addr),v=some a9 ∧∃(A3:Option Addr) (n3 c5:Nat),At H'4 ((a9.add 2).add 22) [.slice A3 n3 c5] ∧
 ∀b3,H'4 b3=none→∀H13,H13=H'4.upd b3 (.cells #[.int .i64 (↑n3:Int)] 2)→Tr Tryz.prog 174 #[.pointer r,.slice (some (b3:Addr)) (1:Nat) (1:Nat)] H13 fun v6 H'5=>v6=.tuple #[] ∧∃(a10:Addr),v=some a10 ∧(∃(A4:Option Addr),∃(n4 c6:Nat),At H'5 ((a10.add 2).add 22) [.slice A4 n4 c6] ∧appC 81 6 48 H'5 A4 n4 c6 [eKind,x2,x,.bool false,(0:Int),(0:Int)] 1 fun (A'2:Option Addr) (n'2 c'2:Nat) (H'6:Heap) =>∃(a11:Addr),v=some a11 ∧StL H'6 ((a11.add 2).add 22) [.slice A'2 n'2 c'2] fun H14=>K (.tuple #[]) H14) ∧∃(A5:Option Addr) (n5 c8:Nat),At H'5 ((a10.add 2).add 22) [.slice A5 n5 c8] ∧
 appC 81 6 48 H'5 A5 n5 c8 [eKind,x2,x,.bool false,(0:Int),(0:Int)] 1 fun (A'3:Option Addr) (n'3 c'3:Nat) (H'7:Heap) =>∃(a12:Addr),v=some a12 ∧StL H'7 ((a12.add 2).add 22) [.slice A'3 n'3 c'3] fun H15=>K (.tuple #[]) H15))

theorem v197 {r:Option Addr} {eId eTime eKind eA eB eC eD eE eF:Int} {H:Heap} {K:Value→Heap→Prop} (h:F197 r eId eTime eKind eA eB eC eD eE eF H K):Tr Tryz.prog 197 #[.pointer r,.agg #[.int .i64 eId,.int .i64 eTime,.int .i64 eKind,.int .i64 eA,.int .i64 eB,.int .i64 eC,.int .i64 eD,.int .i64 eE,.int .i64 eF]] H K :=
 tr_of_eq (C:=c197) Tryz.func197 (by kernel_rfl) h
section
variable {G H:Heap} {m:Nat} {pf po:SlH} {sl:Nat→SlH} {F:Heap} {ex:Value} {st:List SlH} {s:VS}
theorem VMX.futLen (h:VMX G H m pf po sl F ex st s):(sl 1).n=s.futures.length:=by
 have:=(h.ok 1 (by decide)).len
 have e:contC sl st s 1=s.futures.flatMap futC:=rfl
 rw [e,flat_size (cells:=futC) (sz:=6) (fun _=>rfl)] at this
 have z:szC 1=6:=rfl
 rw [z] at this; omega
theorem VMX.scpLen (h:VMX G H m pf po sl F ex st s):(sl 2).n=s.scopes.length:=by
 have:=(h.ok 2 (by decide)).len
 have e:contC sl st s 2=s.scopes.flatMap scpC:=rfl
 rw [e,flat_size (cells:=scpC) (sz:=2) (fun _=>rfl)] at this
 have z:szC 2=2:=rfl
 rw [z] at this; omega
theorem VMX.thrLen (h:VMX G H m pf po sl F ex st s):(sl 0).n=s.threads.length:=by
 have:=(h.ok 0 (by decide)).len
 have e:contC sl st s 0=(s.threads.zip st).flatMap thrC:=rfl
 rw [e,flat_size (cells:=thrC) (sz:=9) (fun _=>rfl),List.length_zip,h.stl,Nat.min_self] at this
 have z:szC 0=9:=rfl
 rw [z] at this; omega
theorem VMX.sigLen (h:VMX G H m pf po sl F ex st s):(sl 3).n=8:=by
 have:=(h.ok 3 (by decide)).len
 have e:contC sl st s 3=(List.range 8).map (fun k=>(sl (6+k)).v):=rfl
 have z:szC 3=1:=rfl
 rw [e,List.length_map,List.length_range,z] at this; omega
theorem VMX.fut (h:VMX G H m pf po sl F ex st s) {i:Nat} {f:Fut} (hf:s.futures[i]?=some f):∃a,(sl 1).A=some a∧At H (a.add (i*6)) (futC f) :=
 src_elem (cells:=futC) (sz:=6) (fun _=>rfl) (by decide) (h.ok 1 (by decide)).src i f hf
theorem VMX.scp (h:VMX G H m pf po sl F ex st s) {i:Nat} {f:Scp} (hf:s.scopes[i]?=some f):∃a,(sl 2).A=some a∧At H (a.add (i*2)) (scpC f) :=
 src_elem (cells:=scpC) (sz:=2) (fun _=>rfl) (by decide) (h.ok 2 (by decide)).src i f hf
theorem VMX.thr (h:VMX G H m pf po sl F ex st s) {i:Nat} {t:Thr} (ht:s.threads[i]?=some t):∃a q,(sl 0).A=some a∧st[i]?=some q∧HasL (dif F G) q t.stack∧At H (a.add (i*9)) (thrC (t,q)):=by
 have hl:=get_lt ht
 obtain ⟨q,hq⟩:∃q,st[i]?=some q:=⟨st[i]'(by rw [h.stl]; exact hl),by simp⟩
 have hz:(s.threads.zip st)[i]?=some (t,q):=by rw [List.getElem?_zip_eq_some]; exact ⟨ht,hq⟩
 obtain ⟨a,ha,hat⟩:=src_elem (cells:=thrC) (sz:=9) (fun _=>rfl) (by decide) (h.ok 0 (by decide)).src i (t,q) hz
 exact ⟨a,q,ha,hq,h.stk i t q ht hq,hat⟩
theorem VMX.sig (h:VMX G H m pf po sl F ex st s) {k:Nat} (hk:k<8):∃a,(sl 3).A=some a∧At H (a.add (k*1)) [(sl (6+k)).v]:=by
 have:=src_elem (cells:=fun i:Nat=>[(sl (6+i)).v]) (sz:=1) (fun _=>rfl) (by decide) (H:=H) (A:=(sl 3).A) (l:=List.range 8) (by
  have e:=(h.ok 3 (by decide)).src
  have e2:contC sl st s 3=(List.range 8).flatMap (fun i:Nat=>[(sl (6+i)).v]):=rfl
  rw [e2] at e; exact e) k k (by simp [hk])
 exact this
theorem VMX.sigN (h:VMX G H m pf po sl F ex st s) {k:Nat} (hk:k<8):(sl (6+k)).n=(s.signals[k]?.getD []).length:=by
 have:=(h.ok (6+k) (by omega)).len
 have e:contC sl st s (6+k)=intsC (s.signals[k]?.getD []):=by
  unfold contC
  rw [if_neg (by omega),if_neg (by omega),if_neg (by omega),if_neg (by omega),if_neg (by omega),if_neg (by omega)]
  have:6+k-6=k:=by omega
  rw [this]
 have z:szC (6+k)=1:=by unfold szC; rw [if_neg (by omega),if_neg (by omega),if_neg (by omega),if_neg (by omega),if_neg (by omega),if_neg (by omega)]
 rw [e,z] at this; unfold intsC at this; rw [List.length_map] at this; omega
theorem VMX.c24 (h:VMX G H m pf po sl F ex st s):At H ((⟨m,0,none⟩:Addr).add 24) [(sl 1).v]:=h.cell rfl
theorem VMX.c25 (h:VMX G H m pf po sl F ex st s):At H ((⟨m,0,none⟩:Addr).add 25) [(sl 2).v]:=h.cell rfl
theorem VMX.c26 (h:VMX G H m pf po sl F ex st s):At H ((⟨m,0,none⟩:Addr).add 26) [(sl 3).v]:=h.cell rfl
theorem VMX.c23 (h:VMX G H m pf po sl F ex st s):At H ((⟨m,0,none⟩:Addr).add 23) [(sl 0).v]:=h.cell rfl
theorem VS.future_none {id:Int} (h:∀j,j<s.futures.length→s.futHit id j=none):s.future id=-1:=by unfold VS.future; rw [scan_none h]
theorem VS.future_hit {id:Int} {k:Nat} (hk:k<s.futures.length) (h:∀j,j<k→s.futHit id j=none) (e:s.futHit id k=some (k:Int)):s.future id=k:=by unfold VS.future; rw [scan_hit hk h e]
theorem t111 (h : VMX G H m pf po sl F ex st s) (hb : s.futures.length≤1000000) (id : Int) :
  Tr Tryz.prog 111 #[.pointer (some ⟨m,0,none⟩),.int .i64 id] H (fun v H'=>v=.int .i64 (s.future id)∧Sub H H'):=by
 have hl:=h.futLen
 apply v111; unfold F111
 refine ⟨_,rfl,_,_,_,h.c24,RSc H s.futures.length (s.futHit id),fun i _=>((s.futures.length:Int)-i).toNat,RSc.zero,fun i H1 r=>?_⟩
 obtain ⟨k,rfl,hk,hs⟩:=r.k
 have hH:=r.heap; subst hH
 refine ⟨fun hlt=>?_,fun hge=>?_⟩
 ·have hlt:(k:Int)<(sl 1).n:=of_decide_eq_true hlt
  obtain ⟨f,hf⟩:=get_some (l:=s.futures) (i:=k) (by omega)
  obtain ⟨a,ha,hat⟩:=h.fut hf
  refine ⟨a,⟨ha,by omega,hlt⟩,_,_,_,_,_,_,hat,fun e=>⟨?_,Sub.refl _⟩,fun e=>?_⟩
  ·rw [VS.future_hit (k:=k) (by omega) hs (by unfold VS.futHit; rw [hf]; simp only; rw [if_pos e])]
  ·exact RSc.next r rfl (by omega) (by omega) (by unfold VS.futHit; rw [hf]; simp only; rw [if_neg (by rw [e]; simp)])
 ·have hge:¬(k:Int)<(sl 1).n:=of_decide_eq_false hge
  refine ⟨?_,Sub.refl _⟩
  rw [VS.future_none (fun j hj=>hs j (by omega))]
def ScpOk (l:List Scp):Prop:=∀(i:Nat) (c:Scp),l[i]?=some c→c.parent<i
theorem cancG_enough (hp:ScpOk s.scopes):∀(f:Nat) (i:Int) (g:Nat),i<f→f≤g→s.cancG g i=s.cancG f i
 | 0,i,g,h,_=>by
  have:i<0:=by omega
  cases g with
  | zero=>rfl
  | succ g=>unfold VS.cancG; rw [if_pos this]
 | f+1,i,0,h,h2=>by omega
 | f+1,i,g+1,h,h2=>by
  unfold VS.cancG
  by_cases hi:i<0
  ·rw [if_pos hi,if_pos hi]
  ·rw [if_neg hi,if_neg hi]
   cases hc:s.scopes[i.toNat]? with
   | none=>rfl
   | some c =>
    simp only
    have:=hp _ _ hc
    rw [cancG_enough hp f c.parent g (by omega) (by omega)]
theorem VS.cancelled_neg {i:Int} (h:i<0):s.cancelled i=false:=by unfold VS.cancelled VS.cancG; rw [if_pos h]
theorem VS.cancelled_at (hp:ScpOk s.scopes) {k:Nat} {c:Scp} (hc:s.scopes[k]?=some c):s.cancelled k=if c.cancelled=true then true else s.cancelled c.parent:=by
 have hk:=get_lt hc
 have e:s.cancelled k=if c.cancelled=true then true else s.cancG s.scopes.length c.parent:=by
  show s.cancG (s.scopes.length+1) k=_
  rw [VS.cancG,if_neg (by omega),Int.toNat_natCast,hc]
 have:=hp _ _ hc
 rw [e,show s.cancelled c.parent=s.cancG (s.scopes.length+1) c.parent from rfl,cancG_enough hp s.scopes.length c.parent (s.scopes.length+1) (by omega) (by omega)]
theorem t140 (h : VMX G H m pf po sl F ex st s) (hp : ScpOk s.scopes) (i : Int) (hi : i<s.scopes.length) :
  Tr Tryz.prog 140 #[.pointer (some ⟨m,0,none⟩),.int .i64 i] H (fun v H'=>v=.bool (s.cancelled i)∧Sub H H'):=by
 have hl:=h.scpLen
 apply v140; unfold F140
 refine ⟨fun x H1=>H1=H∧x<s.scopes.length∧s.cancelled x=s.cancelled i,fun x _=>(x+1).toNat,⟨rfl,hi,rfl⟩,fun x H1 r=>?_⟩
 obtain ⟨rfl,h1,h2⟩:=r
 refine ⟨fun hx=>?_,fun hx=>?_⟩
 ·have hx:x≥0:=of_decide_eq_true hx
  obtain ⟨k,rfl⟩:∃k:Nat,x=k:=⟨x.toNat,by omega⟩
  obtain ⟨c,hc⟩:=get_some (l:=s.scopes) (i:=k) (by omega)
  obtain ⟨a,ha,hat⟩:=h.scp hc
  have hca:=VS.cancelled_at hp hc
  have hpar:=hp _ _ hc
  refine ⟨_,rfl,_,_,_,h.c25,a,⟨ha,by omega,by omega⟩,_,at_one 1 hat rfl,fun e=>⟨?_,Sub.refl _⟩,fun e=>⟨_,rfl,_,_,_,h.c25,a,⟨ha,by omega,by omega⟩,_,at_one 0 hat rfl,⟨rfl,by omega,?_⟩,show (c.parent+1).toNat<((k:Int)+1).toNat by omega⟩⟩
  ·rw [←h2,hca,if_pos e]
  ·rw [←h2,hca,if_neg (by rw [e]; simp)]
 ·have hx:¬x≥0:=of_decide_eq_false hx
  exact ⟨by rw [←h2,VS.cancelled_neg (by omega)],Sub.refl _⟩
theorem t117 (h : VMX G H m pf po sl F ex st s) (t : Thr) (q : SlH) (h1 : t.waits<s.futures.length) (h2 : t.signal<8) :
  Tr Tryz.prog 117 #[.pointer (some ⟨m,0,none⟩),.agg ⟨thrC (t,q)⟩] H (fun v H'=>v=.bool (s.ready t)∧Sub H H'):=by
 have hl:=h.futLen
 apply v117; unfold F117
 unfold VS.ready
 refine ⟨fun e=>?_,fun e=>⟨fun e2=>?_,fun e2=>⟨?_,Sub.refl _⟩⟩⟩
 ·rw [if_pos e]
  have e:t.waits≥0:=of_decide_eq_true e
  obtain ⟨f,hf⟩:=get_some (l:=s.futures) (i:=t.waits.toNat) (by omega)
  obtain ⟨a,ha,hat⟩:=h.fut hf
  rw [hf]
  exact ⟨_,rfl,_,_,_,h.c24,a,⟨ha,e,show t.waits<((sl 1).n:Int) by omega⟩,_,at_one 3 hat rfl,rfl,Sub.refl _⟩
 ·rw [if_neg (by rw [e]; simp),if_pos e2]
  have e2:t.signal≥0:=of_decide_eq_true e2
  have hk:t.signal.toNat<8:=by omega
  obtain ⟨a,ha,hat⟩:=h.sig hk
  refine ⟨_,rfl,_,_,_,h.c26,a,⟨ha,e2,show t.signal<((sl 3).n:Int) by rw [h.sigLen]; omega⟩,_,_,_,hat,?_,Sub.refl _⟩
  rw [h.sigN hk]
 ·rw [if_neg (by rw [e]; simp),if_neg (by rw [e2]; simp)]
end
end Go.Proofs.YtkofafcgcnciaaaGreatDoor
set_option maxRecDepth 100000
namespace Go.Ax
theorem flat_set {α:Type} {cells:α→List Value} {sz:Nat} (hsz:∀x,(cells x).length=sz):∀(l:List α) (i:Nat) (x y:α) (j:Nat) (v:Value),l[i]?=some x→j<sz→(cells x).set j v=cells y→(l.flatMap cells).set (i*sz+j) v=(l.set i y).flatMap cells
 | [],i,x,y,j,v,h,_,_=>by simp at h
 | z::l,0,x,y,j,v,h,hj,e=>by
  simp at h; subst h
  rw [List.set_cons_zero,List.flatMap_cons,List.flatMap_cons,Nat.zero_mul,Nat.zero_add,List.set_append_left _ _ (by rw [hsz]; exact hj),e]
 | z::l,i+1,x,y,j,v,h,hj,e=>by
  rw [List.set_cons_succ,List.flatMap_cons,List.flatMap_cons]
  have q:(i+1)*sz+j=(cells z).length+(i*sz+j):=by rw [hsz,Nat.add_mul]; omega
  rw [q,List.set_append_right _ _ (by omega)]
  have q2:(cells z).length+(i*sz+j)-(cells z).length=i*sz+j:=by omega
  rw [q2,flat_set hsz l i x y j v (by simpa using h) hj e]
theorem add2 (m i j:Nat):((⟨m,0,none⟩:Addr).add i).add j=(⟨m,0,none⟩:Addr).add (i+j):=add_add _ _ _
end Go.Ax
namespace Go.Proofs.YtkofafcgcnciaaaGreatDoor
open Go.Ax
section
variable {G H:Heap} {m:Nat} {pf po:SlH} {sl:Nat→SlH} {F:Heap} {ex:Value} {st:List SlH} {s:VS}
theorem mCells_len:(mCells pf po sl ex s).length=36:=rfl
def Wr (H:Heap) (a:Addr) (v:Value) (Q:Heap→Prop):Prop :=
 ∃(cur:Array Value) (T:TypeId),H a.block=some (.cells cur T (0,0))∧a.spot=none∧a.off+[v].length≤cur.size∧∀H1,H1=H.upd a.block (.cells (splice cur a.off [v]) T (0,0))→Q H1
theorem wr_cells {cs:List Value} {T:TypeId} (hm:H m=some (.cells ⟨cs⟩ T (0,0))) {k:Nat} (hk:k<cs.length) {v:Value} {Q:Heap→Prop} (q:Q (H.upd m (.cells ⟨cs.set k v⟩ T (0,0)))):Wr H ((⟨m,0,none⟩:Addr).add k) v Q:=by
 refine ⟨_,_,by rw [add_block]; exact hm,add_spot _ _,by rw [add_off]; exact hk,fun H1 e=>?_⟩
 rw [add_block,add_off,splice_one hk] at e
 rw [e]; exact q
theorem VMX.wr (h : VMX G H m pf po sl F ex st s) {k : Nat} (hk : k<36) {v : Value} (s' : VS) (e : (mCells pf po sl ex s).set k v=mCells pf po sl ex s')
  (e1:s'.threads=s.threads) (e2:s'.futures=s.futures) (e3:s'.scopes=s.scopes) (e4:s'.signals=s.signals) (e5:s'.updates=s.updates) (e6:s'.made=s.made) (e7:s'.expect=s.expect) (e8:s'.vars.length=16) (e9:s'.attrs.length=4)
  {Q:Heap→Prop} (q:∀H',VMX G H' m pf po sl F ex st s'→Q H'):Wr H ((⟨m,0,none⟩:Addr).add k) v Q :=
 wr_cells h.hm (by rw [mCells_len]; exact hk) (by rw [e]; exact q _ (h.set s' e1 e2 e3 e4 e5 e6 e7 e8 e9))
theorem VMX.wrSl (h : VMX G H m pf po sl F ex st s) {c : Nat} (hc : c<14) {hn : SlH} {cs : List Value} (r : Ready F H m sl ex c hn cs) {k : Nat} (hk : k<36) (s' : VS) (st' : List SlH) (e : (mCells pf po sl ex s).set k hn.v=mCells pf po (setH sl c hn) ex s')
  (e0:contC (setH sl c hn) st' s' c=cs) (ec:∀c',c'<14→c'≠c→contC (setH sl c hn) st' s' c'=contC sl st s c') (e7:s'.expect=s.expect) (e8:s'.vars.length=16) (e9:s'.attrs.length=4) (e10:s'.signals.length=8)
  (e11:st'.length=s'.threads.length) (e12:∀(j:Nat) (t:Thr) (q:SlH),s'.threads[j]?=some t→st'[j]?=some q→HasL (dif F G) q t.stack)
  {Q:Heap→Prop} (q:∀H',VMX G H' m pf po (setH sl c hn) F ex st' s'→Q H'):Wr H ((⟨m,0,none⟩:Addr).add k) hn.v Q :=
 wr_cells h.hm (by rw [mCells_len]; exact hk) (by rw [e]; exact q _ (h.setSl hc r s' st' e0 ec e7 e8 e9 e10 e11 e12))
theorem VMX.wrFut (h : VMX G H m pf po sl F ex st s) {i : Nat} {f g : Fut} (hf : s.futures[i]?=some f) {a : Addr} (ha : (sl 1).A=some a) {j : Nat} (hj : j<6) {v : Value} (e : (futC f).set j v=futC g)
  {Q:Heap→Prop} (q:∀H',VMX G H' m pf po sl F ex st { s with futures:=s.futures.set i g }→Q H'):Wr H ((a.add (i*6)).add j) v Q:=by
 have hi:=get_lt hf
 have hcl:(contC sl st s 1).length=s.futures.length*6:=flat_size (cells:=futC) (sz:=6) (fun _=>rfl) _
 rw [add_add]
 refine h.put (c:=1) (by decide) ha (k:=i*6+j) (by rw [hcl]; omega) { s with futures:=s.futures.set i g } (flat_set (cells:=futC) (sz:=6) (fun _=>rfl) s.futures i f g j v hf hj e).symm (fun c' _ hne=>?_) rfl rfl rfl h.vars h.attrs h.sigs q
 unfold contC; rw [if_neg hne,if_neg hne]
theorem VS.setDone_pos {i v k:Int} {f:Fut} (hf:s.futures[i.toNat]?=some f) (hi:0≤i) (hd:f.done=false):s.setDone i v k={ s with futures:=s.futures.set i.toNat (f.end_ v k) }:=by
 unfold VS.setDone; rw [hf]; simp only; rw [if_pos (by rw [hd]; simpa using hi)]
theorem VS.setDone_neg {i v k:Int} (hi:i<0):s.setDone i v k=s:=by
 unfold VS.setDone; split
 ·rw [if_neg (by rw [Bool.and_eq_true,decide_eq_true_iff]; omega)]
 ·rfl
theorem VS.setDone_done {i v k:Int} {f:Fut} (hf:s.futures[i.toNat]?=some f) (hd:f.done=true):s.setDone i v k=s:=by
 unfold VS.setDone; rw [hf]; simp only; rw [if_neg (by rw [hd]; simp)]
theorem t110 (h : VMX G H m pf po sl F ex st s) (i v k : Int) (hi : i<s.futures.length) :
  Tr Tryz.prog 110 #[.pointer (some ⟨m,0,none⟩),.int .i64 i,.int .i64 v,.int .i64 k] H (fun r H'=>r=.tuple #[]∧VMX G H' m pf po sl F ex st (s.setDone i v k)):=by
 have hl:=h.futLen
 apply v110; unfold F110
 by_cases hn:i≥0
 ·obtain ⟨f,hf⟩:=get_some (l:=s.futures) (i:=i.toNat) (by omega)
  obtain ⟨a,ha,hat⟩:=h.fut hf
  have hin:(i:Int)<((sl 1).n:Int):=by omega
  refine ⟨_,fun _=>rfl,_,_,_,fun _=>h.c24,a,fun _=>⟨ha,hn,hin⟩,f.done,fun _=>at_one 3 hat rfl,fun e=>?_,fun e=>⟨rfl,?_⟩⟩
  ·have hd : f.done=false := by
    rw [Bool.and_eq_true] at e
    simpa using e.2
   refine ⟨_,rfl,_,_,_,h.c24,a,⟨ha,hn,hin⟩,_,rfl,?_⟩
   refine h.wrFut (g:={ f with done:=true }) hf ha (j:=3) (by decide) rfl fun H1 h1=>⟨_,rfl,?_⟩
   have hi':i.toNat<s.futures.length:=get_lt hf
   have hf1:({ s with futures:=s.futures.set i.toNat { f with done:=true } }:VS).futures[i.toNat]?=some { f with done:=true }:=by
    show (s.futures.set i.toNat _)[i.toNat]?=_
    rw [List.getElem?_set_self hi']
   refine h1.wrFut (g:={ f with done:=true,value:=v }) hf1 ha (j:=4) (by decide) rfl fun H2 h2=>⟨_,rfl,?_⟩
   rw [show ({ ({ s with futures:=s.futures.set i.toNat { f with done:=true } }:VS) with futures:=({ s with futures:=s.futures.set i.toNat { f with done:=true } }:VS).futures.set i.toNat { f with done:=true,value:=v } }:VS)={ s with futures:=s.futures.set i.toNat { f with done:=true,value:=v } } from by simp [List.set_set]] at h2
   have hf2:({ s with futures:=s.futures.set i.toNat { f with done:=true,value:=v } }:VS).futures[i.toNat]?=some { f with done:=true,value:=v }:=by
    show (s.futures.set i.toNat _)[i.toNat]?=_
    rw [List.getElem?_set_self hi']
   refine h2.wrFut (g:=f.end_ v k) hf2 ha (j:=5) (by decide) rfl fun H3 h3=>⟨rfl,?_⟩
   rw [VS.setDone_pos hf hn hd]
   rw [show ({ ({ s with futures:=s.futures.set i.toNat { f with done:=true,value:=v } }:VS) with futures:=({ s with futures:=s.futures.set i.toNat { f with done:=true,value:=v } }:VS).futures.set i.toNat (f.end_ v k) }:VS)={ s with futures:=s.futures.set i.toNat (f.end_ v k) } from by simp [List.set_set]] at h3
   exact h3
  ·have hd : f.done=true := by
    rw [decide_eq_true hn] at e
    simpa using e
   rw [VS.setDone_done hf hd]; exact h
 ·have e0:decide (i≥(0:Int))=false:=decide_eq_false hn
  rw [e0]
  refine ⟨⟨0,0,none⟩,fun e=>absurd e (by simp),none,0,0,fun e=>absurd e (by simp),⟨0,0,none⟩,fun e=>absurd e (by simp),false,fun e=>absurd e (by simp),fun e=>absurd e (by simp),fun _=>⟨rfl,?_⟩⟩
  rw [VS.setDone_neg (by omega)]; exact h
end
set_option linter.unusedVariables false
open IntKind
noncomputable def c23:Cx:={ P:=Tryz.prog,res:=[],pub:=[],loops:=[⟨8,[(11,.int .i64)],[4,5,6,12,13,14,32,33,34,35,36,37,38,39,40,41,42,43,44,45,46,47,48,49,50,51,52,53,54,55,56,57,58,59,60,61,62,63,64,65,66,67,68,69,70,71,72,73,74,75,76,77,78,79,80,81,82,83,84,85,86,87,88,89,90,91,92,93,94,95,96],[]⟩],quiet:=[36,69],asm:=true,dyn:=[70] }
def F23 (pFuncsA:Option Addr) (pFuncsn pFuncsc:Nat) (pOptsA:Option Addr) (pOptsn pOptsc:Nat) (hA:Option Addr) (hn hc:Nat) (H:Heap) (K:Value→Heap→Prop):Prop:=Tr Tryz.prog 63 #[.agg #[.slice pFuncsA pFuncsn pFuncsc,.slice pOptsA pOptsn pOptsc]] H fun v H' =>
 ∃(v1:Option Addr) (x:Int),v=.tuple #[.pointer v1,x] ∧((x != 0)=true→K (.tuple #[.pointer none,x,(0:Int)]) H') ∧((x != 0)=false→∃(x1 x2:Int),TrQ Tryz.prog 36 #[.slice hA hn hc] H' (.tuple #[x1,x2]) ∧((x1 != 0)=true→K (.tuple #[.pointer none,x1,x2]) H') ∧((x1 != 0)=false→∃(Rel:Int→Heap→Prop) (mu:Int→Heap→Nat),Rel (0:Int) H' ∧∀(x3:Int) (H1:Heap),Rel x3 H1→(decide (x3<(↑hn:Int))=true→∃(a:Addr),InB hA a x3 hn ∧∃(x4:Int),At H1 ((a.add (x3.toNat*9)).add 2) [x4] ∧((x4 != 2)=true→∃(a1:Addr),InB hA a1 x3 hn ∧∃(x5 x6 x7 x8 x9 x10 x11 x12 x13:Int),
 At H1 (a1.add (x3.toNat*9)) [x5,x6,x7,x8,x9,x10,x11,x12,x13] ∧Tr Tryz.prog 64 #[.pointer v1,.agg #[x5,x6,x7,x8,x9,x10,x11,x12,x13]] H1 fun v3 H'2 =>∃(x14:Int),v3=.int .i64 x14 ∧((x14 != 0)=true→K (.tuple #[.pointer none,(53:Int),x3]) H'2) ∧((x14 != 0)=false→Rel (i64.wrap (x3+1)) H'2 ∧mu (i64.wrap (x3+1)) H'2<mu x3 H1)) ∧((x4 != 2)=false→Tr Tryz.prog 67 #[.slice hA hn hc,(i64.wrap (x3+1))] H1 fun v4 H'3 =>∃(g:Nat) (first cap:List Value),v4=.func (Fn.func g) { toList:=((g,first,cap),()).fst.snd.fst } { toList:=((g,first,cap),()).fst.snd.snd } ∧
 Tr Tryz.prog 66 #[.func (Fn.func g) { toList:=((g,first,cap),()).fst.snd.fst } { toList:=((g,first,cap),()).fst.snd.snd }] H'3 fun v5 H'4 =>∃(A:Option Addr) (n c:Nat),v5=.slice A n c ∧Tr Tryz.prog 65 #[.slice A n c] H'4 fun v6 H'5 =>∃(g1:Nat) (first1 cap1:List Value),v6=.func (Fn.func g1) { toList:=((g1,first1,cap1),()).fst.snd.fst } { toList:=((g1,first1,cap1),()).fst.snd.snd } ∧∃(a2:Addr),v1=some a2 ∧StL H'5 (a2.add 34) [.func (Fn.func g1) { toList:=((g1,first1,cap1),()).fst.snd.fst } { toList:=((g1,first1,cap1),()).fst.snd.snd }] fun H1_1 =>∃(a3:Addr),InB hA a3 x3 hn ∧
 ∃(x15:Int),At H1_1 ((a3.add (x3.toNat*9)).add 1) [x15] ∧Tr Tryz.prog 68 #[.pointer v1,x15] H1_1 fun v7 H'6=>v7=.tuple #[] ∧∃(g2:Nat) (all:List Value),isFn Tryz.prog (.func (Fn.func g1) { toList:=((g1,first1,cap1),()).fst.snd.fst } { toList:=((g1,first1,cap1),()).fst.snd.snd }) [] g2 all ∧Tr Tryz.prog g2 { toList:=all } H'6 fun v8 H'7 =>∃(x16 x17 x18 x19 x20 x21 x22 x23 x24:Int) (b:Bool),v8=.tuple #[.agg #[x16,x17,x18,x19,x20,x21,x22,x23,x24],.bool b] ∧∃(a4:Addr),v1=some a4 ∧StL H'7 (a4.add 34) [.nilFunc] fun H11 =>∃(a5:Addr),v1=some a5 ∧∃(A1:Option Addr) (n1 c3:Nat),
 At H11 (a5.add 32) [.slice A1 n1 c3] ∧∃(a6:Addr),v1=some a6 ∧∃(b1:Bool),At H11 (a6.add 35) [.bool b1] ∧∃(b2:Bool),((!b1&&b)=true→Tr Tryz.prog 69 #[.agg #[x16,x17,x18,x19,x20,x21,x22,x23,x24]] H11 fun v9 H'8=>v9=.bool b2 ∧Ax.Sub H11 H'8) ∧((b1||b&&!b2)=true→K (.tuple #[.pointer none,(53:Int),(i64.wrap (x3+(↑n1:Int)))]) H11) ∧((b1||b&&!b2)=false→Rel (i64.wrap (x3+(↑n1:Int))) H11 ∧mu (i64.wrap (x3+(↑n1:Int))) H11<mu x3 H1))) ∧(decide (x3<(↑hn:Int))=false→K (.tuple #[.pointer v1,(0:Int),(0:Int)]) H1)))

theorem v23 {pFuncsA:Option Addr} {pFuncsn pFuncsc:Nat} {pOptsA:Option Addr} {pOptsn pOptsc:Nat} {hA:Option Addr} {hn hc:Nat} {H:Heap} {K:Value→Heap→Prop} (h:F23 pFuncsA pFuncsn pFuncsc pOptsA pOptsn pOptsc hA hn hc H K):Tr Tryz.prog 23 #[.agg #[.slice pFuncsA pFuncsn pFuncsc,.slice pOptsA pOptsn pOptsc],.slice hA hn hc] H K :=
 tr_of_eq (C:=c23) Tryz.func23 (by kernel_rfl) h
noncomputable def c65:Cx:={ P:=Tryz.prog,res:=[],pub:=[1],loops:=[],quiet:=[],asm:=true }
def F65 (lA:Option Addr) (ln lc:Nat) (H:Heap) (K:Value→Heap→Prop):Prop:=∀b,H b=none→∀H1,H1=H.upd b (.cells #[.slice lA ln lc] 27)→K (.func (Fn.func (112:Nat)) #[] #[.pointer (some (b:Addr))]) H1

theorem v65 {lA:Option Addr} {ln lc:Nat} {H:Heap} {K:Value→Heap→Prop} (h:F65 lA ln lc H K):Tr Tryz.prog 65 #[.slice lA ln lc] H K :=
 tr_of_eq (C:=c65) Tryz.func65 (by kernel_rfl) h
noncomputable def c66:Cx:={ P:=Tryz.prog,res:=[],pub:=[],loops:=[],quiet:=[],asm:=true }
def F66 (seq:Value) (H:Heap) (K:Value→Heap→Prop):Prop:=Tr Tryz.prog 113 #[.slice none 0 0,seq] H fun v H' =>
 ∃(A:Option Addr) (n c:Nat),v=.slice A n c ∧K (.slice A n c) H'

theorem v66 {seq:Value} {H:Heap} {K:Value→Heap→Prop} (h:F66 seq H K):Tr Tryz.prog 66 #[seq] H K :=
 tr_of_eq (C:=c66) Tryz.func66 (by kernel_rfl) h
noncomputable def c67:Cx:={ P:=Tryz.prog,res:=[],pub:=[2,3],loops:=[],quiet:=[],asm:=true }
def F67 (hA:Option Addr) (hn hc:Nat) (from0:Int) (H:Heap) (K:Value→Heap→Prop):Prop:=∀b,H b=none→∀H1,H1=H.upd b (.cells #[.slice hA hn hc] 27)→∀b1,H1 b1=none→∀H11,H11=H1.upd b1 (.cells #[from0] 3)→K (.func (Fn.func (114:Nat)) #[] #[.pointer (some (b:Addr)),.pointer (some (b1:Addr))]) H11

theorem v67 {hA:Option Addr} {hn hc:Nat} {from0:Int} {H:Heap} {K:Value→Heap→Prop} (h:F67 hA hn hc from0 H K):Tr Tryz.prog 67 #[.slice hA hn hc,.int .i64 from0] H K :=
 tr_of_eq (C:=c67) Tryz.func67 (by kernel_rfl) h
noncomputable def c112:Cx:={ P:=Tryz.prog,res:=[],pub:=[],loops:=[],quiet:=[],asm:=true }
def F112 (cap0:Addr) (H:Heap) (K:Value→Heap→Prop):Prop :=
 ∃(A:Option Addr) (n c:Nat),At H cap0 [.slice A n c] ∧(((↑n:Int)==0)=true→K (.tuple #[.agg #[(0:Int),(0:Int),(0:Int),(0:Int),(0:Int),(0:Int),(0:Int),(0:Int),(0:Int)],.bool false]) H) ∧(((↑n:Int)==0)=false→∃(A1:Option Addr) (n1 c1:Nat),At H cap0 [.slice A1 n1 c1] ∧∃(a:Addr),InB A1 a (0:Int) n1 ∧∃(x x1 x2 x3 x4 x5 x6 x7 x8:Int),At H (a.add (Int.toNat (0:Int)*9)) [x,x1,x2,x3,x4,x5,x6,x7,x8] ∧∃(A2:Option Addr) (n2 c2:Nat),At H cap0 [.slice A2 n2 c2] ∧((0:Int)≤(1:Int) ∧(1:Int)≤(↑n2:Int)) ∧
 StL H cap0 [.slice (if c2=Int.toNat (1:Int) then A2 else Option.map (fun (x:Addr)=>x.add (Int.toNat (1:Int)*9)) A2) (n2-Int.toNat (1:Int)) (c2-Int.toNat (1:Int))] fun H1=>K (.tuple #[.agg #[x,x1,x2,x3,x4,x5,x6,x7,x8],.bool true]) H1)

theorem v112 {cap0:Addr} {H:Heap} {K:Value→Heap→Prop} (h:F112 cap0 H K):Tr Tryz.prog 112 #[.pointer (some cap0)] H K :=
 tr_of_eq (C:=c112) Tryz.func112 (by kernel_rfl) h
noncomputable def c113:Cx:={ P:=Tryz.prog,res:=[],pub:=[],loops:=[⟨3,[],[],[(0,0,.sl)]⟩],quiet:=[],asm:=true,rfs:=[⟨3,[([.int .i64,.int .i64,.int .i64,.int .i64,.int .i64,.int .i64,.int .i64,.int .i64,.int .i64],true)]⟩] }
def F113 (sA:Option Addr) (sn sc:Nat) (seq:Value) (H:Heap) (K:Value→Heap→Prop):Prop :=
 ∃(g:Nat) (caps:List Value),(seq=.func (Fn.func g) #[] { toList:=caps } ∧canCall Tryz.prog g=true) ∧∃(HI:Heap) (m:Nat) (E:Nat→Int×Int×Int×Int×Int×Int×Int×Int×Int×PUnit) (ys:List Nat),Ax.Sub HI H ∧
 It Tryz.prog g caps HI m (fun (i:Nat)=>[.agg #[.int .i64 (E i).fst,.int .i64 (E i).snd.fst,.int .i64 (E i).snd.snd.fst,.int .i64 (E i).snd.snd.snd.fst,.int .i64 (E i).snd.snd.snd.snd.fst,.int .i64 (E i).snd.snd.snd.snd.snd.fst,.int .i64 (E i).snd.snd.snd.snd.snd.snd.fst,.int .i64 (E i).snd.snd.snd.snd.snd.snd.snd.fst,.int .i64 (E i).snd.snd.snd.snd.snd.snd.snd.snd.fst]]) ys ∧∃(Rel:List Nat→Option Addr→Nat→Nat→Heap→Prop),Rel [] sA sn sc H ∧
 (∀(pre:List Nat) (i:Nat),i<m→pre.length<ys.length→∀(A:Option Addr) (n c:Nat) (H1:Heap),Rel pre A n c H1→Ax.Sub HI H1→NCs H H1→∀(x x1 x2 x3 x4 x5 x6 x7 x8:Int),E i=(x,x1,x2,x3,x4,x5,x6,x7,x8,())→(NCs H H1 ∧Ax.Sub HI H1) ∧appC 47 9 72 H1 A n c [x,x1,x2,x3,x4,x5,x6,x7,x8] 1 fun A' n' c' H'=>Rel (pre++[i]) A' n' c' (cutN H H') ∧Ax.Sub HI H') ∧∀(A1:Option Addr) (n1 c1:Nat) (H2:Heap),Rel ys A1 n1 c1 H2→NCs H H2→K (.slice A1 n1 c1) H2

theorem v113 {sA:Option Addr} {sn sc:Nat} {seq:Value} {H:Heap} {K:Value→Heap→Prop} (h:F113 sA sn sc seq H K):Tr Tryz.prog 113 #[.slice sA sn sc,seq] H K :=
 tr_of_eq (C:=c113) Tryz.func113 (by kernel_rfl) h
section
variable {G H:Heap} {m:Nat} {pf po:SlH} {sl:Nat→SlH} {F:Heap} {ex:Value} {st:List SlH} {s:VS}
theorem VMX.setExp (h : VMX G H m pf po sl F ex st s) {l' : List Ev} {xb : Nat} {A A' : Option Addr} {n c n' c' : Nat} {T : TypeId} (q1 : ex=.func (.func 112) #[] #[.pointer (some ⟨xb, 0, none⟩)]) (q2 : H xb=some (.cells #[.slice A n c] T (0, 0))) (q3 : F xb=none) (q4 : xb≠m) (q5 : ∀c, c<14→(sl c).blk≠some xb)
  (hn:n'=l'.length∧n'≤c') (hs:Src (dif F G) A' (l'.flatMap Ev.cells)):VMX G (H.upd xb (.cells #[.slice A' n' c'] T (0,0))) m pf po sl F ex st { s with expect:=some l' }:=by
 refine ⟨h.gf,⟨fun i o ho=>?_⟩,h.fm,by rw [Heap.upd_other q4.symm]; exact h.hm,h.own,h.inj,fun c2 hc2=>(h.ok c2 hc2).mono fun b hb=>Heap.upd_other fun e=>q5 c2 hc2 (by rw [←e]; exact hb),h.stl,h.stk,h.vars,h.attrs,h.sigs,⟨fun e=>(by cases e),fun l2 hl2=>?_⟩⟩
 ·rw [Heap.upd_other (fun e=>by subst e; rw [q3] at ho; cases ho)]; exact h.fh.sub _ _ ho
 ·have e:l2=l':=by injection hl2 with e; exact e.symm
  subst e
  exact ⟨xb,A',n',c',T,q1,Heap.upd_same,q3,q4,q5,hn,hs⟩
theorem t112 (h : VMX G H m pf po sl F ex st s) {l : List Ev} (hl : s.expect=some l) :
  ∃all,isFn Tryz.prog ex [] 112 all∧Tr Tryz.prog 112 ⟨all⟩ H (fun r H' =>
   (l=[]∧r=.tuple #[Ev.zero.val,.bool false]∧H'=H)∨∃w l',l=w::l'∧r=.tuple #[w.val,.bool true]∧VMX G H' m pf po sl F ex st { s with expect:=some l' }):=by
 obtain ⟨xb,A,n,c,T,q1,q2,q3,q4,q5,⟨q6,q8⟩,q7⟩:=h.exp.some_ l hl
 refine ⟨[.pointer (some ⟨xb,0,none⟩)],⟨⟨#[],_,q1,rfl⟩,rfl⟩,?_⟩
 apply v112; unfold F112
 have hat:At H ⟨xb,0,none⟩ [.slice A n c]:=⟨⟨_,_,_,q2,rfl,fun j v hv=>by simpa using hv⟩⟩
 refine ⟨A,n,c,hat,fun e=>.inl ⟨?_,rfl,rfl⟩,fun e=>?_⟩
 ·have:(n:Int)=0:=by simpa using e
  exact List.length_eq_zero_iff.1 (by omega)
 ·have hn:(n:Int)≠0:=by simpa using e
  obtain ⟨w,l',rfl⟩:∃w l',l=w::l':=by
   cases l with
   | nil=>simp at q6; omega
   | cons w l'=>exact ⟨w,l',rfl⟩
  rcases q7 with e0|⟨a,ha,hs⟩
  ·simp [Ev.cells] at e0
  ·have hs0:At H a (w.cells++l'.flatMap Ev.cells):=(hs.sub dif_sub).sub h.fh
   have h9:At H (a.add (Int.toNat 0*9)) w.cells:=at_take 9 hs0
   refine ⟨A,n,c,hat,a,⟨ha,by decide,by omega⟩,_,_,_,_,_,_,_,_,_,h9,A,n,c,hat,⟨by decide,by omega⟩,_,T,q2,rfl,Nat.le_refl 1,fun H1 e1=>.inr ⟨w,l',rfl,rfl,?_⟩⟩
   have hsp:∀v:Value,splice #[.slice A n c] 0 [v]=#[v]:=fun v=>splice_one (cs:=[.slice A n c]) (k:=0) (Nat.lt_succ_self 0)
   rw [hsp] at e1
   rw [e1]
   refine h.setExp q1 q2 q3 q4 q5 ⟨by simp at q6; show n-1=_; omega,show n-1≤c-1 by omega⟩ ?_
   by_cases hl':l'=[]
   ·left; rw [hl']; rfl
   ·right
    have:0<l'.length:=List.length_pos_iff.2 hl'
    have hc:c≠Int.toNat 1:=by
     simp at q6
     show c≠1
     omega
    rw [if_neg hc,ha]
    exact ⟨_,rfl,at_drop 9 hs⟩
end
theorem t167 (e w:Ev) (H:Heap):Tr Tryz.prog 167 #[e.val,w.val] H (fun v H'=>v=.bool (matchesM e w)∧Sub H H'):=by
 apply v167; unfold F167 matchesM
 refine ⟨fun h=>⟨?_,Sub.refl _⟩,fun h=>⟨fun h2=>⟨?_,Sub.refl _⟩,fun h2=>⟨?_,Sub.refl _⟩⟩⟩
 ·rw [if_pos (by simpa using h)]; rfl
 ·rw [if_neg (by simpa using h),if_pos (by simpa using h2)]; rfl
 ·rw [if_neg (by simpa using h),if_neg (by simpa using h2)]; rfl
section
variable {G H:Heap} {m:Nat} {pf po:SlH} {sl:Nat→SlH} {F:Heap} {ex:Value} {st:List SlH} {s:VS}
theorem VMX.c30 (h:VMX G H m pf po sl F ex st s):At H ((⟨m,0,none⟩:Addr).add 30) [.int .i64 s.count]:=h.cell rfl
theorem VMX.c22 (h:VMX G H m pf po sl F ex st s):At H ((⟨m,0,none⟩:Addr).add 22) [.int .i64 s.now]:=h.cell rfl
theorem VMX.c32 (h:VMX G H m pf po sl F ex st s):At H ((⟨m,0,none⟩:Addr).add 32) [(sl 5).v]:=h.cell rfl
theorem VMX.c34 (h:VMX G H m pf po sl F ex st s):At H ((⟨m,0,none⟩:Addr).add 34) [ex]:=h.cell rfl
theorem VMX.madeLen (h:VMX G H m pf po sl F ex st s):(sl 5).n=s.made.length:=by
 have:=(h.ok 5 (by decide)).len
 have e:contC sl st s 5=s.made.flatMap Ev.cells:=rfl
 rw [e,flat_size (cells:=Ev.cells) (sz:=9) (fun _=>rfl)] at this
 have z:szC 5=9:=rfl
 rw [z] at this; omega
theorem ev_one (w:Ev):allOne w.cells=true:=rfl
def VS.addE (s:VS) (w:Ev):VS:={ s with made:=s.made++[w],over:=if closeM w.kind=true then true else s.over }
def RestP (m:Nat) (w:Ev) (H:Heap) (K:Value→Heap→Prop):Prop :=
 ∃(A:Option Addr) (n c:Nat),At H ((⟨m,0,none⟩:Addr).add 32) [.slice A n c]∧appC 47 9 72 H A n c w.cells 1 fun A' n' c' H4 =>
  ∃a9:Addr,some (⟨m,0,none⟩:Addr)=some a9∧Wr H4 (a9.add 32) (.slice A' n' c') fun H13=>∃b4:Bool,(Tr Tryz.prog 53 #[.int .i64 w.kind] H13 fun v6 H5=>v6=.bool b4∧Sub H13 H5) ∧
   (b4=true→∃a10:Addr,some (⟨m,0,none⟩:Addr)=some a10∧Wr H13 ((a10.add 2).add 25) (.bool true) fun H14=>K (.tuple #[.int .i64 w.id,.bool true]) H14)∧(b4=false→K (.tuple #[.int .i64 w.id,.bool true]) H13)
theorem VMX.restP (h:VMX G H m pf po sl F ex st s) (w:Ev) (hm:s.made.length≤100000) {K:Value→Heap→Prop} (q:∀H' sl',VMX G H' m pf po sl' F ex st (s.addE w)→K (.tuple #[.int .i64 w.id,.bool true]) H'):RestP m w H K:=by
 have hl:=h.madeLen
 refine ⟨_,_,_,h.c32,h.app (c:=5) (by decide) (new:=w.cells) (k:=1) rfl (ev_one w) (by omega) (by omega) fun A' c' H4 h4 r=>⟨_,rfl,?_⟩⟩
 have hs6:∀k,setH sl 5 ⟨A',(sl 5).n+1,c'⟩ (6+k)=sl (6+k):=fun k=>if_neg (by omega)
 refine h4.wrSl (c:=5) (by decide) r (k:=32) (by decide) { s with made:=s.made++[w] } st rfl ?_ (fun c2 hc2 hne=>?_) rfl h.vars h.attrs h.sigs h.stl h.stk fun H13 h13=>⟨closeM w.kind,t53 _ _,fun e=>⟨_,rfl,?_⟩,fun e=>q H13 (setH sl 5 ⟨A',(sl 5).n+1,c'⟩) ?_⟩
 ·show (s.made++[w]).flatMap Ev.cells=s.made.flatMap Ev.cells++w.cells
  rw [List.flatMap_append]; simp
 ·simp only [contC,hs6,if_neg hne]
 ·refine h13.wr (k:=27) (by decide) (s.addE w) ?_ rfl rfl rfl rfl rfl rfl rfl h.vars h.attrs fun H14 h14=>q _ _ h14
  unfold VS.addE; rw [e]; rfl
 ·have:s.addE w={ s with made:=s.made++[w] }:=by unfold VS.addE; rw [e]; rfl
  rw [this]; exact h13
theorem VMX.nilFn (h:VMX G H m pf po sl F ex st s):fnNil ex s.expect.isNone:=by
 refine ⟨fun e=>h.exp.none_ (by simpa using e),fun e=>?_⟩
 cases hx:s.expect with
 | none=>rw [hx] at e; cases e
 | some l=>obtain ⟨xb,A,n,c,T,q1,-⟩:=h.exp.some_ l hx; exact ⟨_,_,_,q1⟩
theorem emit_low (h : VMX G H m pf po sl F ex st s) (e : Ev) (hc : 0≤s.count) (hc2 : s.count≤100000) (hm : s.made.length≤100000) {K : Value→Heap→Prop}
  (hf:(s.count+1==256&&!closeM e.kind)=true→Tr Tryz.prog 142 #[.pointer (some ⟨m,0,none⟩),.int .i64 (-4)] H fun v H'=>v=.tuple #[]∧K (.tuple #[.int .i64 0,.bool false]) H')
  (q:(s.count+1==256&&!closeM e.kind)=false→∀H' sl',VMX G H' m pf po sl' F ex st (s.emit0 (s.stamp e)).2→K (.tuple #[.int .i64 (s.emit0 (s.stamp e)).1.1,.bool (s.emit0 (s.stamp e)).1.2]) H') :
  Tr Tryz.prog 141 #[.pointer (some ⟨m,0,none⟩),e.val] H K:=by
 have hw:IntKind.i64.wrap (s.count+1)=s.count+1:=wrapi (by omega) (by omega)
 apply v141; unfold F141
 refine ⟨H,Sub.refl _,_,rfl,_,rfl,s.count,h.c30,s.now,h.c22,Sub.refl _,Sub.refl _,closeM e.kind,?_⟩
 rw [hw]
 refine ⟨fun _=>t53 _ _,hf,fun hlow=>⟨_,rfl,ex,h.c34,s.expect.isNone,h.nilFn,fun hx=>?_,fun hx=>?_⟩⟩
 ·obtain ⟨l, hl⟩ : ∃l, s.expect=some l := by
   cases hx2:s.expect with
   | none=>rw [hx2] at hx; cases hx
   | some l=>exact ⟨l,rfl⟩
  obtain ⟨all,hfn,htr⟩:=t112 h hl
  refine ⟨_,rfl,ex,h.c34,_,all,hfn,htr.mono fun v H2 k=>?_⟩
  rcases k with ⟨rfl,rfl,rfl⟩|⟨w,l',rfl,rfl,h2⟩
  ·refine ⟨0,0,0,0,0,0,0,0,0,false,rfl,false,fun e=>absurd e (by simp),fun _=>⟨_,rfl,?_⟩,fun e=>absurd e (by simp)⟩
   refine h.wr (k:=35) (by decide) { s with drift:=true } rfl rfl rfl rfl rfl rfl rfl rfl h.vars h.attrs fun H3 h3=>⟨_,rfl,?_⟩
   refine h3.wr (k:=27) (by decide) s.drifts rfl rfl rfl rfl rfl rfl rfl rfl h.vars h.attrs fun H4 h4=>?_
   have:=q hlow H4 sl
   unfold VS.emit0 at this
   rw [hl] at this
   exact this h4
  ·have q':=q hlow
   unfold VS.emit0 at q'
   rw [hl] at q'
   simp only at q'
   refine ⟨_,_,_,_,_,_,_,_,_,true,rfl,matchesM (s.stamp e) w,fun _=>t167 (s.stamp e) w H2,fun hb=>⟨_,rfl,?_⟩,fun hb=>?_⟩
   ·have hb:matchesM (s.stamp e) w=false:=by simpa using hb
    rw [if_neg (by rw [hb]; simp)] at q'
    refine h2.wr (k:=35) (by decide) { s with expect:=some l',drift:=true } rfl rfl rfl rfl rfl rfl rfl rfl h.vars h.attrs fun H3 h3=>⟨_,rfl,?_⟩
    exact h3.wr (k:=27) (by decide) ({ s with expect:=some l' }:VS).drifts rfl rfl rfl rfl rfl rfl rfl rfl h.vars h.attrs fun H4 h4=>q' _ _ h4
   ·have hb:matchesM (s.stamp e) w=true:=by simpa using hb
    rw [if_pos hb] at q'
    refine ⟨_,rfl,s.count,h2.c30,_,rfl,?_⟩
    rw [hw]
    refine h2.wr (k:=30) (by decide) { s with expect:=some l',count:=s.count+1 } rfl rfl rfl rfl rfl rfl rfl rfl h.vars h.attrs fun H3 h3=>⟨_,rfl,?_,?_⟩
    ·exact h3.restP w hm fun H' sl' h'=>q' _ _ h'
    ·exact h3.restP w hm fun H' sl' h'=>q' _ _ h'
 ·have hn:s.expect=none:=by simpa using hx
  have q':=q hlow
  unfold VS.emit0 at q'
  rw [hn] at q'
  simp only at q'
  refine ⟨_,rfl,s.count,h.c30,_,rfl,?_⟩
  rw [hw]
  refine h.wr (k:=30) (by decide) { s with count:=s.count+1 } rfl rfl rfl rfl rfl rfl rfl rfl h.vars h.attrs fun H3 h3=>⟨_,rfl,?_,?_⟩
  ·exact h3.restP (s.stamp e) hm fun H' sl' h'=>q' _ _ h'
  ·exact h3.restP (s.stamp e) hm fun H' sl' h'=>q' _ _ h'
theorem t142 (h : VMX G H m pf po sl F ex st s) (c : Int) (hc : 0≤s.count) (hc2 : s.count≤100000) (hm : s.made.length≤100000) :
  Tr Tryz.prog 142 #[.pointer (some ⟨m,0,none⟩),.int .i64 c] H fun v H'=>v=.tuple #[]∧∃sl',VMX G H' m pf po sl' F ex st (s.fails c):=by
 apply v142; unfold F142
 exact emit_low h (evM 16 c 0 0) hc hc2 hm (fun e=>absurd e (by show ¬(_&&!closeM 16)=true; simp [closeM])) fun _ H' sl' h'=>⟨_,_,rfl,rfl,sl',h'⟩
theorem t141 (h : VMX G H m pf po sl F ex st s) (e : Ev) (hc : 0≤s.count) (hc2 : s.count≤100000) (hm : s.made.length≤100000) :
  Tr Tryz.prog 141 #[.pointer (some ⟨m,0,none⟩),e.val] H fun v H'=>v=.tuple #[.int .i64 (s.emit e).1.1,.bool (s.emit e).1.2]∧∃sl',VMX G H' m pf po sl' F ex st (s.emit e).2:=by
 refine emit_low h e hc hc2 hm (fun hx=>?_) fun hx H' sl' h'=>?_
 ·unfold VS.emit; rw [if_pos hx]
  exact (t142 h (-4) hc hc2 hm).mono fun v H' k=>⟨k.1,rfl,k.2⟩
 ·unfold VS.emit; rw [if_neg (by rw [hx]; simp)]
  exact ⟨rfl,sl',h'⟩
end
end Go.Proofs.YtkofafcgcnciaaaGreatDoor
set_option maxRecDepth 100000
namespace Go.Ax
def onlyB (b:Nat) (o:Obj):Heap:=fun i=>if i=b then some o else none
theorem onlyB_sub {b:Nat} {o:Obj} {H:Heap} (h:H b=some o):Sub (onlyB b o) H:=⟨fun i x k=>by
 unfold onlyB at k
 split at k
 ·rename_i e; cases k; rw [e]; exact h
 ·cases k⟩
theorem onlyB_at {b:Nat} {o:Obj}:onlyB b o b=some o:=if_pos rfl
theorem at_cells {H:Heap} {b:Nat} {cs:List Value} {T:TypeId} (h:H b=some (.cells ⟨cs⟩ T (0,0))) {k:Nat} {v:Value} (hv:cs[k]?=some v):At H ((⟨b,0,none⟩:Addr).add k) [v]:=by
 refine ⟨⟨_,_,_,by rw [add_block]; exact h,add_spot _ _,fun j u hj=>?_⟩⟩
 rw [add_off]
 cases j with
 | succ j=>simp at hj
 | zero=>simp at hj; subst hj; simpa using hv
theorem intsC_app (l k:List Int):intsC (l++k)=intsC l++intsC k:=by unfold intsC; rw [List.map_append]
theorem intsC_one:∀l:List Int,allOne (intsC l)=true
 | []=>rfl
 | _::l=>intsC_one l
end Go.Ax
namespace Go.Proofs.YtkofafcgcnciaaaGreatDoor
open Go.Ax
def runC (m tb:Nat) (b:Bool):List Value:=[.pointer (some ⟨m,0,none⟩),.pointer (some ⟨tb,0,none⟩),.bool b]
structure RX (p:Prg) (G0 H0 G H:Heap) (m rb tb:Nat) (q:SlH) (pf po:SlH) (sl:Nat→SlH) (F:Heap) (ex:Value) (st:List SlH) (r:Rn):Prop where
 vm:VMX G H m pf po sl F ex st r.s
 pr:HasP (dif F G) pf.A pf.n po.A po.n p
 base:Sub G0 G
 keep:Sub H0 H
 g0h:Sub G0 H0
 gr:G rb=some (.cells ⟨runC m tb r.fault⟩ 230 (0,0))
 gt:G tb=some (.cells ⟨thrC (r.t,q)⟩ 153 (0,0))
 r0:H0 rb=none
 t0:H0 tb=none
 ne:rb≠tb
 sq:SlOk G q 1 (intsC r.t.stack)
 oq:∀b,q.blk=some b→H0 b=none∧b≠rb∧b≠tb
section
variable {p:Prg} {G0 H0 G H:Heap} {m rb tb:Nat} {q:SlH} {pf po:SlH} {sl:Nat→SlH} {F:Heap} {ex:Value} {st:List SlH} {r:Rn}
theorem RX.gh (h:RX p G0 H0 G H m rb tb q pf po sl F ex st r):Sub G H:=h.vm.gf.trans h.vm.fh
theorem RX.hr (h:RX p G0 H0 G H m rb tb q pf po sl F ex st r):H rb=some (.cells ⟨runC m tb r.fault⟩ 230 (0,0)):=h.gh.sub _ _ h.gr
theorem RX.ht (h:RX p G0 H0 G H m rb tb q pf po sl F ex st r):H tb=some (.cells ⟨thrC (r.t,q)⟩ 153 (0,0)):=h.gh.sub _ _ h.gt
theorem RX.r0_ (h:RX p G0 H0 G H m rb tb q pf po sl F ex st r):At H ((⟨rb,0,none⟩:Addr).add 0) [.pointer (some ⟨m,0,none⟩)]:=at_cells h.hr rfl
theorem RX.r1 (h:RX p G0 H0 G H m rb tb q pf po sl F ex st r):At H ((⟨rb,0,none⟩:Addr).add 1) [.pointer (some ⟨tb,0,none⟩)]:=at_cells h.hr rfl
theorem RX.r2 (h:RX p G0 H0 G H m rb tb q pf po sl F ex st r):At H ((⟨rb,0,none⟩:Addr).add 2) [.bool r.fault]:=at_cells h.hr rfl
theorem RX.t3 (h:RX p G0 H0 G H m rb tb q pf po sl F ex st r):At H ((⟨tb,0,none⟩:Addr).add 3) [q.v]:=at_cells h.ht rfl
theorem RX.len (h:RX p G0 H0 G H m rb tb q pf po sl F ex st r):q.n=r.t.stack.length:=by
 have:=h.sq.len; unfold intsC at this; rw [List.length_map] at this; omega
theorem base_upd {A B:Heap} (h:Sub A B) {b:Nat} (hb:A b=none) (y:Obj):Sub A (B.upd b y):=⟨fun i o k=>by
 rw [Heap.upd_other (fun e=>by subst e; rw [hb] at k; cases k)]; exact h.sub i o k⟩
theorem dif_turn {F G:Heap} {b:Nat} {o:Obj} (hb:G b=some o) (y:Obj):Sub (dif F G) (dif (F.upd b y) (G.upd b y)):=dif_eq fun i hi=>by
 have hne:i≠b:=fun e=>by subst e; rw [hb] at hi; cases hi
 exact ⟨Heap.upd_other hne,by rw [Heap.upd_other hne]; exact hi⟩
theorem dif_ext {F G:Heap} {b:Nat} (hF:F b=none) (o:Obj):Sub (dif F G) (dif (F.upd b o) (G.upd b o)):=⟨fun i x k=>by
 unfold dif at k ⊢
 split at k
 ·cases k
 ·rename_i e
  have hne:i≠b:=fun q=>by subst q; rw [hF] at k; cases k
  rw [Heap.upd_other hne,if_neg e,Heap.upd_other hne]; exact k⟩
theorem RX.setF (h:RX p G0 H0 G H m rb tb q pf po sl F ex st r) {b:Bool} {Q:Heap→Prop} (k:∀G' F' H',RX p G0 H0 G' H' m rb tb q pf po sl F' ex st { r with fault:=b }→Q H'):Wr H ((⟨rb,0,none⟩:Addr).add 2) (.bool b) Q:=by
 refine wr_cells h.hr (by decide:2<3) (k (G.upd rb (.cells ⟨runC m tb b⟩ 230 (0,0))) (F.upd rb (.cells ⟨runC m tb b⟩ 230 (0,0))) _ ⟨h.vm.turn h.gr _,h.pr.sub (dif_turn h.gr _),base_upd h.base (none_below h.g0h h.r0) _,base_upd h.keep h.r0 _,h.g0h,Heap.upd_same,by rw [Heap.upd_other h.ne.symm]; exact h.gt,h.r0,h.t0,h.ne,h.sq.mono fun b hb=>Heap.upd_other (h.oq b hb).2.1,h.oq⟩)
theorem RX.setT (h : RX p G0 H0 G H m rb tb q pf po sl F ex st r) {i : Nat} (hi : i<9) {v : Value} (t' : Thr) (q' : SlH) (e : (thrC (r.t, q)).set i v=thrC (t', q')) (sq : SlOk G q' 1 (intsC t'.stack)) (oq : ∀b, q'.blk=some b→H0 b=none∧b≠rb∧b≠tb)
  {Q:Heap→Prop} (k:∀G' F' H',RX p G0 H0 G' H' m rb tb q' pf po sl F' ex st { r with t:=t' }→Q H'):Wr H ((⟨tb,0,none⟩:Addr).add i) v Q:=by
 refine wr_cells h.ht (show i<9 from hi) ?_
 rw [e]
 exact k _ _ _ ⟨h.vm.turn h.gt _,h.pr.sub (dif_turn h.gt _),base_upd h.base (none_below h.g0h h.t0) _,base_upd h.keep h.t0 _,h.g0h,by rw [Heap.upd_other h.ne]; exact h.gr,Heap.upd_same,h.r0,h.t0,h.ne,sq.mono fun b hb=>Heap.upd_other (oq b hb).2.2,oq⟩
theorem _root_.Go.Ax.SlOk.drop1 {H:Heap} {h:SlH} {l:List Int} (k:SlOk H h 1 (intsC l)) {n:Nat} (hn:n≤l.length):SlOk H ⟨h.A,n,h.c⟩ 1 (intsC (l.take n)):=by
 have hl:=k.len
 unfold intsC at hl
 rw [List.length_map] at hl
 have hc:=k.cap
 refine ⟨by unfold intsC; simp; omega,show n≤h.c by omega,?_⟩
 rcases k.at_ with ⟨a1,a2,a3⟩|⟨b,off,cur,T,a1,a2,a3,a4⟩
 ·exact .inl ⟨a1,show n=0 by omega,a3⟩
 ·refine .inr ⟨b,off,cur,T,a1,a2,a3,fun j v hv=>a4 j v ?_⟩
  unfold intsC at hv ⊢
  rw [List.getElem?_map] at hv ⊢
  rw [List.getElem?_take] at hv
  split at hv
  ·exact hv
  ·simp at hv
theorem t150 (h : RX p G0 H0 G H m rb tb q pf po sl F ex st r) (hb : r.t.stack.length ≤ 100000) :
    Tr Tryz.prog 150 #[.pointer (some ⟨rb,0,none⟩)] H fun v H'=>v=.int .i64 r.take.1∧∃G' F' q',RX p G0 H0 G' H' m rb tb q' pf po sl F' ex st r.take.2:=by
  have hl:=h.len
  apply v150; unfold F150
  refine ⟨_,rfl,_,h.r1,_,rfl,_,_,_,h.t3,fun e=>⟨_,rfl,?_⟩,fun e=>?_⟩
  · have e:(q.n:Int)=0:=by simpa using e
    have hn:r.t.stack=[]:=List.length_eq_zero_iff.1 (by omega)
    refine h.setF (b:=true) fun G' F' H' h'=>⟨?_,G',F',q,?_⟩
    · unfold Rn.take; rw [hn]; rfl
    · unfold Rn.take; rw [hn]; exact h'
  · have e:(q.n:Int)≠0:=by simpa using e
    have hw:IntKind.i64.wrap ((q.n:Int)-1)=(q.n:Int)-1:=wrapi (by omega) (by omega)
    have ht:((q.n:Int)-1).toNat=r.t.stack.length-1:=by omega
    obtain ⟨x,hx⟩:=get_some (l:=r.t.stack) (i:=r.t.stack.length-1) (by omega)
    have hlast:r.t.stack.getLast?=some x:=by rw [List.getLast?_eq_getElem?]; exact hx
    have htk:r.take=(x,{ r with t:={ r.t with stack:=r.t.stack.dropLast } }):=by unfold Rn.take; rw [hlast]
    rw [htk,hw]
    obtain ⟨a,ha,hat⟩:∃a,q.A=some a∧At H (a.add (((q.n:Int)-1).toNat*1)) [.int .i64 x]:=by
      rcases h.sq.src with e0|⟨a,ha,hat⟩
      · have:=congrArg List.length e0; unfold intsC at this; simp at this; rw [this] at hl; simp at hl; omega
      · refine ⟨a,ha,?_⟩
        rw [ht,Nat.mul_one]
        exact at_one _ (hat.sub h.gh) (by unfold intsC; rw [List.getElem?_map,hx]; rfl)
    have hcap:=h.sq.cap
    have hA:(if q.c=0 then q.A else Option.map (fun x:Addr=>x.add (0*1)) q.A)=q.A:=by
      split
      · rfl
      · cases q.A<;>rfl
    have fin : ∀ Q : Heap → Prop, (∀ H', (∃ G' F' q', RX p G0 H0 G' H' m rb tb q' pf po sl F' ex st { r with t := { r.t with stack := r.t.stack.dropLast } }) → Q H') →
        Wr H ((⟨tb,0,none⟩:Addr).add 3) (.slice (if q.c=0 then q.A else Option.map (fun x:Addr=>x.add (0*1)) q.A) (((q.n:Int)-1).toNat-0) (q.c-0)) Q:=fun Q k=>by
      rw [hA]
      have sd:=h.sq.drop1 (n:=r.t.stack.length-1) (by omega)
      rw [←List.dropLast_eq_take] at sd
      refine h.setT (i:=3) (by decide) { r.t with stack:=r.t.stack.dropLast } ⟨q.A,r.t.stack.length-1,q.c⟩ ?_ sd (fun b hb=>h.oq b hb) fun G' F' H' h'=>k _ ⟨G',F',_,h'⟩
      rw [ht]; rfl
    have bd:(0:Int)≤(q.n:Int)-1∧(q.n:Int)-1≤(q.c:Int):=⟨by omega,by omega⟩
    refine ⟨_,rfl,_,h.r1,_,rfl,_,_,_,h.t3,a,⟨ha,by omega,by omega⟩,x,hat,_,rfl,_,rfl,
      ⟨_,h.r1,_,h.r1,_,rfl,_,_,_,h.t3,bd,_,rfl,fin _ fun H' k=>⟨rfl,k⟩⟩,_,h.r1,_,rfl,
      ⟨_,h.r1,_,_,_,h.t3,bd,_,rfl,fin _ fun H' k=>⟨rfl,k⟩⟩,_,_,_,h.t3,bd,_,h.r1,_,rfl,fin _ fun H' k=>⟨rfl,k⟩⟩
end
section
variable {p:Prg} {G0 H0 G H:Heap} {m rb tb:Nat} {q:SlH} {pf po:SlH} {sl:Nat→SlH} {F:Heap} {ex:Value} {st:List SlH} {r:Rn}
theorem RX.app (h : RX p G0 H0 G H m rb tb q pf po sl F ex st r) {e : TypeId} {bytes : Nat} {l : List Int} (hb : (q.n+l.length)*bytes≤140737488355328) (hl : q.n+l.length≤9223372036854775807)
  {K:Option Addr→Nat→Nat→Heap→Prop} (k:∀A' c' G' F' H',RX p G0 H0 G' H' m rb tb q pf po sl F' ex st r→SlOk G' ⟨A',q.n+l.length,c'⟩ 1 (intsC (r.t.stack++l))→(∀b,(⟨A',q.n+l.length,c'⟩:SlH).blk=some b→H0 b=none∧b≠rb∧b≠tb)→K A' (q.n+l.length) c' H') :
  appC e 1 bytes H q.A q.n q.c (intsC l) l.length K:=by
 have ok:=h.sq
 have okH:=ok.sub h.gh
 have hi:(intsC l).length=l.length:=by unfold intsC; rw [List.length_map]
 have hs:(intsC r.t.stack).length=q.n:=by rw [ok.len,Nat.mul_one]
 refine ⟨⟨intsC r.t.stack,okH.src,ok.len,by rw [hi,Nat.mul_one],intsC_one l,hb,hl,fun hcap=>?_,fun hcap b cap rest hbn hle hr=>?_⟩⟩
 ·rcases ok.at_ with ⟨a1,a2,a3⟩|⟨b,off,cur,T,a1,a2,a3,a4⟩
  ·left
   have k0:l=[]:=List.length_eq_zero_iff.1 (by omega)
   subst k0
   refine ⟨rfl,k _ _ _ _ _ h ⟨by rw [List.append_nil]; exact ok.len,hcap,.inl ⟨a1,by show q.n+0=0; omega,a3⟩⟩ fun b hb=>?_⟩
   unfold SlH.blk at hb; simp only at hb; rw [a1] at hb; cases hb
  ·right
   have hsz:(off+q.n*1)+(intsC l).length≤cur.size:=by rw [hi]; omega
   have hblk:q.blk=some b:=by unfold SlH.blk; rw [a1]; rfl
   obtain ⟨o1,o2,o3⟩:=h.oq b hblk
   have old:∀j v,(intsC r.t.stack)[j]?=some v→(splice cur (off+q.n*1) (intsC l))[off+j]?=some v:=fun j v hv=>by
    rw [splice_get hsz,if_pos (by have:=get_lt hv; omega)]; exact a4 j v hv
   have h':RX p G0 H0 (G.upd b (.cells (splice cur (off+q.n*1) (intsC l)) T (0,0))) (H.upd b (.cells (splice cur (off+q.n*1) (intsC l)) T (0,0))) m rb tb q pf po sl (F.upd b (.cells (splice cur (off+q.n*1) (intsC l)) T (0,0))) ex st r :=
    ⟨h.vm.turn a2 _,h.pr.sub (dif_turn a2 _),base_upd h.base (none_below h.g0h o1) _,base_upd h.keep o1 _,h.g0h,by rw [Heap.upd_other o2.symm]; exact h.gr,by rw [Heap.upd_other o3.symm]; exact h.gt,h.r0,h.t0,h.ne,
     ⟨ok.len,ok.cap,.inr ⟨b,off,_,T,a1,Heap.upd_same,by rw [splice_size hsz]; exact a3,old⟩⟩,h.oq⟩
   refine ⟨⟨b,off,none⟩,cur,T,a1,rfl,h.gh.sub _ _ a2,hsz,k _ _ _ _ _ h' ⟨by rw [intsC_app,List.length_append,hs,hi]; show _=(q.n+l.length)*1; omega,hcap,.inr ⟨b,off,_,T,a1,Heap.upd_same,by rw [splice_size hsz]; exact a3,fun j v hv=>?_⟩⟩ fun b' hb'=>?_⟩
   ·rw [intsC_app] at hv
    by_cases hj:j<q.n
    ·rw [List.getElem?_append_left (by omega)] at hv
     exact old j v hv
    ·have hlt:=get_lt hv
     rw [List.length_append] at hlt
     rw [List.getElem?_append_right (by omega),hs] at hv
     rw [splice_get hsz,if_neg (by omega),if_pos (by omega)]
     rw [←hv]; congr 1; omega
   ·unfold SlH.blk at hb'; simp only at hb'; rw [a1] at hb'; cases hb'
    exact ⟨o1,o2,o3⟩
 ·have hG:=none_below h.gh hbn
  have hF:=none_below h.vm.fh hbn
  have hne:b≠rb:=fun e=>by subst e; rw [h.hr] at hbn; cases hbn
  have hnt:b≠tb:=fun e=>by subst e; rw [h.ht] at hbn; cases hbn
  have hG0:=none_below h.base hG
  have hH0:=none_below h.keep hbn
  have h':RX p G0 H0 (G.upd b (.cells ⟨intsC r.t.stack++intsC l++rest⟩ e (0,0))) (H.upd b (.cells ⟨intsC r.t.stack++intsC l++rest⟩ e (0,0))) m rb tb q pf po sl (F.upd b (.cells ⟨intsC r.t.stack++intsC l++rest⟩ e (0,0))) ex st r :=
   ⟨h.vm.ext hbn _,h.pr.sub (dif_ext hF _),base_upd h.base hG0 _,h.keep.trans (Sub.upd_new hbn),h.g0h,by rw [Heap.upd_other hne.symm]; exact h.gr,by rw [Heap.upd_other hnt.symm]; exact h.gt,h.r0,h.t0,h.ne,h.sq.sub (Sub.upd_new hG),h.oq⟩
  refine k _ _ _ _ _ h' ⟨by rw [intsC_app,List.length_append,hs,hi]; show _=(q.n+l.length)*1; omega,hle,.inr ⟨b,0,_,e,rfl,Heap.upd_same,?_,fun j v hv=>?_⟩⟩ fun b' hb'=>?_
  ·simp only [List.size_toArray,List.length_append,hs,hi,hr]
   omega
  ·have hj:=get_lt hv
   rw [intsC_app] at hv hj
   simp only [List.getElem?_toArray,Nat.zero_add]
   rw [List.getElem?_append_left hj]; exact hv
  ·unfold SlH.blk at hb'; simp only at hb'; cases hb'
   exact ⟨hH0,hne,hnt⟩
theorem t174 (h : RX p G0 H0 G H m rb tb q pf po sl F ex st r) {A : Option Addr} {c : Nat} {l : List Int} (ha : Src H A (intsC l)) (hb : r.t.stack.length+l.length≤100000) :
  Tr Tryz.prog 174 #[.pointer (some ⟨rb,0,none⟩),.slice A l.length c] H fun v H'=>v=.tuple #[]∧∃G' F' q',RX p G0 H0 G' H' m rb tb q' pf po sl F' ex st (r.leave l):=by
 have hl:=h.len
 apply v174; unfold F174
 have hsub:∀{G1 H1 q1 F1 t1},RX p G0 H0 G1 H1 m rb tb q1 pf po sl F1 ex st { r with t:=t1 }→Sub (onlyB rb (.cells ⟨runC m tb r.fault⟩ 230 (0,0))) H1:=fun k=>onlyB_sub k.hr
 have hs0:=onlyB_sub h.hr
 refine ⟨_,hs0,_,rfl,_,rfl,_,at_cells onlyB_at rfl,_,h.r1,hs0,_,rfl,_,_,_,h.t3,hs0,⟨⟨intsC l,ha,by unfold intsC; simp,h.app (show (q.n+l.length)*8≤140737488355328 by omega) (by omega) fun A' c' G1 F1 H1 h1 sq oq=>⟨onlyB_sub h1.hr,_,rfl,?_⟩⟩⟩⟩
 refine h1.setT (i:=3) (by decide) { r.t with stack:=r.t.stack++l } ⟨A',q.n+l.length,c'⟩ rfl sq oq fun G2 F2 H2 h2=>⟨hsub h2,_,rfl,_,h2.r1,_,rfl,_,_,_,h2.t3,fun e=>⟨_,rfl,?_⟩,fun e=>⟨rfl,G2,F2,⟨A',q.n+l.length,c'⟩,?_⟩⟩
 ·have e':decide ((r.t.stack.length+l.length:Int)>32)=true:=by rw [←e]; congr 1; simp [hl]
  refine h2.setF (b:=true) fun G3 F3 H3 h3=>⟨rfl,G3,F3,⟨A',q.n+l.length,c'⟩,?_⟩
  unfold Rn.leave
  rw [e']; exact h3
 ·have e':decide ((r.t.stack.length+l.length:Int)>32)=false:=by rw [←e]; congr 1; simp [hl]
  unfold Rn.leave
  rw [e']; exact h2
end
theorem t175 (b:Bool) (H:Heap):Tr Tryz.prog 175 #[.bool b] H fun v H'=>v=.int .i64 (truthM b)∧Sub H H':=by
 apply v175; unfold F175 truthM
 exact ⟨fun e=>⟨by rw [if_pos e],Sub.refl _⟩,fun e=>⟨by rw [if_neg (by rw [e]; simp)],Sub.refl _⟩⟩
theorem t176 (op a b:Int) (H:Heap):Tr Tryz.prog 176 #[.int .i64 op,.int .i64 a,.int .i64 b] H fun v H'=>v=.int .i64 (twoM op a b)∧Sub H H':=by
 apply v176; unfold F176 twoM
 have nf:∀{k:Int},(op==k)=false→¬op=k:=fun e e2=>by subst e2; simp at e
 have yf:∀{k:Int},(op==k)=true→op=k:=fun e=>by simpa using e
 refine ⟨fun e=>?_,fun e1=>⟨fun e=>?_,fun e2=>⟨fun e=>?_,fun e3=>⟨fun e=>?_,fun e4=>⟨fun e=>?_,fun e5=>⟨fun e=>?_,fun e6=>⟨fun e=>?_,fun e7=>?_⟩⟩⟩⟩⟩⟩⟩
 ·rw [if_pos (yf e)]; exact ⟨rfl,Sub.refl _⟩
 ·rw [if_neg (nf e1),if_pos (yf e)]; exact ⟨rfl,Sub.refl _⟩
 ·rw [if_neg (nf e1),if_neg (nf e2),if_pos (yf e)]; exact ⟨rfl,Sub.refl _⟩
 ·rw [if_neg (nf e1),if_neg (nf e2),if_neg (nf e3),if_pos (yf e)]; exact ⟨_,t175 _ _,rfl,Sub.refl _⟩
 ·rw [if_neg (nf e1),if_neg (nf e2),if_neg (nf e3),if_neg (nf e4),if_pos (yf e)]; exact ⟨_,t175 _ _,rfl,Sub.refl _⟩
 ·rw [if_neg (nf e1),if_neg (nf e2),if_neg (nf e3),if_neg (nf e4),if_neg (nf e5),if_pos (show b=0 by simpa using e)]; exact ⟨rfl,Sub.refl _⟩
 ·have hb:b≠0:=by simpa using e6
  rw [if_neg (nf e1),if_neg (nf e2),if_neg (nf e3),if_neg (nf e4),if_neg (nf e5),if_neg hb,if_pos (yf e)]; exact ⟨hb,rfl,Sub.refl _⟩
 ·have hb:b≠0:=by simpa using e6
  rw [if_neg (nf e1),if_neg (nf e2),if_neg (nf e3),if_neg (nf e4),if_neg (nf e5),if_neg hb,if_neg (nf e7)]; exact ⟨hb,rfl,Sub.refl _⟩
section
variable {p:Prg} {G0 H0 G H:Heap} {m rb tb:Nat} {q:SlH} {pf po:SlH} {sl:Nat→SlH} {F:Heap} {ex:Value} {st:List SlH} {r:Rn}
theorem RX.grow (h:RX p G0 H0 G H m rb tb q pf po sl F ex st r) {H':Heap} (k:Sub H H'):RX p G0 H0 G H' m rb tb q pf po sl F ex st r :=
 ⟨h.vm.grow k,h.pr,h.base,h.keep.trans k,h.g0h,h.gr,h.gt,h.r0,h.t0,h.ne,h.sq,h.oq⟩
theorem src_new {b:Nat} {H:Heap} {l:List Int} {T:TypeId}:Src (H.upd b (.cells ⟨intsC l⟩ T (0,0))) (some ⟨b,0,none⟩) (intsC l) :=
 .inr ⟨_,rfl,⟨⟨_,T,(0,0),Heap.upd_same,rfl,fun j v hv=>by simpa using hv⟩⟩⟩
theorem RX.leaves (h : RX p G0 H0 G H m rb tb q pf po sl F ex st r) (l : List Int) {c : Nat} (hb : r.t.stack.length+l.length≤100000) {b : Nat} (hn : H b=none) {T : TypeId} {H1 : Heap} (e : H1=H.upd b (.cells ⟨intsC l⟩ T (0, 0))) {Q : Heap→Prop}
  (k:∀G' F' q' H',RX p G0 H0 G' H' m rb tb q' pf po sl F' ex st (r.leave l)→Q H'):Tr Tryz.prog 174 #[.pointer (some ⟨rb,0,none⟩),.slice (some ⟨b,0,none⟩) l.length c] H1 fun v H'=>v=.tuple #[]∧Q H':=by
 subst e
 exact (t174 (h.grow (Sub.upd_new hn)) src_new hb).mono fun v H' ⟨e,G',F',q',h'⟩=>⟨e,k G' F' q' H' h'⟩
theorem RX.takes (h : RX p G0 H0 G H m rb tb q pf po sl F ex st r) (hb : r.t.stack.length≤100000) {K : Value→Heap→Prop}
  (k:∀G' F' q' H',RX p G0 H0 G' H' m rb tb q' pf po sl F' ex st r.take.2→K (.int .i64 r.take.1) H'):Tr Tryz.prog 150 #[.pointer (some ⟨rb,0,none⟩)] H K:=by
 exact (t150 h hb).mono fun v H' ⟨e,G',F',q',h'⟩=>by rw [e]; exact k G' F' q' H' h'
theorem take_len (r:Rn):r.take.2.t.stack.length≤r.t.stack.length:=by
 unfold Rn.take
 cases hh:r.t.stack.getLast? with
 | none=>exact Nat.le_refl _
 | some v=>show r.t.stack.dropLast.length≤_; rw [List.length_dropLast]; omega
theorem take_s (r:Rn):r.take.2.s=r.s:=by unfold Rn.take; cases r.t.stack.getLast?<;>rfl
theorem RX.pos (h:RX p G0 H0 G H m rb tb q pf po sl F ex st r) {i:Nat} {x:Int} (hx:r.t.stack[i]?=some x):∃a,q.A=some a∧At H (a.add (i*1)) [.int .i64 x]:=by
 rcases h.sq.src with e0|⟨a,ha,hat⟩
 ·have:=congrArg List.length e0
  have hl:=get_lt hx
  unfold intsC at this; simp at this; rw [this] at hl; simp at hl
 ·refine ⟨a,ha,?_⟩
  rw [Nat.mul_one]
  exact at_one _ (hat.sub h.gh) (by unfold intsC; rw [List.getElem?_map,hx]; rfl)
theorem t195 (h : RX p G0 H0 G H m rb tb q pf po sl F ex st r) (hb : r.t.stack.length≤100000) :
  Tr Tryz.prog 195 #[.pointer (some ⟨rb,0,none⟩)] H fun v H'=>v=.int .i64 r.scope.1∧∃G' F' q',RX p G0 H0 G' H' m rb tb q' pf po sl F' ex st r.scope.2:=by
 apply v195; unfold F195
 refine h.takes hb fun G1 F1 q1 H1 h1=>⟨_,rfl,_,fun _=>rfl,_,fun _=>h1.r0_,_,fun _=>rfl,_,_,_,fun _=>h1.vm.c25,?_⟩
 rw [h1.vm.scpLen]
 unfold Rn.scope
 refine ⟨fun e=>⟨_,rfl,?_⟩,fun e=>⟨rfl,G1,F1,q1,?_⟩⟩
 ·refine h1.setF (b:=true) fun G2 F2 H2 h2=>⟨rfl,G2,F2,q1,?_⟩
  simp only
  rw [if_pos e]; exact h2
 ·simp only
  rw [if_neg (by rw [e]; simp)]; exact h1
theorem asked_at (r:Rn) (d:Nat) (hd:d<r.t.stack.length):(r.t.stack.reverse)[d]?=r.t.stack[r.t.stack.length-1-d]?:=by
 rw [List.getElem?_reverse hd]
theorem t194 (h : RX p G0 H0 G H m rb tb q pf po sl F ex st r) (hb : r.t.stack.length≤100000) (d : Nat) (hd : d≤10) :
  Tr Tryz.prog 194 #[.pointer (some ⟨rb,0,none⟩),.int .i64 d] H fun v H'=>v=.int .i64 (r.asked d).1∧∃G' F' q',RX p G0 H0 G' H' m rb tb q' pf po sl F' ex st (r.asked d).2:=by
 have hl:=h.len
 apply v194; unfold F194
 refine ⟨_,rfl,_,h.r1,_,rfl,_,_,_,h.t3,?_⟩
 have w1:IntKind.i64.wrap ((q.n:Int)-1)=(q.n:Int)-1:=wrapi (by omega) (by omega)
 have w2:IntKind.i64.wrap ((q.n:Int)-1-(d:Int))=(q.n:Int)-1-(d:Int):=wrapi (by omega) (by omega)
 rw [w1,w2]
 by_cases hlow:(q.n:Int)-1-(d:Int)<0
 ·have e0:decide ((q.n:Int)-1-(d:Int)<0)=true:=decide_eq_true hlow
  have hnone:(r.t.stack.reverse)[d]?=none:=by rw [List.getElem?_eq_none_iff,List.length_reverse]; omega
  have ha:r.asked d=(-1,{ r with fault:=true }):=by unfold Rn.asked; rw [hnone]
  rw [e0,ha]
  refine ⟨⟨0,0,none⟩,fun e=>absurd e (by simp),none,fun e=>absurd e (by simp),⟨0,0,none⟩,fun e=>absurd e (by simp),none,0,0,fun e=>absurd e (by simp),⟨0,0,none⟩,fun e=>absurd e (by simp),0,fun e=>absurd e (by simp),
   ⟨0,0,none⟩,fun e=>absurd e (by simp),none,fun e=>absurd e (by simp),⟨0,0,none⟩,fun e=>absurd e (by simp),none,0,0,fun e=>absurd e (by simp),⟨0,0,none⟩,fun e=>absurd e (by simp),0,fun e=>absurd e (by simp),
   ⟨0,0,none⟩,fun e=>absurd e (by simp),none,fun e=>absurd e (by simp),⟨0,0,none⟩,fun e=>absurd e (by simp),none,0,0,fun e=>absurd e (by simp),fun _=>⟨_,rfl,?_⟩,fun e=>absurd e (by simp)⟩
  exact h.setF (b:=true) fun G2 F2 H2 h2=>⟨rfl,G2,F2,q,h2⟩
 ·have e0:decide ((q.n:Int)-1-(d:Int)<0)=false:=decide_eq_false hlow
  obtain ⟨x,hx⟩:=get_some (l:=r.t.stack) (i:=r.t.stack.length-1-d) (by omega)
  obtain ⟨a,ha,hat⟩:=h.pos hx
  have ht:((q.n:Int)-1-(d:Int)).toNat=r.t.stack.length-1-d:=by omega
  have hask:r.asked d=if (decide (x<0)||decide (x≥(r.s.futures.length:Int)))=true then (-1,{ r with fault:=true }) else (x,r):=by
   unfold Rn.asked; rw [asked_at r d (by omega),hx]
  rw [e0,ht]
  have bd:(0:Int)≤(q.n:Int)-1-(d:Int)∧(q.n:Int)-1-(d:Int)<(q.n:Int):=⟨by omega,by omega⟩
  refine ⟨_,fun _=>rfl,_,fun _=>h.r1,_,fun _=>rfl,_,_,_,fun _=>h.t3,a,fun _=>⟨ha,bd⟩,x,fun _=>hat,
   _,fun _=>rfl,_,fun _=>h.r1,_,fun _=>rfl,_,_,_,fun _=>h.t3,a,fun _=>⟨ha,bd⟩,x,fun _=>hat,
   _,fun _=>rfl,_,fun _=>h.r0_,_,fun _=>rfl,_,_,_,fun _=>h.vm.c24,?_⟩
  rw [h.vm.futLen,hask]
  refine ⟨fun e=>⟨_,rfl,?_⟩,fun e=>⟨_,rfl,_,h.r1,_,rfl,_,_,_,h.t3,a,⟨ha,bd⟩,x,hat,?_⟩⟩
  ·rw [Bool.false_or] at e
   rw [if_pos e]
   exact h.setF (b:=true) fun G2 F2 H2 h2=>⟨rfl,G2,F2,q,h2⟩
  ·rw [Bool.false_or] at e
   rw [if_neg (by rw [e]; simp)]
   exact ⟨rfl,G,F,q,h⟩
end
set_option linter.unusedVariables false
open IntKind
noncomputable def c126:Cx:={ P:=Tryz.prog,res:=[],pub:=[18,20],loops:=[⟨2,[(3,.int .i64)],[8,9,10,12,13,21,22,23,24,25,26,27,28,29,30,31,32,33,34,35,36,37,38,39,40,41,42,43,44,45,46,47,48,49,50,51,52,53,54,55,56,57,58,59,60,61,62,63,64,65,66,67,68,69,70,71,72,73,74],[]⟩],quiet:=[],draws:=[⟨5,[4,8,12,15,17],[0],true,true⟩],asm:=true }
def F126 (m:Option Addr) (fn arg fuel:Int) (H:Heap) (K:Value→Heap→Prop):Prop:=∀b,H b=none→∀H1,H1=H.upd b (.cells #[fn,(0:Int),(0:Int),.slice none 0 0,arg,(0:Int),(0:Int),(0:Int),(0:Int)] 153)→∀b1,H1 b1=none→∀H11,H11=H1.upd b1 (.cells #[.pointer m,.pointer (some (b:Addr)),.bool false] 230) →
 ∃(Rel:Int→Heap→Prop) (mu:Int→Heap→Nat),Rel fuel H11 ∧∀(x:Int) (H1:Heap),Rel x H1→((x==0)=true→K (.tuple #[(0:Int),(3:Int),(0:Int)]) H1) ∧((x==0)=false→∃(Hs:Heap),Ax.Sub Hs H1 ∧∃(a:Addr),m=some a ∧∃(a1:Addr),some (b1:Addr)=some a1 ∧∃(A:Option Addr) (n c:Nat),At Hs ((a.add 0).add 0) [.slice A n c] ∧∃(a2:Addr),InB A a2 fn n ∧∃(A1:Option Addr) (n1 c1:Nat),At Hs ((a2.add (fn.toNat*3)).add 2) [.slice A1 n1 c1] ∧∃(v:Option Addr),At Hs (a1.add 1) [.pointer v] ∧∃(a3:Addr),v=some a3 ∧∃(x1:Int),At Hs (a3.add 1) [x1] ∧∃(a4:Addr),InB A1 a4 x1 n1 ∧∃(x2 x3:Int),
 At Hs (a4.add (x1.toNat*2)) [x2,x3] ∧Ax.Sub Hs H1 ∧Ax.Sub Hs H1 ∧((x2==36||x2==37)=true→Tr Tryz.prog 150 #[.pointer (some (b1:Addr))] H1 fun v1 H' =>∃(x4:Int),v1=.int .i64 x4 ∧∃(a5:Addr),some (b1:Addr)=some a5 ∧∃(b2:Bool),At H' (a5.add 2) [.bool b2] ∧(b2=true→K (.tuple #[(0:Int),(2:Int),(i64.wrap (x-1))]) H') ∧(b2=false→((x2==37)=true→K (.tuple #[x4,(1:Int),(i64.wrap (x-1))]) H') ∧((x2==37)=false→K (.tuple #[x4,(0:Int),(i64.wrap (x-1))]) H'))) ∧
 ((x2==36||x2==37)=false→Tr Tryz.prog 151 #[.pointer (some (b1:Addr)),.agg #[x2,x3]] H1 fun v2 H'1=>v2=.tuple #[] ∧∃(a6:Addr),some (b1:Addr)=some a6 ∧∃(b3:Bool),At H'1 (a6.add 2) [.bool b3] ∧(b3=true→K (.tuple #[(0:Int),(2:Int),(i64.wrap (x-1))]) H'1) ∧(b3=false→Rel (i64.wrap (x-1)) H'1 ∧mu (i64.wrap (x-1)) H'1<mu x H1)))

theorem v126 {m:Option Addr} {fn arg fuel:Int} {H:Heap} {K:Value→Heap→Prop} (h:F126 m fn arg fuel H K):Tr Tryz.prog 126 #[.pointer m,.int .i64 fn,.int .i64 arg,.int .i64 fuel] H K :=
 tr_of_eq (C:=c126) Tryz.func126 (by kernel_rfl) h
noncomputable def c115:Cx:={ P:=Tryz.prog,res:=[],pub:=[],loops:=[⟨3,[(4,.sl),(28,.int .i64)],[5,6,29,30,31,32,33,34,35,36,37,38,39,40,41,42,43,44,45,46,47],[]⟩,⟨10,[(58,.int .i64)],[8,9,10,11,12,59,60,61,62,63,64,65,66,67,68,69,70,71,72,73,74,75,76,77,78,79,80,81,82,83,84,85,86,87,88,89,90,91,92,93,94,95,96,97,98,99],[]⟩],quiet:=[140],asm:=true }
def F115 (m:Option Addr) (s:Int) (H:Heap) (K:Value→Heap→Prop):Prop :=
 ∃(a:Addr),m=some a ∧∃(A:Option Addr) (n c:Nat),At H ((a.add 2).add 23) [.slice A n c] ∧∃(a1:Addr),InB A a1 s n ∧∃(b:Bool),At H ((a1.add (s.toNat*2)).add 1) [.bool b] ∧(b=true→K (.tuple #[]) H) ∧(b=false→∃(a2:Addr),m=some a2 ∧∃(A1:Option Addr) (n1 c1:Nat),At H ((a2.add 2).add 22) [.slice A1 n1 c1] ∧∃(Rel:Option Addr→Nat→Nat→Int→Heap→Prop) (mu:Option Addr→Nat→Nat→Int→Heap→Nat),Rel none (0:Nat) (0:Nat) (0:Int) H ∧∀(A2:Option Addr) (n2 c2:Nat) (x:Int) (H1:Heap),Rel A2 n2 c2 x H1→(decide (x<(↑n1:Int))=true→∃(a3:Addr),InB A1 a3 x n1 ∧
 ∃(x1 x2 x3:Int) (b1:Bool) (x4 x5:Int),At H1 (a3.add (x.toNat*6)) [x1,x2,x3,.bool b1,x4,x5] ∧∃(b2:Bool),((!b1)=true→Tr Tryz.prog 140 #[.pointer m,x3] H1 fun v H'=>v=.bool b2 ∧Ax.Sub H1 H') ∧((!b1&&!b2)=true→appC 3 1 8 H1 A2 n2 c2 [x] 1 fun A' n' c' H'1=>Rel A' n' c' (i64.wrap (x+1)) H'1 ∧mu A' n' c' (i64.wrap (x+1)) H'1<mu A2 n2 c2 x H1) ∧((!b1&&!b2)=false→Rel A2 n2 c2 (i64.wrap (x+1)) H1 ∧mu A2 n2 c2 (i64.wrap (x+1)) H1<mu A2 n2 c2 x H1)) ∧(decide (x<(↑n1:Int))=false→∃(a4:Addr),m=some a4 ∧∃(A3:Option Addr) (n3 c3:Nat),
 At H1 ((a4.add 2).add 23) [.slice A3 n3 c3] ∧∃(a5:Addr),InB A3 a5 s n3 ∧StL H1 ((a5.add (s.toNat*2)).add 1) [.bool true] fun H1_1 =>∃(Rel1:Int→Heap→Prop) (mu1:Int→Heap→Nat),Rel1 (0:Int) H1_1 ∧∀(x6:Int) (H2:Heap),Rel1 x6 H2→(decide (x6<(↑n2:Int))=true→∃(a6:Addr),InB A2 a6 x6 n2 ∧∃(x7:Int),At H2 (a6.add (x6.toNat*1)) [x7] ∧∃(a7:Addr),m=some a7 ∧∃(A4:Option Addr) (n4 c5:Nat),At H2 ((a7.add 2).add 22) [.slice A4 n4 c5] ∧∃(a8:Addr),InB A4 a8 x7 n4 ∧∃(x8 x9 x10:Int) (b3:Bool) (x11 x12:Int),At H2 (a8.add (x7.toNat*6)) [x8,x9,x10,.bool b3,x11,x12] ∧∃(b4:Bool),
 TrQ Tryz.prog 140 #[.pointer m,x10] H2 (.bool b4) ∧((!b4)=true→Rel1 (i64.wrap (x6+1)) H2 ∧mu1 (i64.wrap (x6+1)) H2<mu1 x6 H2) ∧
 ((!b4)=false→∀(b5:Nat),H2 b5=none→∀(H11:Heap),H11=H2.upd b5 (Obj.map #[] 0)→Sm Tryz.prog (updU (Instr.mapUpdate (224:Nat) (.map (some b5)) (.int .i64 3) (.int .i64 6))) H11 fun v2 H'3=>Sm Tryz.prog (updU (Instr.mapUpdate (224:Nat) (.map (some b5)) (.int .i64 4) (.int .i64 7))) H'3 fun v3 H'4=>Sm Tryz.prog (updU (Instr.mapUpdate (224:Nat) (.map (some b5)) (.int .i64 5) (.int .i64 8))) H'4 fun v4 H'5=>Sm Tryz.prog (Instr.lookup (224:Nat) (.map (some b5)) (.int .i64 x8) false) H'5 fun v5 H'6 =>∃(x13:Int),v5=.int .i64 x13 ∧((x13==0)=true→Rel1 (i64.wrap (x6+1)) H'6 ∧
 mu1 (i64.wrap (x6+1)) H'6<mu1 x6 H2) ∧((x13==0)=false→Tr Tryz.prog 141 #[.pointer m,.agg #[(0:Int),(0:Int),x13,x9,(0:Int),(0:Int),(0:Int),(0:Int),(0:Int)]] H'6 fun v6 H'7 =>∃(x14:Int) (b6:Bool),v6=.tuple #[x14,.bool b6] ∧((!b6)=true→K (.tuple #[]) H'7) ∧((!b6)=false→((x8 != 5)=true→Tr Tryz.prog 110 #[.pointer m,x7,(0:Int),(3:Int)] H'7 fun v7 H'8=>v7=.tuple #[] ∧Rel1 (i64.wrap (x6+1)) H'8 ∧mu1 (i64.wrap (x6+1)) H'8<mu1 x6 H2) ∧((x8 != 5)=false→Rel1 (i64.wrap (x6+1)) H'7 ∧mu1 (i64.wrap (x6+1)) H'7<mu1 x6 H2))))) ∧
 (decide (x6<(↑n2:Int))=false→K (.tuple #[]) H2)))

theorem v115 {m:Option Addr} {s:Int} {H:Heap} {K:Value→Heap→Prop} (h:F115 m s H K):Tr Tryz.prog 115 #[.pointer m,.int .i64 s] H K :=
 tr_of_eq (C:=c115) Tryz.func115 (by kernel_rfl) h
noncomputable def c116:Cx:={ P:=Tryz.prog,res:=[],pub:=[],loops:=[],quiet:=[125,126],draws:=[⟨19,[8,10],[],false,true⟩],asm:=true }
def F116 (m:Option Addr) (eId eTime eKind eA eB eC eD eE eF:Int) (H:Heap) (K:Value→Heap→Prop):Prop :=
 ∃(a:Addr),m=some a ∧∃(A:Option Addr) (n c:Nat) (A1:Option Addr) (n1 c1:Nat),At H (a.add 0) [.slice A n c,.slice A1 n1 c1] ∧∃(x:Int),TrQ Tryz.prog 125 #[.agg #[.slice A n c,.slice A1 n1 c1],(3:Int),eA] H (.int .i64 x) ∧(decide (x<0)=true→Tr Tryz.prog 141 #[.pointer m,.agg #[(0:Int),(0:Int),(13:Int),eId,(50:Int),(0:Int),(0:Int),(0:Int),(0:Int)]] H fun v1 H'1 =>∃(x1:Int) (b:Bool),v1=.tuple #[x1,.bool b] ∧K (.tuple #[]) H'1) ∧(decide (x<0)=false→∃(a1:Addr),m=some a1 ∧∃(A2:Option Addr) (n2 c2:Nat) (A3:Option Addr) (n3 c3:Nat),
 At H (a1.add 0) [.slice A2 n2 c2,.slice A3 n3 c3] ∧∃(x2:Int),TrQ Tryz.prog 125 #[.agg #[.slice A2 n2 c2,.slice A3 n3 c3],(4:Int),eA] H (.int .i64 x2) ∧(decide (x2≥0)=true→∃(a2:Addr),m=some a2 ∧∃(x3:Int),At H (a2.add 31) [x3] ∧∃(x4 x5 x6:Int),TrQ Tryz.prog 126 #[.pointer m,x2,eB,x3] H (.tuple #[x4,x5,x6]) ∧∃(a3:Addr),m=some a3 ∧StL H (a3.add 31) [x6] fun H1=>((x5==3)=true→Tr Tryz.prog 142 #[.pointer m,(-1:Int)] H1 fun v4 H'4=>v4=.tuple #[] ∧K (.tuple #[]) H'4) ∧
 ((x5==3)=false→((x5==2)=true→((x5 != 0||(-2:Int) != (0:Int))=true→Tr Tryz.prog 141 #[.pointer m,.agg #[(0:Int),(0:Int),(13:Int),eId,(-2:Int),(0:Int),(0:Int),(0:Int),(0:Int)]] H1 fun v5 H'5 =>∃(x7:Int) (b1:Bool),v5=.tuple #[x7,.bool b1] ∧K (.tuple #[]) H'5) ∧((x5 != 0||(-2:Int) != (0:Int))=false→∃(a4:Addr),m=some a4 ∧∃(A4:Option Addr) (n4 c5:Nat),At H1 ((a4.add 2).add 21) [.slice A4 n4 c5] ∧(decide ((↑n4:Int)≥16)=true→Tr Tryz.prog 142 #[.pointer m,(-3:Int)] H1 fun v6 H'6=>v6=.tuple #[] ∧K (.tuple #[]) H'6) ∧
 (decide ((↑n4:Int)≥16)=false→Tr Tryz.prog 141 #[.pointer m,.agg #[(0:Int),(0:Int),(12:Int),eId,(0:Int),(0:Int),(0:Int),(0:Int),(0:Int)]] H1 fun v7 H'7 =>∃(x8:Int) (b2:Bool),v7=.tuple #[x8,.bool b2] ∧(b2=true→∃(a5:Addr),m=some a5 ∧(∃(A5:Option Addr),∃(n5 c6:Nat),At H'7 ((a5.add 2).add 21) [.slice A5 n5 c6] ∧appC 153 9 88 H'7 A5 n5 c6 [x,(0:Int),(0:Int),.slice none 0 0,eB,(-1:Int),eId,(-1:Int),(-1:Int)] 1 fun (A':Option Addr) (n' c':Nat) (H'8:Heap) =>∃(a6:Addr),m=some a6 ∧StL H'8 ((a6.add 2).add 21) [.slice A' n' c'] fun H11=>K (.tuple #[]) H11) ∧
 ∃(A6:Option Addr) (n6 c8:Nat),At H'7 ((a5.add 2).add 21) [.slice A6 n6 c8] ∧appC 153 9 88 H'7 A6 n6 c8 [x,(0:Int),(0:Int),.slice none 0 0,eB,(-1:Int),eId,(-1:Int),(-1:Int)] 1 fun (A'1:Option Addr) (n'1 c'1:Nat) (H'9:Heap) =>∃(a7:Addr),m=some a7 ∧StL H'9 ((a7.add 2).add 21) [.slice A'1 n'1 c'1] fun H12=>K (.tuple #[]) H12) ∧(b2=false→K (.tuple #[]) H'7)))) ∧((x5==2)=false→((x5 != 0||x4 != 0)=true→Tr Tryz.prog 141 #[.pointer m,.agg #[(0:Int),(0:Int),(13:Int),eId,x4,(0:Int),(0:Int),(0:Int),(0:Int)]] H1 fun v8 H'10 =>∃(x9:Int) (b3:Bool),v8=.tuple #[x9,.bool b3] ∧
 K (.tuple #[]) H'10) ∧((x5 != 0||x4 != 0)=false→∃(a8:Addr),m=some a8 ∧∃(A7:Option Addr) (n7 c10:Nat),At H1 ((a8.add 2).add 21) [.slice A7 n7 c10] ∧(decide ((↑n7:Int)≥16)=true→Tr Tryz.prog 142 #[.pointer m,(-3:Int)] H1 fun v9 H'11=>v9=.tuple #[] ∧K (.tuple #[]) H'11) ∧(decide ((↑n7:Int)≥16)=false→Tr Tryz.prog 141 #[.pointer m,.agg #[(0:Int),(0:Int),(12:Int),eId,(0:Int),(0:Int),(0:Int),(0:Int),(0:Int)]] H1 fun v10 H'12 =>∃(x10:Int) (b4:Bool),v10=.tuple #[x10,.bool b4] ∧(b4=true→∃(a9:Addr),m=some a9 ∧(∃(A8:Option Addr),∃(n8 c11:Nat),
 At H'12 ((a9.add 2).add 21) [.slice A8 n8 c11] ∧appC 153 9 88 H'12 A8 n8 c11 [x,(0:Int),(0:Int),.slice none 0 0,eB,(-1:Int),eId,(-1:Int),(-1:Int)] 1 fun (A'2:Option Addr) (n'2 c'2:Nat) (H'13:Heap) =>∃(a10:Addr),m=some a10 ∧StL H'13 ((a10.add 2).add 21) [.slice A'2 n'2 c'2] fun H13=>K (.tuple #[]) H13) ∧∃(A9:Option Addr) (n9 c13:Nat),At H'12 ((a9.add 2).add 21) [.slice A9 n9 c13] ∧appC 153 9 88 H'12 A9 n9 c13 [x,(0:Int),(0:Int),.slice none 0 0,eB,(-1:Int),eId,(-1:Int),(-1:Int)] 1 fun (A'3:Option Addr) (n'3 c'3:Nat) (H'14:Heap) =>∃(a11:Addr),m=some a11 ∧
 StL H'14 ((a11.add 2).add 21) [.slice A'3 n'3 c'3] fun H14=>K (.tuple #[]) H14) ∧(b4=false→K (.tuple #[]) H'12)))))) ∧(decide (x2≥0)=false→∃(a12:Addr),m=some a12 ∧∃(A10:Option Addr) (n10 c15:Nat),At H ((a12.add 2).add 21) [.slice A10 n10 c15] ∧(decide ((↑n10:Int)≥16)=true→Tr Tryz.prog 142 #[.pointer m,(-3:Int)] H fun v11 H'15=>v11=.tuple #[] ∧K (.tuple #[]) H'15) ∧(decide ((↑n10:Int)≥16)=false→Tr Tryz.prog 141 #[.pointer m,.agg #[(0:Int),(0:Int),(12:Int),eId,(0:Int),(0:Int),(0:Int),(0:Int),(0:Int)]] H fun v12 H'16 =>∃(x11:Int) (b5:Bool),
 v12=.tuple #[x11,.bool b5] ∧(b5=true→∃(a13:Addr),m=some a13 ∧(∃(A11:Option Addr),∃(n11 c16:Nat),At H'16 ((a13.add 2).add 21) [.slice A11 n11 c16] ∧appC 153 9 88 H'16 A11 n11 c16 [x,(0:Int),(0:Int),.slice none 0 0,eB,(-1:Int),eId,(-1:Int),(-1:Int)] 1 fun (A'4:Option Addr) (n'4 c'4:Nat) (H'17:Heap) =>∃(a14:Addr),m=some a14 ∧StL H'17 ((a14.add 2).add 21) [.slice A'4 n'4 c'4] fun H15=>K (.tuple #[]) H15) ∧∃(A12:Option Addr) (n12 c18:Nat),At H'16 ((a13.add 2).add 21) [.slice A12 n12 c18] ∧
 appC 153 9 88 H'16 A12 n12 c18 [x,(0:Int),(0:Int),.slice none 0 0,eB,(-1:Int),eId,(-1:Int),(-1:Int)] 1 fun (A'5:Option Addr) (n'5 c'5:Nat) (H'18:Heap) =>∃(a15:Addr),m=some a15 ∧StL H'18 ((a15.add 2).add 21) [.slice A'5 n'5 c'5] fun H16=>K (.tuple #[]) H16) ∧(b5=false→K (.tuple #[]) H'16))))

theorem v116 {m:Option Addr} {eId eTime eKind eA eB eC eD eE eF:Int} {H:Heap} {K:Value→Heap→Prop} (h:F116 m eId eTime eKind eA eB eC eD eE eF H K):Tr Tryz.prog 116 #[.pointer m,.agg #[.int .i64 eId,.int .i64 eTime,.int .i64 eKind,.int .i64 eA,.int .i64 eB,.int .i64 eC,.int .i64 eD,.int .i64 eE,.int .i64 eF]] H K :=
 tr_of_eq (C:=c116) Tryz.func116 (by kernel_rfl) h
noncomputable def c118:Cx:={ P:=Tryz.prog,res:=[],pub:=[],loops:=[⟨1,[],[4,5,6,7,8,9,10,11,12,13,14,15,16,17,18,19,20,21,22,23,24,25,26,27,28,29,30,31],[]⟩],quiet:=[],asm:=true }
def F118 (m:Option Addr) (i:Int) (H:Heap) (K:Value→Heap→Prop):Prop :=
 ∃(Rel:Heap→Prop) (mu:Heap→Nat),Rel H ∧∀(H1:Heap),Rel H1→∃(a:Addr),m=some a ∧∃(b:Bool),At H1 ((a.add 2).add 25) [.bool b] ∧((!b)=true→∃(a1:Addr),m=some a1 ∧∃(x:Int),At H1 (a1.add 31) [x] ∧((x==0)=true→Tr Tryz.prog 142 #[.pointer m,(-1:Int)] H1 fun v H'=>v=.tuple #[] ∧K (.int .i64 1) H') ∧((x==0)=false→∃(a2:Addr),m=some a2 ∧∃(x1:Int),At H1 (a2.add 31) [x1] ∧∃(a3:Addr),m=some a3 ∧StL H1 (a3.add 31) [(i64.wrap (x1-1))] fun H1_1=>Tr Tryz.prog 143 #[.pointer m,i] H1_1 fun v1 H'1 =>∃(x2:Int),v1=.int .i64 x2 ∧((x2 != 0)=true→K (.int .i64 x2) H'1) ∧
 ((x2 != 0)=false→Rel H'1 ∧mu H'1<mu H1))) ∧((!b)=false→K (.int .i64 1) H1)

theorem v118 {m:Option Addr} {i:Int} {H:Heap} {K:Value→Heap→Prop} (h:F118 m i H K):Tr Tryz.prog 118 #[.pointer m,.int .i64 i] H K :=
 tr_of_eq (C:=c118) Tryz.func118 (by kernel_rfl) h
noncomputable def c151:Cx:={ P:=Tryz.prog,res:=[],pub:=[33,40,53,64,76,85,124,136,149,167],loops:=[],quiet:=[175,176],draws:=[⟨21,[5],[],false,true⟩,⟨24,[5],[],false,true⟩,⟨26,[6],[],false,true⟩,⟨32,[10],[],false,true⟩],asm:=true }
def F151 (r:Option Addr) (oCode oA:Int) (H:Heap) (K:Value→Heap→Prop):Prop :=
 ∃(a:Addr),r=some a ∧∃(v:Option Addr),At H (a.add 1) [.pointer v] ∧∃(a1:Addr),v=some a1 ∧∃(x:Int),At H (a1.add 1) [x] ∧∃(a2:Addr),v=some a2 ∧StL H (a2.add 1) [(i64.wrap (x+1))] fun H1=>((oCode==0)=true→∀b,H1 b=none→∀H11,H11=H1.upd b (.cells #[oA] 2)→Tr Tryz.prog 174 #[.pointer r,.slice (some (b:Addr)) (1:Nat) (1:Nat)] H11 fun v1 H'=>v1=.tuple #[] ∧K (.tuple #[]) H') ∧((oCode==0)=false→((oCode==1)=true→Tr Tryz.prog 150 #[.pointer r] H1 fun v2 H'1 =>∃(x1:Int),v2=.int .i64 x1 ∧K (.tuple #[]) H'1) ∧
 ((oCode==1)=false→((oCode==2)=true→Tr Tryz.prog 150 #[.pointer r] H1 fun v3 H'2 =>∃(x2:Int),v3=.int .i64 x2 ∧∀b1,H'2 b1=none→∀H12,H12=H'2.upd b1 (.cells #[x2,x2] 2)→Tr Tryz.prog 174 #[.pointer r,.slice (some (b1:Addr)) (2:Nat) (2:Nat)] H12 fun v4 H'3=>v4=.tuple #[] ∧K (.tuple #[]) H'3) ∧((oCode==2)=false→((oCode==3)=true→Tr Tryz.prog 150 #[.pointer r] H1 fun v5 H'4 =>∃(x3:Int),v5=.int .i64 x3 ∧Tr Tryz.prog 150 #[.pointer r] H'4 fun v6 H'5 =>∃(x4:Int),v6=.int .i64 x4 ∧
 ∀b2,H'5 b2=none→∀H13,H13=H'5.upd b2 (.cells #[x3,x4] 2)→Tr Tryz.prog 174 #[.pointer r,.slice (some (b2:Addr)) (2:Nat) (2:Nat)] H13 fun v7 H'6=>v7=.tuple #[] ∧K (.tuple #[]) H'6) ∧((oCode==3)=false→((oCode==4)=true→Tr Tryz.prog 150 #[.pointer r] H1 fun v8 H'7 =>∃(x5:Int),v8=.int .i64 x5 ∧Tr Tryz.prog 150 #[.pointer r] H'7 fun v9 H'8 =>∃(x6:Int),v9=.int .i64 x6 ∧∀b3,H'8 b3=none→∀H14,H14=H'8.upd b3 (.cells #[x6,x5,x6] 2)→Tr Tryz.prog 174 #[.pointer r,.slice (some (b3:Addr)) (3:Nat) (3:Nat)] H14 fun v10 H'9=>v10=.tuple #[] ∧K (.tuple #[]) H'9) ∧
 ((oCode==4)=false→((oCode==12)=true→Tr Tryz.prog 150 #[.pointer r] H1 fun v11 H'10 =>∃(x7:Int),v11=.int .i64 x7 ∧∃(x8:Int),TrQ Tryz.prog 175 #[.bool (x7==0)] H'10 (.int .i64 x8) ∧∀b4,H'10 b4=none→∀H15,H15=H'10.upd b4 (.cells #[x8] 2)→Tr Tryz.prog 174 #[.pointer r,.slice (some (b4:Addr)) (1:Nat) (1:Nat)] H15 fun v13 H'12=>v13=.tuple #[] ∧K (.tuple #[]) H'12) ∧((oCode==12)=false→((oCode==13)=true→∃(a3:Addr),r=some a3 ∧∃(v14:Option Addr),At H1 (a3.add 1) [.pointer v14] ∧∃(a4:Addr),v14=some a4 ∧StL H1 (a4.add 1) [oA] fun H16=>K (.tuple #[]) H16) ∧
 ((oCode==13)=false→((oCode==14)=true→Tr Tryz.prog 150 #[.pointer r] H1 fun v15 H'13 =>∃(x9:Int),v15=.int .i64 x9 ∧((x9==0)=true→∃(a5:Addr),r=some a5 ∧∃(v16:Option Addr),At H'13 (a5.add 1) [.pointer v16] ∧∃(a6:Addr),v16=some a6 ∧StL H'13 (a6.add 1) [oA] fun H17=>K (.tuple #[]) H17) ∧((x9==0)=false→K (.tuple #[]) H'13)) ∧((oCode==14)=false→((oCode==15)=true→∃(a7:Addr),r=some a7 ∧∃(v17:Option Addr),At H1 (a7.add 0) [.pointer v17] ∧∃(a8:Addr),v17=some a8 ∧((0:Int)≤oA ∧oA<(↑(16:Nat):Int)) ∧∃(x10:Int),
 At H1 (((a8.add 2).add 0).add (oA.toNat*1)) [x10] ∧∀b5,H1 b5=none→∀H18,H18=H1.upd b5 (.cells #[x10] 2)→Tr Tryz.prog 174 #[.pointer r,.slice (some (b5:Addr)) (1:Nat) (1:Nat)] H18 fun v18 H'14=>v18=.tuple #[] ∧K (.tuple #[]) H'14) ∧((oCode==15)=false→((oCode==17)=true→∃(a9:Addr),r=some a9 ∧∃(v19:Option Addr),At H1 (a9.add 1) [.pointer v19] ∧∃(a10:Addr),v19=some a10 ∧∃(x11:Int),At H1 (a10.add 4) [x11] ∧
 ∀b6,H1 b6=none→∀H19,H19=H1.upd b6 (.cells #[x11] 2)→Tr Tryz.prog 174 #[.pointer r,.slice (some (b6:Addr)) (1:Nat) (1:Nat)] H19 fun v20 H'15=>v20=.tuple #[] ∧K (.tuple #[]) H'15) ∧((oCode==17)=false→((oCode==18)=true→∃(a11:Addr),r=some a11 ∧∃(v21:Option Addr),At H1 (a11.add 0) [.pointer v21] ∧∃(a12:Addr),v21=some a12 ∧∃(x12:Int),At H1 ((a12.add 2).add 20) [x12] ∧∀b7,H1 b7=none→∀H110,H110=H1.upd b7 (.cells #[x12] 2)→Tr Tryz.prog 174 #[.pointer r,.slice (some (b7:Addr)) (1:Nat) (1:Nat)] H110 fun v22 H'16=>v22=.tuple #[] ∧K (.tuple #[]) H'16) ∧
 ((oCode==18)=false→((oCode==26)=true→∃(a13:Addr),r=some a13 ∧∃(v23:Option Addr),At H1 (a13.add 0) [.pointer v23] ∧∃(a14:Addr),v23=some a14 ∧∃(A:Option Addr) (n c3:Nat),At H1 ((a14.add 2).add 24) [.slice A n c3] ∧∃(a15:Addr),InB A a15 oA n ∧∃(A1:Option Addr) (n1 c4:Nat),At H1 (a15.add (oA.toNat*1)) [.slice A1 n1 c4] ∧∀b8,H1 b8=none→∀H111,H111=H1.upd b8 (.cells #[.int .i64 (↑n1:Int)] 2)→Tr Tryz.prog 174 #[.pointer r,.slice (some (b8:Addr)) (1:Nat) (1:Nat)] H111 fun v24 H'17=>v24=.tuple #[] ∧K (.tuple #[]) H'17) ∧
 ((oCode==26)=false→Tr Tryz.prog 150 #[.pointer r] H1 fun v25 H'18 =>∃(x13:Int),v25=.int .i64 x13 ∧Tr Tryz.prog 150 #[.pointer r] H'18 fun v26 H'19 =>∃(x14:Int),v26=.int .i64 x14 ∧∃(x15:Int),TrQ Tryz.prog 176 #[oCode,x14,x13] H'19 (.int .i64 x15) ∧∀b9,H'19 b9=none→∀H112,H112=H'19.upd b9 (.cells #[x15] 2)→Tr Tryz.prog 174 #[.pointer r,.slice (some (b9:Addr)) (1:Nat) (1:Nat)] H112 fun v28 H'21=>v28=.tuple #[] ∧K (.tuple #[]) H'21))))))))))))

theorem v151 {r:Option Addr} {oCode oA:Int} {H:Heap} {K:Value→Heap→Prop} (h:F151 r oCode oA H K):Tr Tryz.prog 151 #[.pointer r,.agg #[.int .i64 oCode,.int .i64 oA]] H K :=
 tr_of_eq (C:=c151) Tryz.func151 (by kernel_rfl) h
noncomputable def c143:Cx:={ P:=Tryz.prog,res:=[],pub:=[5,25],loops:=[],quiet:=[164],draws:=[⟨5,[4,6,9,11,13],[0],true,true⟩,⟨13,[],[],false,true⟩],asm:=true }
def F143 (m:Option Addr) (i:Int) (H:Heap) (K:Value→Heap→Prop):Prop :=
 ∃(a:Addr),m=some a ∧∃(A:Option Addr) (n c:Nat),At H ((a.add 2).add 21) [.slice A n c] ∧∃(a1:Addr),InB A a1 i n ∧∃(x x1 x2:Int) (A1:Option Addr) (n1 c1:Nat) (x3 x4 x5 x6 x7:Int),At H (a1.add (i.toNat*9)) [x,x1,x2,.slice A1 n1 c1,x3,x4,x5,x6,x7] ∧∀b,H b=none→∀H1,H1=H.upd b (.cells #[(0:Int),(0:Int),(0:Int),.slice none 0 0,(0:Int),(0:Int),(0:Int),(0:Int),(0:Int)] 153)→StL H1 (b:Addr) [x,x1,x2,.slice A1 n1 c1,x3,x4,x5,x6,x7] fun H11 =>∃(A2:Option Addr) (n2 c3:Nat),At H11 ((b:Addr).add 3) [.slice A2 n2 c3] ∧
 appS 2 1 8 H11 none (0:Nat) (0:Nat) A2 n2 fun A' n' c' H'=>StL H' ((b:Addr).add 3) [.slice A' n' c'] fun H12=>StL H12 ((b:Addr).add 7) [(-1:Int)] fun H13=>StL H13 ((b:Addr).add 8) [(-1:Int)] fun H14=>∀b1,H14 b1=none→∀H15,H15=H14.upd b1 (.cells #[.pointer m,.pointer (some (b:Addr)),.bool false] 230)→∃(Hs:Heap),Ax.Sub Hs H15 ∧∃(a2:Addr),m=some a2 ∧∃(A3:Option Addr) (n3 c7:Nat),At Hs ((a2.add 0).add 0) [.slice A3 n3 c7] ∧∃(x8:Int),At Hs ((b:Addr).add 0) [x8] ∧∃(a3:Addr),InB A3 a3 x8 n3 ∧∃(A4:Option Addr) (n4 c8:Nat),At Hs ((a3.add (x8.toNat*3)).add 2) [.slice A4 n4 c8] ∧
 ∃(x9:Int),At Hs ((b:Addr).add 1) [x9] ∧∃(a4:Addr),InB A4 a4 x9 n4 ∧∃(x10 x11:Int),At Hs (a4.add (x9.toNat*2)) [x10,x11] ∧Ax.Sub Hs H15 ∧Ax.Sub Hs H15 ∧∃(b2:Bool),TrQ Tryz.prog 164 #[x10] H15 (.bool b2) ∧((b2&&x10 != 36&&x10 != 37)=true→Tr Tryz.prog 151 #[.pointer (some (b1:Addr)),.agg #[x10,x11]] H15 fun v1 H'2=>v1=.tuple #[] ∧∃(a5:Addr),some (b1:Addr)=some a5 ∧∃(b3:Bool),At H'2 (a5.add 2) [.bool b3] ∧(b3=true→Tr Tryz.prog 142 #[.pointer m,(-2:Int)] H'2 fun v2 H'3=>v2=.tuple #[] ∧K (.int .i64 1) H'3) ∧(b3=false→∃(a6:Addr),m=some a6 ∧(∃(A5:Option Addr),
 ∃(n5 c9:Nat),At H'2 ((a6.add 2).add 21) [.slice A5 n5 c9] ∧∃(x12 x13 x14:Int) (A6:Option Addr) (n6 c10:Nat) (x15 x16 x17 x18 x19:Int),At H'2 (b:Addr) [x12,x13,x14,.slice A6 n6 c10,x15,x16,x17,x18,x19] ∧∃(a7:Addr),InB A5 a7 i n5 ∧StL H'2 (a7.add (i.toNat*9)) [x12,x13,x14,.slice A6 n6 c10,x15,x16,x17,x18,x19] fun H16=>K (.int .i64 0) H16) ∧∃(x20 x21 x22:Int) (A7:Option Addr) (n7 c12:Nat) (x23 x24 x25 x26 x27:Int),At H'2 (b:Addr) [x20,x21,x22,.slice A7 n7 c12,x23,x24,x25,x26,x27] ∧∃(A8:Option Addr) (n8 c13:Nat),At H'2 ((a6.add 2).add 21) [.slice A8 n8 c13] ∧∃(a8:Addr),InB A8 a8 i n8 ∧
 StL H'2 (a8.add (i.toNat*9)) [x20,x21,x22,.slice A7 n7 c12,x23,x24,x25,x26,x27] fun H17=>K (.int .i64 0) H17)) ∧((b2&&x10 != 36&&x10 != 37)=false→Tr Tryz.prog 168 #[.pointer (some (b1:Addr)),.agg #[x10,x11]] H15 fun v3 H'4 =>∃(x28:Int),v3=.int .i64 x28 ∧∃(a9:Addr),some (b1:Addr)=some a9 ∧∃(b4:Bool),At H'4 (a9.add 2) [.bool b4] ∧(b4=true→Tr Tryz.prog 142 #[.pointer m,(-2:Int)] H'4 fun v4 H'5=>v4=.tuple #[] ∧K (.int .i64 1) H'5) ∧(b4=false→∃(a10:Addr),m=some a10 ∧(∃(A9:Option Addr),∃(n9 c15:Nat),At H'4 ((a10.add 2).add 21) [.slice A9 n9 c15] ∧
 ∃(x29 x30 x31:Int) (A10:Option Addr) (n10 c16:Nat) (x32 x33 x34 x35 x36:Int),At H'4 (b:Addr) [x29,x30,x31,.slice A10 n10 c16,x32,x33,x34,x35,x36] ∧∃(a11:Addr),InB A9 a11 i n9 ∧StL H'4 (a11.add (i.toNat*9)) [x29,x30,x31,.slice A10 n10 c16,x32,x33,x34,x35,x36] fun H18=>K (.int .i64 x28) H18) ∧∃(x37 x38 x39:Int) (A11:Option Addr) (n11 c18:Nat) (x40 x41 x42 x43 x44:Int),At H'4 (b:Addr) [x37,x38,x39,.slice A11 n11 c18,x40,x41,x42,x43,x44] ∧∃(A12:Option Addr) (n12 c19:Nat),At H'4 ((a10.add 2).add 21) [.slice A12 n12 c19] ∧∃(a12:Addr),InB A12 a12 i n12 ∧
 StL H'4 (a12.add (i.toNat*9)) [x37,x38,x39,.slice A11 n11 c18,x40,x41,x42,x43,x44] fun H19=>K (.int .i64 x28) H19))

theorem v143 {m:Option Addr} {i:Int} {H:Heap} {K:Value→Heap→Prop} (h:F143 m i H K):Tr Tryz.prog 143 #[.pointer m,.int .i64 i] H K :=
 tr_of_eq (C:=c143) Tryz.func143 (by kernel_rfl) h
noncomputable def c168:Cx:={ P:=Tryz.prog,res:=[],pub:=[48],loops:=[],quiet:=[],draws:=[⟨10,[5],[],false,true⟩,⟨14,[6],[],false,true⟩],asm:=true }
def F168 (r:Option Addr) (oCode oA:Int) (H:Heap) (K:Value→Heap→Prop):Prop :=
 ∃(a:Addr),r=some a ∧∃(v:Option Addr),At H (a.add 0) [.pointer v] ∧((oCode==23)=true→Tr Tryz.prog 187 #[.pointer r,.agg #[oCode,oA]] H fun v1 H' =>∃(x:Int),v1=.int .i64 x ∧K (.int .i64 x) H') ∧((oCode==23)=false→((oCode==24)=true→Tr Tryz.prog 187 #[.pointer r,.agg #[oCode,oA]] H fun v2 H'1 =>∃(x1:Int),v2=.int .i64 x1 ∧K (.int .i64 x1) H'1) ∧((oCode==24)=false→((oCode==25)=true→∃(a1:Addr),v=some a1 ∧∃(A:Option Addr) (n c:Nat),At H ((a1.add 2).add 24) [.slice A n c] ∧∃(a2:Addr),InB A a2 oA n ∧∃(A1:Option Addr) (n1 c1:Nat),
 At H (a2.add (oA.toNat*1)) [.slice A1 n1 c1] ∧(((↑n1:Int)==0)=true→∃(a3:Addr),r=some a3 ∧∃(v3:Option Addr),At H (a3.add 1) [.pointer v3] ∧∃(a4:Addr),v3=some a4 ∧StL H (a4.add 8) [oA] fun H1=>K (.int .i64 1) H1) ∧(((↑n1:Int)==0)=false→∃(a5:Addr),InB A1 a5 (0:Int) n1 ∧∃(x2:Int),At H (a5.add (Int.toNat (0:Int)*1)) [x2] ∧∀b,H b=none→∀H11,H11=H.upd b (.cells #[x2] 2)→Tr Tryz.prog 174 #[.pointer r,.slice (some (b:Addr)) (1:Nat) (1:Nat)] H11 fun v4 H'2=>v4=.tuple #[] ∧∃(a6:Addr),r=some a6 ∧∃(b1:Bool),At H'2 (a6.add 2) [.bool b1] ∧((!b1)=true→∃(a7:Addr),
 v=some a7 ∧((0:Int)≤(1:Int) ∧(1:Int)≤(↑n1:Int)) ∧∃(A2:Option Addr) (n2 c3:Nat),At H'2 ((a7.add 2).add 24) [.slice A2 n2 c3] ∧∃(a8:Addr),InB A2 a8 oA n2 ∧StL H'2 (a8.add (oA.toNat*1)) [.slice (if c1=Int.toNat (1:Int) then A1 else Option.map (fun (x:Addr)=>x.add (Int.toNat (1:Int)*1)) A1) (n1-Int.toNat (1:Int)) (c1-Int.toNat (1:Int))] fun H12 =>∃(a9:Addr),r=some a9 ∧∃(v5:Option Addr),At H12 (a9.add 1) [.pointer v5] ∧∃(a10:Addr),v5=some a10 ∧∃(x3:Int),At H12 (a10.add 1) [x3] ∧∃(a11:Addr),v5=some a11 ∧
 StL H12 (a11.add 1) [(i64.wrap (x3+1))] fun H13=>K (.int .i64 0) H13) ∧((!b1)=false→∃(a12:Addr),r=some a12 ∧∃(v6:Option Addr),At H'2 (a12.add 1) [.pointer v6] ∧∃(a13:Addr),v6=some a13 ∧∃(x4:Int),At H'2 (a13.add 1) [x4] ∧∃(a14:Addr),v6=some a14 ∧StL H'2 (a14.add 1) [(i64.wrap (x4+1))] fun H14=>K (.int .i64 0) H14))) ∧((oCode==25)=false→((oCode==36)=true→Tr Tryz.prog 188 #[.pointer r,.agg #[oCode,oA]] H fun v7 H'3 =>∃(x5:Int),v7=.int .i64 x5 ∧K (.int .i64 x5) H'3) ∧
 ((oCode==36)=false→((oCode==37)=true→Tr Tryz.prog 188 #[.pointer r,.agg #[oCode,oA]] H fun v8 H'4 =>∃(x6:Int),v8=.int .i64 x6 ∧K (.int .i64 x6) H'4) ∧((oCode==37)=false→((oCode==35)=true→Tr Tryz.prog 188 #[.pointer r,.agg #[oCode,oA]] H fun v9 H'5 =>∃(x7:Int),v9=.int .i64 x7 ∧K (.int .i64 x7) H'5) ∧((oCode==35)=false→((oCode==28)=true→∃(a15:Addr),r=some a15 ∧∃(v10:Option Addr),At H (a15.add 1) [.pointer v10] ∧∃(a16:Addr),v10=some a16 ∧∃(x8:Int),At H (a16.add 1) [x8] ∧∃(a17:Addr),v10=some a17 ∧
 StL H (a17.add 1) [(i64.wrap (x8+1))] fun H15=>K (.int .i64 1) H15) ∧((oCode==28)=false→((oCode==27)=true→Tr Tryz.prog 189 #[.pointer r,.agg #[oCode,oA]] H fun v11 H'6=>v11=.tuple #[] ∧∃(a18:Addr),r=some a18 ∧∃(v12:Option Addr),At H'6 (a18.add 1) [.pointer v12] ∧∃(a19:Addr),v12=some a19 ∧∃(x9:Int),At H'6 (a19.add 1) [x9] ∧∃(a20:Addr),v12=some a20 ∧StL H'6 (a20.add 1) [(i64.wrap (x9+1))] fun H16=>K (.int .i64 0) H16) ∧((oCode==27)=false→((oCode==29)=true→Tr Tryz.prog 189 #[.pointer r,.agg #[oCode,oA]] H fun v13 H'7=>v13=.tuple #[] ∧∃(a21:Addr),
 r=some a21 ∧∃(v14:Option Addr),At H'7 (a21.add 1) [.pointer v14] ∧∃(a22:Addr),v14=some a22 ∧∃(x10:Int),At H'7 (a22.add 1) [x10] ∧∃(a23:Addr),v14=some a23 ∧StL H'7 (a23.add 1) [(i64.wrap (x10+1))] fun H17=>K (.int .i64 0) H17) ∧((oCode==29)=false→((oCode==30)=true→Tr Tryz.prog 189 #[.pointer r,.agg #[oCode,oA]] H fun v15 H'8=>v15=.tuple #[] ∧∃(a24:Addr),r=some a24 ∧∃(v16:Option Addr),At H'8 (a24.add 1) [.pointer v16] ∧∃(a25:Addr),v16=some a25 ∧∃(x11:Int),At H'8 (a25.add 1) [x11] ∧∃(a26:Addr),v16=some a26 ∧
 StL H'8 (a26.add 1) [(i64.wrap (x11+1))] fun H18=>K (.int .i64 0) H18) ∧((oCode==30)=false→((oCode==31)=true→Tr Tryz.prog 189 #[.pointer r,.agg #[oCode,oA]] H fun v17 H'9=>v17=.tuple #[] ∧∃(a27:Addr),r=some a27 ∧∃(v18:Option Addr),At H'9 (a27.add 1) [.pointer v18] ∧∃(a28:Addr),v18=some a28 ∧∃(x12:Int),At H'9 (a28.add 1) [x12] ∧∃(a29:Addr),v18=some a29 ∧StL H'9 (a29.add 1) [(i64.wrap (x12+1))] fun H19=>K (.int .i64 0) H19) ∧((oCode==31)=false→((oCode==32)=true→Tr Tryz.prog 189 #[.pointer r,.agg #[oCode,oA]] H fun v19 H'10=>v19=.tuple #[] ∧
 ∃(a30:Addr),r=some a30 ∧∃(v20:Option Addr),At H'10 (a30.add 1) [.pointer v20] ∧∃(a31:Addr),v20=some a31 ∧∃(x13:Int),At H'10 (a31.add 1) [x13] ∧∃(a32:Addr),v20=some a32 ∧StL H'10 (a32.add 1) [(i64.wrap (x13+1))] fun H110=>K (.int .i64 0) H110) ∧((oCode==32)=false→Tr Tryz.prog 190 #[.pointer r,.agg #[oCode,oA]] H fun v21 H'11=>v21=.tuple #[] ∧∃(a33:Addr),r=some a33 ∧∃(v22:Option Addr),At H'11 (a33.add 1) [.pointer v22] ∧∃(a34:Addr),v22=some a34 ∧∃(x14:Int),At H'11 (a34.add 1) [x14] ∧∃(a35:Addr),v22=some a35 ∧
 StL H'11 (a35.add 1) [(i64.wrap (x14+1))] fun H111=>K (.int .i64 0) H111))))))))))))

theorem v168 {r:Option Addr} {oCode oA:Int} {H:Heap} {K:Value→Heap→Prop} (h:F168 r oCode oA H K):Tr Tryz.prog 168 #[.pointer r,.agg #[.int .i64 oCode,.int .i64 oA]] H K :=
 tr_of_eq (C:=c168) Tryz.func168 (by kernel_rfl) h
noncomputable def c187:Cx:={ P:=Tryz.prog,res:=[],pub:=[46,53],loops:=[],quiet:=[175],asm:=true }
def F187 (r:Option Addr) (oCode oA:Int) (H:Heap) (K:Value→Heap→Prop):Prop:=Tr Tryz.prog 194 #[.pointer r,(0:Int)] H fun v H' =>
 ∃(x:Int),v=.int .i64 x ∧(decide (x<0)=true→K (.int .i64 0) H') ∧(decide (x<0)=false→∃(a:Addr),r=some a ∧∃(v1:Option Addr),At H' (a.add 0) [.pointer v1] ∧∃(a1:Addr),v1=some a1 ∧∃(A:Option Addr) (n c:Nat),At H' ((a1.add 2).add 22) [.slice A n c] ∧∃(a2:Addr),InB A a2 x n ∧∃(x1 x2 x3:Int) (b:Bool) (x4 x5:Int),At H' (a2.add (x.toNat*6)) [x1,x2,x3,.bool b,x4,x5] ∧((oCode==23&&!b)=true→∃(a3:Addr),r=some a3 ∧∃(v2:Option Addr),At H' (a3.add 1) [.pointer v2] ∧∃(a4:Addr),v2=some a4 ∧StL H' (a4.add 7) [x] fun H1=>K (.int .i64 1) H1) ∧
 ((oCode==23&&!b)=false→Tr Tryz.prog 150 #[.pointer r] H' fun v3 H'1 =>∃(x6:Int),v3=.int .i64 x6 ∧((oCode==24)=true→∃(x7:Int),TrQ Tryz.prog 175 #[.bool b] H'1 (.int .i64 x7) ∧∀b1,H'1 b1=none→∀H11,H11=H'1.upd b1 (.cells #[x7] 2)→Tr Tryz.prog 174 #[.pointer r,.slice (some (b1:Addr)) (1:Nat) (1:Nat)] H11 fun v5 H'3=>v5=.tuple #[] ∧∃(a5:Addr),r=some a5 ∧∃(v6:Option Addr),At H'3 (a5.add 1) [.pointer v6] ∧∃(a6:Addr),v6=some a6 ∧∃(x8:Int),At H'3 (a6.add 1) [x8] ∧∃(a7:Addr),v6=some a7 ∧StL H'3 (a7.add 1) [(i64.wrap (x8+1))] fun H12=>K (.int .i64 0) H12) ∧
 ((oCode==24)=false→∀b2,H'1 b2=none→∀H13,H13=H'1.upd b2 (.cells #[x4,x5] 2)→Tr Tryz.prog 174 #[.pointer r,.slice (some (b2:Addr)) (2:Nat) (2:Nat)] H13 fun v7 H'4=>v7=.tuple #[] ∧∃(a8:Addr),r=some a8 ∧∃(v8:Option Addr),At H'4 (a8.add 1) [.pointer v8] ∧∃(a9:Addr),v8=some a9 ∧∃(x9:Int),At H'4 (a9.add 1) [x9] ∧∃(a10:Addr),v8=some a10 ∧StL H'4 (a10.add 1) [(i64.wrap (x9+1))] fun H14=>K (.int .i64 0) H14)))

theorem v187 {r:Option Addr} {oCode oA:Int} {H:Heap} {K:Value→Heap→Prop} (h:F187 r oCode oA H K):Tr Tryz.prog 187 #[.pointer r,.agg #[.int .i64 oCode,.int .i64 oA]] H K :=
 tr_of_eq (C:=c187) Tryz.func187 (by kernel_rfl) h
noncomputable def c188:Cx:={ P:=Tryz.prog,res:=[],pub:=[],loops:=[],quiet:=[140],asm:=true }
def F188 (r:Option Addr) (oCode oA:Int) (H:Heap) (K:Value→Heap→Prop):Prop :=
 ∃(a:Addr),r=some a ∧∃(v:Option Addr),At H (a.add 0) [.pointer v] ∧Tr Tryz.prog 150 #[.pointer r] H fun v1 H' =>∃(x:Int),v1=.int .i64 x ∧∃(a1:Addr),r=some a1 ∧∃(b:Bool),At H' (a1.add 2) [.bool b] ∧(b=true→K (.int .i64 0) H') ∧(b=false→((oCode==37)=true→((oCode==35)=true→Tr Tryz.prog 141 #[.pointer v,.agg #[(0:Int),(0:Int),(18:Int),x,(0:Int),(0:Int),(0:Int),(0:Int),(0:Int)]] H' fun v2 H'1 =>∃(x1:Int) (b1:Bool),v2=.tuple #[x1,.bool b1] ∧K (.int .i64 2) H'1) ∧((oCode==35)=false→∃(a2:Addr),r=some a2 ∧∃(v3:Option Addr),At H' (a2.add 1) [.pointer v3] ∧
 ∃(a3:Addr),v3=some a3 ∧∃(x2:Int),At H' (a3.add 6) [x2] ∧((x2 != 0)=true→∃(a4:Addr),r=some a4 ∧∃(v4:Option Addr),At H' (a4.add 1) [.pointer v4] ∧∃(a5:Addr),v4=some a5 ∧∃(x3:Int),At H' (a5.add 6) [x3] ∧Tr Tryz.prog 141 #[.pointer v,.agg #[(0:Int),(0:Int),(14:Int),x3,x,(1:Int),(0:Int),(0:Int),(0:Int)]] H' fun v5 H'2 =>∃(x4:Int) (b2:Bool),v5=.tuple #[x4,.bool b2] ∧K (.int .i64 2) H'2) ∧((x2 != 0)=false→∃(a6:Addr),r=some a6 ∧∃(v6:Option Addr),At H' (a6.add 1) [.pointer v6] ∧∃(a7:Addr),v6=some a7 ∧∃(x5:Int),At H' (a7.add 5) [x5] ∧(decide (x5≥0)=true→∃(a8:Addr),
 r=some a8 ∧∃(v7:Option Addr),At H' (a8.add 1) [.pointer v7] ∧∃(a9:Addr),v7=some a9 ∧∃(x6:Int),At H' (a9.add 5) [x6] ∧Tr Tryz.prog 110 #[.pointer v,x6,x,(1:Int)] H' fun v8 H'3=>v8=.tuple #[] ∧K (.int .i64 2) H'3) ∧(decide (x5≥0)=false→((oCode==36)=true→Tr Tryz.prog 141 #[.pointer v,.agg #[(0:Int),(0:Int),(15:Int),x,(0:Int),(0:Int),(0:Int),(0:Int),(0:Int)]] H' fun v9 H'4 =>∃(x7:Int) (b3:Bool),v9=.tuple #[x7,.bool b3] ∧K (.int .i64 2) H'4) ∧((oCode==36)=false→∃(b4:Bool),TrQ Tryz.prog 140 #[.pointer v,(0:Int)] H' (.bool b4) ∧
 (b4=true→Tr Tryz.prog 141 #[.pointer v,.agg #[(0:Int),(0:Int),(17:Int),x,(0:Int),(0:Int),(0:Int),(0:Int),(0:Int)]] H' fun v11 H'6 =>∃(x8:Int) (b5:Bool),v11=.tuple #[x8,.bool b5] ∧K (.int .i64 2) H'6) ∧(b4=false→Tr Tryz.prog 141 #[.pointer v,.agg #[(0:Int),(0:Int),(16:Int),x,(0:Int),(0:Int),(0:Int),(0:Int),(0:Int)]] H' fun v12 H'7 =>∃(x9:Int) (b6:Bool),v12=.tuple #[x9,.bool b6] ∧K (.int .i64 2) H'7)))))) ∧((oCode==37)=false→((oCode==35)=true→Tr Tryz.prog 141 #[.pointer v,.agg #[(0:Int),(0:Int),(18:Int),x,(0:Int),(0:Int),(0:Int),(0:Int),(0:Int)]] H' fun v13 H'8 =>
 ∃(x10:Int) (b7:Bool),v13=.tuple #[x10,.bool b7] ∧K (.int .i64 2) H'8) ∧((oCode==35)=false→∃(a10:Addr),r=some a10 ∧∃(v14:Option Addr),At H' (a10.add 1) [.pointer v14] ∧∃(a11:Addr),v14=some a11 ∧∃(x11:Int),At H' (a11.add 6) [x11] ∧((x11 != 0)=true→∃(a12:Addr),r=some a12 ∧∃(v15:Option Addr),At H' (a12.add 1) [.pointer v15] ∧∃(a13:Addr),v15=some a13 ∧∃(x12:Int),At H' (a13.add 6) [x12] ∧Tr Tryz.prog 141 #[.pointer v,.agg #[(0:Int),(0:Int),(14:Int),x12,x,(0:Int),(0:Int),(0:Int),(0:Int)]] H' fun v16 H'9 =>∃(x13:Int) (b8:Bool),v16=.tuple #[x13,.bool b8] ∧
 K (.int .i64 2) H'9) ∧((x11 != 0)=false→∃(a14:Addr),r=some a14 ∧∃(v17:Option Addr),At H' (a14.add 1) [.pointer v17] ∧∃(a15:Addr),v17=some a15 ∧∃(x14:Int),At H' (a15.add 5) [x14] ∧(decide (x14≥0)=true→∃(a16:Addr),r=some a16 ∧∃(v18:Option Addr),At H' (a16.add 1) [.pointer v18] ∧∃(a17:Addr),v18=some a17 ∧∃(x15:Int),At H' (a17.add 5) [x15] ∧Tr Tryz.prog 110 #[.pointer v,x15,x,(0:Int)] H' fun v19 H'10=>v19=.tuple #[] ∧K (.int .i64 2) H'10) ∧
 (decide (x14≥0)=false→((oCode==36)=true→Tr Tryz.prog 141 #[.pointer v,.agg #[(0:Int),(0:Int),(15:Int),x,(0:Int),(0:Int),(0:Int),(0:Int),(0:Int)]] H' fun v20 H'11 =>∃(x16:Int) (b9:Bool),v20=.tuple #[x16,.bool b9] ∧K (.int .i64 2) H'11) ∧((oCode==36)=false→∃(b10:Bool),TrQ Tryz.prog 140 #[.pointer v,(0:Int)] H' (.bool b10) ∧(b10=true→Tr Tryz.prog 141 #[.pointer v,.agg #[(0:Int),(0:Int),(17:Int),x,(0:Int),(0:Int),(0:Int),(0:Int),(0:Int)]] H' fun v22 H'13 =>∃(x17:Int) (b11:Bool),v22=.tuple #[x17,.bool b11] ∧K (.int .i64 2) H'13) ∧
 (b10=false→Tr Tryz.prog 141 #[.pointer v,.agg #[(0:Int),(0:Int),(16:Int),x,(0:Int),(0:Int),(0:Int),(0:Int),(0:Int)]] H' fun v23 H'14 =>∃(x18:Int) (b12:Bool),v23=.tuple #[x18,.bool b12] ∧K (.int .i64 2) H'14)))))))

theorem v188 {r:Option Addr} {oCode oA:Int} {H:Heap} {K:Value→Heap→Prop} (h:F188 r oCode oA H K):Tr Tryz.prog 188 #[.pointer r,.agg #[.int .i64 oCode,.int .i64 oA]] H K :=
 tr_of_eq (C:=c188) Tryz.func188 (by kernel_rfl) h
section
variable {p:Prg} {G0 H0 G H:Heap} {m rb tb:Nat} {q:SlH} {pf po:SlH} {sl:Nat→SlH} {F:Heap} {ex:Value} {st:List SlH} {r:Rn}
theorem cellsV_get {n k:Nat} (l:List Int) (hk:k<n):(cellsV n l)[k]?=some (.int .i64 (l[k]?.getD 0)):=by
 unfold cellsV; rw [List.getElem?_map,List.getElem?_range hk]; rfl
theorem cellsV_len (n:Nat) (l:List Int):(cellsV n l).length=n:=by unfold cellsV; rw [List.length_map,List.length_range]
theorem VMX.var {s:VS} (h:VMX G H m pf po sl F ex st s) {k:Nat} (hk:k<16):At H ((⟨m,0,none⟩:Addr).add (2+k)) [.int .i64 (s.vars[k]?.getD 0)]:=by
 refine h.cell ?_
 unfold mCells
 simp only [List.append_assoc]
 rw [List.getElem?_append_right (by simp),List.getElem?_append_left (by rw [cellsV_len]; simp; omega)]
 have:2+k - [pf.v,po.v].length=k:=by simp
 rw [this]; exact cellsV_get s.vars hk
theorem RX.setPc (h:RX p G0 H0 G H m rb tb q pf po sl F ex st r) {n:Int} {Q:Heap→Prop} (k:∀G' F' H',RX p G0 H0 G' H' m rb tb q pf po sl F' ex st (r.pc n)→Q H'):Wr H ((⟨tb,0,none⟩:Addr).add 1) (.int .i64 n) Q :=
 h.setT (i:=1) (by decide) { r.t with pc:=n } q rfl h.sq h.oq fun G' F' H' h'=>k G' F' H' h'
theorem t151 (h : RX p G0 H0 G H m rb tb q pf po sl F ex st r) (hb : r.t.stack.length≤1000) (hpc : 0≤r.t.pc∧r.t.pc≤1000) (op a : Int) (h15 : op=15→0≤a∧a<16) (h26 : op=26→0≤a∧a<8) :
  Tr Tryz.prog 151 #[.pointer (some ⟨rb,0,none⟩),.agg #[.int .i64 op,.int .i64 a]] H fun v H'=>v=.tuple #[]∧∃G' F' q',RX p G0 H0 G' H' m rb tb q' pf po sl F' ex st (r.pure_ op a):=by
 apply v151; unfold F151
 have hw:IntKind.i64.wrap (r.t.pc+1)=r.t.pc+1:=wrapi (by omega) (by omega)
 refine ⟨_,rfl,_,h.r1,_,rfl,r.t.pc,at_cells h.ht rfl,_,rfl,?_⟩
 rw [hw]
 refine h.setPc fun G1 F1 H1 h1=>?_
 unfold Rn.pure_
 have hb1:(r.pc (r.t.pc+1)).t.stack.length≤1000:=hb
 generalize r.pc (r.t.pc+1)=r1 at h1 hb1 ⊢
 have hb2:=take_len r1
 have hb3:=take_len r1.take.2
 have nf:∀{k:Int},(op==k)=false→¬op=k:=fun e e2=>by subst e2; simp at e
 have yf:∀{k:Int},(op==k)=true→op=k:=fun e=>by simpa using e
 unfold Rn.pure1
 refine ⟨fun e b hn H2 e2=>?_,fun e0=>⟨fun e=>?_,fun e1=>⟨fun e=>?_,fun e2=>⟨fun e=>?_,fun e3=>⟨fun e=>?_,fun e4=>⟨fun e=>?_,fun e5=>⟨fun e=>?_,fun e6=>⟨fun e=>?_,fun e7=>⟨fun e=>?_,fun e8=>⟨fun e=>?_,fun e9=>⟨fun e=>?_,fun e10=>⟨fun e=>?_,fun e11=>?_⟩⟩⟩⟩⟩⟩⟩⟩⟩⟩⟩⟩
 ·rw [if_pos (yf e)]
  exact h1.leaves [a] (by simp; omega) hn e2 fun G' F' q' H' h'=>⟨rfl,G',F',q',h'⟩
 ·rw [if_neg (nf e0),if_pos (yf e)]
  exact h1.takes (by omega) fun G' F' q' H' h'=>⟨_,rfl,rfl,G',F',q',h'⟩
 ·rw [if_neg (nf e0),if_neg (nf e1),if_pos (yf e)]
  exact h1.takes (by omega) fun G2 F2 q2 H2 h2=>⟨_,rfl,fun b hn H3 e3=>h2.leaves [r1.take.1,r1.take.1] (by simp; omega) hn e3 fun G' F' q' H' h'=>⟨rfl,G',F',q',h'⟩⟩
 ·rw [if_neg (nf e0),if_neg (nf e1),if_neg (nf e2),if_pos (yf e)]
  exact h1.takes (by omega) fun G2 F2 q2 H2 h2=>⟨_,rfl,h2.takes (by omega) fun G3 F3 q3 H3 h3=>⟨_,rfl,fun b hn H4 e4=>h3.leaves [r1.take.1,r1.take.2.take.1] (by simp; omega) hn e4 fun G' F' q' H' h'=>⟨rfl,G',F',q',h'⟩⟩⟩
 ·rw [if_neg (nf e0),if_neg (nf e1),if_neg (nf e2),if_neg (nf e3),if_pos (yf e)]
  exact h1.takes (by omega) fun G2 F2 q2 H2 h2=>⟨_,rfl,h2.takes (by omega) fun G3 F3 q3 H3 h3=>⟨_,rfl,fun b hn H4 e4=>h3.leaves [r1.take.2.take.1,r1.take.1,r1.take.2.take.1] (by simp; omega) hn e4 fun G' F' q' H' h'=>⟨rfl,G',F',q',h'⟩⟩⟩
 ·rw [if_neg (nf e0),if_neg (nf e1),if_neg (nf e2),if_neg (nf e3),if_neg (nf e4),if_pos (yf e)]
  exact h1.takes (by omega) fun G2 F2 q2 H2 h2=>⟨_,rfl,_,t175 _ _,fun b hn H4 e4=>h2.leaves [truthM (r1.take.1==0)] (by simp; omega) hn e4 fun G' F' q' H' h'=>⟨rfl,G',F',q',h'⟩⟩
 ·rw [if_neg (nf e0),if_neg (nf e1),if_neg (nf e2),if_neg (nf e3),if_neg (nf e4),if_neg (nf e5),if_pos (yf e)]
  refine ⟨_,rfl,_,h1.r1,_,rfl,?_⟩
  exact h1.setPc fun G' F' H' h'=>⟨rfl,G',F',q,h'⟩
 ·rw [if_neg (nf e0),if_neg (nf e1),if_neg (nf e2),if_neg (nf e3),if_neg (nf e4),if_neg (nf e5),if_neg (nf e6),if_pos (yf e)]
  refine h1.takes (by omega) fun G2 F2 q2 H2 h2=>⟨_,rfl,fun ez=>⟨_,rfl,_,h2.r1,_,rfl,?_⟩,fun ez=>⟨rfl,G2,F2,q2,?_⟩⟩
  ·rw [if_pos ez]
   exact h2.setPc fun G' F' H' h'=>⟨rfl,G',F',q2,h'⟩
  ·rw [if_neg (by rw [ez]; simp)]; exact h2
 ·rw [if_neg (nf e0),if_neg (nf e1),if_neg (nf e2),if_neg (nf e3),if_neg (nf e4),if_neg (nf e5),if_neg (nf e6),if_neg (nf e7),if_pos (yf e)]
  have ha:=h15 (yf e)
  have hv:=h1.vm.var (k:=a.toNat) (by omega)
  refine ⟨_,rfl,_,h1.r0_,_,rfl,⟨ha.1,ha.2⟩,_,?_,fun b hn H3 e3=>h1.leaves [nthI r1.s.vars a] (by simp; omega) hn e3 fun G' F' q' H' h'=>⟨rfl,G',F',q',h'⟩⟩
  rw [add2,add2,Nat.mul_one]; exact hv
 ·rw [if_neg (nf e0),if_neg (nf e1),if_neg (nf e2),if_neg (nf e3),if_neg (nf e4),if_neg (nf e5),if_neg (nf e6),if_neg (nf e7),if_neg (nf e8),if_pos (yf e)]
  exact ⟨_,rfl,_,h1.r1,_,rfl,_,at_cells h1.ht rfl,fun b hn H3 e3=>h1.leaves [r1.t.arg] (by simp; omega) hn e3 fun G' F' q' H' h'=>⟨rfl,G',F',q',h'⟩⟩
 ·rw [if_neg (nf e0),if_neg (nf e1),if_neg (nf e2),if_neg (nf e3),if_neg (nf e4),if_neg (nf e5),if_neg (nf e6),if_neg (nf e7),if_neg (nf e8),if_neg (nf e9),if_pos (yf e)]
  exact ⟨_,rfl,_,h1.r0_,_,rfl,_,h1.vm.c22,fun b hn H3 e3=>h1.leaves [r1.s.now] (by simp; omega) hn e3 fun G' F' q' H' h'=>⟨rfl,G',F',q',h'⟩⟩
 ·rw [if_neg (nf e0),if_neg (nf e1),if_neg (nf e2),if_neg (nf e3),if_neg (nf e4),if_neg (nf e5),if_neg (nf e6),if_neg (nf e7),if_neg (nf e8),if_neg (nf e9),if_neg (nf e10),if_pos (yf e)]
  have ha:=h26 (yf e)
  have hk:a.toNat<8:=by omega
  obtain ⟨aS,hA,hat⟩:=h1.vm.sig hk
  refine ⟨_,rfl,_,h1.r0_,_,rfl,_,_,_,h1.vm.c26,aS,⟨hA,ha.1,by rw [h1.vm.sigLen]; omega⟩,_,_,_,hat,fun b hn H3 e3=>?_⟩
  rw [h1.vm.sigN hk] at e3
  exact h1.leaves [((r1.s.signals[a.toNat]?.getD []).length:Int)] (by simp; omega) hn e3 fun G' F' q' H' h'=>⟨rfl,G',F',q',h'⟩
 ·rw [if_neg (nf e0),if_neg (nf e1),if_neg (nf e2),if_neg (nf e3),if_neg (nf e4),if_neg (nf e5),if_neg (nf e6),if_neg (nf e7),if_neg (nf e8),if_neg (nf e9),if_neg (nf e10),if_neg (nf e11)]
  exact h1.takes (by omega) fun G2 F2 q2 H2 h2=>⟨_,rfl,h2.takes (by omega) fun G3 F3 q3 H3 h3=>⟨_,rfl,_,t176 _ _ _ _,fun b hn H4 e4=>h3.leaves [twoM op r1.take.2.take.1 r1.take.1] (by simp; omega) hn e4 fun G' F' q' H' h'=>⟨rfl,G',F',q',h'⟩⟩⟩
end
end Go.Proofs.YtkofafcgcnciaaaGreatDoor
set_option maxRecDepth 100000
namespace Go.Ax
structure Right (p:Prg) (i:Nat) (f:Fnc) (k:Nat) (c a:Int):Prop where
 pure_:(f.kind=2∨f.kind=4)→pureB c=true
 most:opd c=true→∀n:Nat,mostB p.funcs.length p.opts.length f.ops.length c=n→0≤a∧a<n
 last:(k:Int)<(f.ops.length:Int)-1∨c=13∨c=35∨c=36∨c=37
 c0:0≤c∧c≤37
 go:c=27→p.kindAt a=1
 again:c=35→i=0
theorem right_facts {p:Prg} {i:Nat} {f:Fnc} {k:Nat} {c a:Int} (h:p.right i f k c a=true):Right p i f k c a:=by
 unfold Prg.right at h
 split at h
 ·cases h
 ·rename_i h1
  split at h
  ·cases h
  ·rename_i h2
   split at h
   ·cases h
   ·rename_i h3
    split at h
    ·cases h
    ·rename_i h4
     refine ⟨fun hk=>?_,fun ho n hn=>?_,?_,?_,fun e=>?_,fun e=>?_⟩
     ·cases hp:pureB c with
      | true=>rfl
      | false=>exact absurd (show ((f.kind==2||f.kind==4)&&!pureB c||c==35&&(i:Int) != 0)=true by rw [hp]; rcases hk with e|e<;>simp [e]) h4
     ·rw [ho,hn] at h2
      have:decide ((n:Int)≥0)=true:=decide_eq_true (Int.natCast_nonneg n)
      rw [this] at h2
      simp at h2
      exact h2
     ·simp at h
      rcases h with h|h
      ·left; omega
      ·right; omega
     ·simp at h1; exact h1
     ·subst e; simpa using h3
     ·subst e
      simp at h4
      exact h4.2
end Go.Ax
namespace Go.Proofs.YtkofafcgcnciaaaGreatDoor
open Go.Ax
theorem take_pc (r:Rn):r.take.2.t.pc=r.t.pc:=by unfold Rn.take; cases r.t.stack.getLast?<;>rfl
theorem leave_pc (r:Rn) (l:List Int):(r.leave l).t.pc=r.t.pc:=rfl
theorem leave_ok (r:Rn) (l:List Int) (h:(r.leave l).fault=false):(r.leave l).t.stack.length≤32:=by
 unfold Rn.leave at h ⊢
 simp only at h ⊢
 rw [List.length_append]
 split at h
 ·cases h
 ·rename_i e
  simp at e; omega
theorem ite_cases {P:Rn→Prop} {c:Prop} [Decidable c] {x y:Rn} (h1:c→P x) (h2:¬c→P y):P (if c then x else y):=by
 by_cases h:c
 ·rw [if_pos h]; exact h1 h
 ·rw [if_neg h]; exact h2 h
theorem pure1_ind (P : Rn→Prop) (r : Rn) (op a : Int) (l0 : op≠13→∀l, P (r.leave l)) (l1 : op≠13→∀l, P (r.take.2.leave l)) (l2 : op≠13→∀l, P (r.take.2.take.2.leave l))
  (ht:op≠13→P r.take.2) (hj:op=13→P (r.pc a)) (hz:op=14→P (r.take.2.pc a)):P (r.pure1 op a):=by
 unfold Rn.pure1
 exact ite_cases (fun _=>l0 (by omega) _) fun _=>ite_cases (fun _=>ht (by omega)) fun _=>ite_cases (fun _=>l1 (by omega) _) fun _=>ite_cases (fun _=>l2 (by omega) _) fun _=>ite_cases (fun _=>l2 (by omega) _) fun _ =>
  ite_cases (fun _=>l1 (by omega) _) fun _=>ite_cases (fun e=>hj e) fun _=>ite_cases (fun e=>ite_cases (fun _=>hz e) fun _=>ht (by omega)) fun _=>ite_cases (fun _=>l0 (by omega) _) fun _=>ite_cases (fun _=>l0 (by omega) _) fun _ =>
  ite_cases (fun _=>l0 (by omega) _) fun _=>ite_cases (fun _=>l0 (by omega) _) fun _=>l2 (by omega) _
theorem pure1_s (r:Rn) (op a:Int):(r.pure1 op a).s=r.s :=
 pure1_ind (fun z=>z.s=r.s) r op a (fun _ _=>rfl) (fun _ _=>take_s r) (fun _ _=>(take_s r.take.2).trans (take_s r)) (fun _=>take_s r) (fun _=>rfl) (fun _=>take_s r)
theorem pure1_pc (r:Rn) (op a:Int):((op=13∨op=14)∧(r.pure1 op a).t.pc=a)∨(op≠13∧(r.pure1 op a).t.pc=r.t.pc) :=
 pure1_ind (fun z=>((op=13∨op=14)∧z.t.pc=a)∨(op≠13∧z.t.pc=r.t.pc)) r op a (fun e _=>.inr ⟨e,rfl⟩) (fun e _=>.inr ⟨e,take_pc r⟩) (fun e _=>.inr ⟨e,(take_pc r.take.2).trans (take_pc r)⟩) (fun e=>.inr ⟨e,take_pc r⟩) (fun e=>.inl ⟨.inl e,rfl⟩) (fun e=>.inl ⟨.inr e,rfl⟩)
theorem pure1_stack (r:Rn) (op a:Int) (h:r.t.stack.length≤32):(r.pure1 op a).fault=false→(r.pure1 op a).t.stack.length≤32 :=
 pure1_ind (fun z=>z.fault=false→z.t.stack.length≤32) r op a (fun _ l=>leave_ok r l) (fun _ l=>leave_ok _ l) (fun _ l=>leave_ok _ l) (fun _ _=>Nat.le_trans (take_len r) h) (fun _ _=>h) (fun _ _=>Nat.le_trans (take_len r) h)
theorem pure_s (r:Rn) (op a:Int):(r.pure_ op a).s=r.s:=pure1_s _ _ _
theorem pure_stack (r:Rn) (op a:Int) (h:r.t.stack.length≤32) (hf:(r.pure_ op a).fault=false):(r.pure_ op a).t.stack.length≤32:=pure1_stack (r.pc (r.t.pc+1)) op a h hf
theorem pure_pc (r:Rn) (op a:Int):((op=13∨op=14)∧(r.pure_ op a).t.pc=a)∨(op≠13∧(r.pure_ op a).t.pc=r.t.pc+1):=pure1_pc (r.pc (r.t.pc+1)) op a
theorem _root_.Go.Ax.Okp.len {p:Prg} (ok:Okp p) {i:Nat} {f:Fnc} (hf:p.funcs[i]?=some f):1≤f.ops.length∧f.ops.length≤128:=by
 have:=ok.named i f hf
 rw [named_eq hf] at this
 simp at this
 omega
theorem opAt_eq {p:Prg} {i k:Nat} {f:Fnc} {c a:Int} (hf:p.funcs[i]?=some f) (ho:f.ops[k]?=some (c,a)):p.opAt i k=(c,a):=by
 unfold Prg.opAt; rw [Int.toNat_natCast,Int.toNat_natCast,hf]; simp [ho]
theorem next_pc {p:Prg} {i k:Nat} {f:Fnc} {c a:Int} (hr:Right p i f k c a) (hk:f.kind=2∨f.kind=4) (h36:c≠36) (h37:c≠37) (r:Rn) (hp:r.t.pc=k):0≤(r.pure_ c a).t.pc∧(r.pure_ c a).t.pc<f.ops.length:=by
 rcases pure_pc r c a with ⟨hc,e⟩|⟨hc,e⟩
 ·rw [e]
  have ho:opd c=true:=by rcases hc with rfl|rfl<;>rfl
  have hm:mostB p.funcs.length p.opts.length f.ops.length c=(f.ops.length:Nat):=by rcases hc with rfl|rfl<;>rfl
  exact hr.most ho _ hm
 ·rw [e,hp]
  have h35:c≠35:=fun e35=>by
   have:=hr.pure_ hk
   rw [e35] at this; cases this
  rcases hr.last with h|h|h|h|h
  ·omega
  ·exact absurd h hc
  ·exact absurd h h35
  ·exact absurd h h36
  ·exact absurd h h37
section
variable {p:Prg} {G H:Heap} {m:Nat} {pf po:SlH} {sl:Nat→SlH} {F:Heap} {ex:Value} {st:List SlH} {s:VS}
theorem VMX.c0 (h:VMX G H m pf po sl F ex st s):At H ((⟨m,0,none⟩:Addr).add 0) [pf.v]:=h.cell rfl
structure PRel (p:Prg) (G H:Heap) (m b1 b:Nat) (pf po:SlH) (sl:Nat→SlH) (ex:Value) (st:List SlH) (s:VS) (i:Nat) (f:Fnc) (n:Nat) (r0:Rn) (x:Int) (H1:Heap):Prop where
 out:∃(k:Nat) (G' F':Heap) (q':SlH) (r:Rn),x=k∧k≤n∧RX p G H G' H1 m b1 b q' pf po sl F' ex st r∧r.fault=false∧r.t.stack.length≤32∧0≤r.t.pc∧r.t.pc<f.ops.length∧purelyG p i k r=purelyG p i n r0
theorem t126 (h : VMX G H m pf po sl F ex st s) (pr : HasP (dif F G) pf.A pf.n po.A po.n p) (ok : Okp p) {i : Nat} {f : Fnc} (hf : p.funcs[i]?=some f) (hk : f.kind=2∨f.kind=4) (arg : Int) (n : Nat) (hn : n≤1000) :
  Tr Tryz.prog 126 #[.pointer (some ⟨m,0,none⟩),.int .i64 i,.int .i64 arg,.int .i64 n] H fun v H'=>v=.tuple #[.int .i64 (s.purely p i arg n).1,.int .i64 (s.purely p i arg n).2.1,.int .i64 ((s.purely p i arg n).2.2:Nat)]∧Sub H H':=by
 have hlen:=ok.len hf
 apply v126; unfold F126
 intro b hb Hx ex1 b1 hb1 Hy ey1
 subst ex1
 subst ey1
 have v1:=h.ext hb (.cells ⟨thrC (⟨i,0,0,[],arg,0,0,0,0⟩,⟨none,0,0⟩)⟩ 153 (0,0))
 have v2:=v1.ext hb1 (.cells ⟨runC m b false⟩ 230 (0,0))
 have hF:=none_below h.fh hb
 have hG:=none_below h.gf hF
 have hF1:=none_below v1.fh hb1
 have hG1:=none_below v1.gf hF1
 have hne:b1≠b:=fun e=>by subst e; rw [Heap.upd_same] at hb1; cases hb1
 have hH1:H b1=none:=none_below (Sub.upd_new hb) hb1
 let r0:Rn:=⟨s,⟨i,0,0,[],arg,0,0,0,0⟩,false⟩
 refine ⟨PRel p G H m b1 b pf po sl ex st s i f n r0,fun x _=>x.toNat,⟨n,_,_,⟨none,0,0⟩,r0,rfl,Nat.le_refl _,⟨v2,(pr.sub (dif_ext hF _)).sub (dif_ext hF1 _),(Sub.upd_new hG).trans (Sub.upd_new hG1),(Sub.upd_new hb).trans (Sub.upd_new hb1),h.gf.trans h.fh,Heap.upd_same,?_,hH1,hb,hne,⟨rfl,Nat.le_refl _,.inl ⟨rfl,rfl,rfl⟩⟩,fun b hb=>by cases hb⟩,rfl,Nat.zero_le _,Int.le_refl _,?_,rfl⟩,fun x H1 hr=>?_⟩
 ·rw [Heap.upd_other hne.symm,Heap.upd_same]
 ·show (0:Int)<f.ops.length
  omega
 ·obtain ⟨k,G',F',q',r,rfl,hkn,h',hfl,hst,hp0,hp1,he⟩:=hr.out
  have hpur:s.purely p i arg n=purelyG p i k r:=he.symm
  refine ⟨fun e=>?_,fun e=>?_⟩
  ·have:k=0:=by simpa using e
   subst this
   rw [hpur]
   exact ⟨rfl,h'.keep⟩
  ·have hk0:(k:Int)≠0:=by simpa using e
   obtain ⟨k',rfl⟩:∃k',k=k'+1:=⟨k-1,by omega⟩
   obtain ⟨j,hj⟩:∃j:Nat,r.t.pc=j:=⟨r.t.pc.toNat,by omega⟩
   obtain ⟨⟨c,a⟩,ho⟩:=get_some (l:=f.ops) (i:=j) (by omega)
   have hri:=right_facts (ok.right i f j c a hf ho)
   have hat:=opAt_eq hf ho
   have pH:=(h'.pr.sub dif_sub).sub h'.vm.fh
   obtain ⟨a1,B,mm,d,ha1,hat1,hops⟩:=pH.fns.at_ i f hf
   obtain ⟨a2,ha2,hat2⟩:=hops.at_ j c a ho
   have hw:IntKind.i64.wrap (((k'+1:Nat):Int)-1)=(k':Int):=by rw [wrapi (by omega) (by omega)]; omega
   have hfn:=pH.fns.len
   have hol:=hops.len
   have hit:=get_lt hf
   have hpc3:At H1 ((⟨b,0,none⟩:Addr).add 1) [.int .i64 (j:Int)]:=by rw [←hj]; exact at_cells h'.ht rfl
   rw [hw]
   refine ⟨H1,Sub.refl _,_,rfl,_,rfl,_,_,_,h'.vm.c0,a1,⟨ha1,by omega,by omega⟩,B,mm,d,at_one 2 hat1 rfl,_,h'.r1,_,rfl,(j:Int),hpc3,a2,⟨ha2,by omega,by omega⟩,c,a,hat2,Sub.refl _,Sub.refl _,fun e=>?_,fun e=>?_⟩
   ·refine h'.takes (by omega) fun G2 F2 q2 H2 h2=>⟨_,rfl,_,rfl,_,h2.r2,fun e1=>?_,fun e1=>⟨fun e2=>?_,fun e2=>?_⟩⟩
    all_goals
     rw [hpur]
     unfold purelyG
     rw [hj,hat]
     simp only
     rw [if_pos e]
    ·rw [if_pos e1]; exact ⟨rfl,h2.keep⟩
    ·rw [if_neg (by rw [e1]; simp),if_pos e2]; exact ⟨rfl,h2.keep⟩
    ·rw [if_neg (by rw [e1]; simp),if_neg (by rw [e2]; simp)]; exact ⟨rfl,h2.keep⟩
   ·have e36:c≠36:=fun e3=>by subst e3; simp at e
    have e37:c≠37:=fun e3=>by subst e3; simp at e
    have hstep:purelyG p i (k'+1) r=if (r.pure_ c a).fault=true then (0,2,k') else purelyG p i k' (r.pure_ c a):=by
     rw [purelyG,hj,hat]
     simp only
     rw [if_neg (by rw [e]; simp)]
    have h15:c=15→0≤a∧a<16:=fun e3=>by subst e3; exact hri.most rfl 16 rfl
    have h26:c=26→0≤a∧a<8:=fun e3=>by subst e3; exact hri.most rfl 8 rfl
    refine (t151 h' (by omega) ⟨hp0,by omega⟩ c a h15 h26).mono fun v H2 hv=>?_
    obtain ⟨rfl,G2,F2,q2,h2⟩:=hv
    refine ⟨rfl,_,rfl,_,h2.r2,fun e1=>?_,fun e1=>⟨⟨k',G2,F2,q2,r.pure_ c a,rfl,by omega,h2,e1,pure_stack r c a hst e1,(next_pc hri hk e36 e37 r hj).1,(next_pc hri hk e36 e37 r hj).2,?_⟩,?_⟩⟩
    ·rw [hpur,hstep,if_pos e1]; exact ⟨rfl,h2.keep⟩
    ·rw [←he,hstep,if_neg (by rw [e1]; simp)]
    ·show (k':Int).toNat<((k'+1:Nat):Int).toNat
     omega
end
theorem emit0_futs (s:VS) (e:Ev):(s.emit0 e).2.futures=s.futures:=by
 unfold VS.emit0
 split
 ·rfl
 ·rfl
 ·split<;>rfl
theorem emit_futs (s:VS) (e:Ev):(s.emit e).2.futures=s.futures:=by
 unfold VS.emit
 split
 ·exact emit0_futs _ _
 ·exact emit0_futs _ _
section
variable {G H:Heap} {m:Nat} {pf po:SlH} {sl:Nat→SlH} {F:Heap} {ex:Value} {st:List SlH} {s:VS}
def FutP (m:Nat) (f:Fut) (H:Heap) (Q:Heap→Prop):Prop :=
 ∃(A:Option Addr) (n c:Nat),At H (((⟨m,0,none⟩:Addr).add 2).add 22) [.slice A n c]∧appC 81 6 48 H A n c (futC f) 1 fun A' n' c' H4 =>
  ∃a9:Addr,some (⟨m,0,none⟩:Addr)=some a9∧Wr H4 ((a9.add 2).add 22) (.slice A' n' c') Q
theorem VMX.addFut (h:VMX G H m pf po sl F ex st s) (f:Fut) (hl:s.futures.length≤1000000) {Q:Heap→Prop} (q:∀H' sl',VMX G H' m pf po sl' F ex st (s.fut f)→Q H'):FutP m f H Q:=by
 have hn:=h.futLen
 refine ⟨_,_,_,h.c24,h.app (c:=1) (by decide) (new:=futC f) (k:=1) rfl rfl (by omega) (by omega) fun A' c' H4 h4 r=>⟨_,rfl,?_⟩⟩
 have hs6:∀k,setH sl 1 ⟨A',(sl 1).n+1,c'⟩ (6+k)=sl (6+k):=fun k=>if_neg (by omega)
 refine h4.wrSl (c:=1) (by decide) r (k:=24) (by decide) (s.fut f) st rfl ?_ (fun c2 hc2 hne=>?_) rfl h.vars h.attrs h.sigs h.stl h.stk fun H13 h13=>q _ _ h13
 ·show (s.futures++[f]).flatMap futC=s.futures.flatMap futC++futC f
  rw [List.flatMap_append]; simp
 ·simp only [contC,hs6,if_neg hne]
  rfl
end
section
variable {p:Prg} {G0 H0 G H:Heap} {m rb tb:Nat} {q:SlH} {pf po:SlH} {sl:Nat→SlH} {F:Heap} {ex:Value} {st:List SlH} {r:Rn}
theorem RX.setVs (h:RX p G0 H0 G H m rb tb q pf po sl F ex st r) {H':Heap} {sl':Nat→SlH} {st':List SlH} {s':VS} (v:VMX G H' m pf po sl' F ex st' s'):RX p G0 G0 G H' m rb tb q pf po sl' F ex st' (r.vs s') :=
 ⟨v,h.pr,h.base,h.base.trans (v.gf.trans v.fh),Sub.refl _,h.gr,h.gt,none_below h.g0h h.r0,none_below h.g0h h.t0,h.ne,h.sq,fun b hb=>⟨none_below h.g0h (h.oq b hb).1,(h.oq b hb).2⟩⟩
theorem RX.low (h:RX p G0 H0 G H m rb tb q pf po sl F ex st r):RX p G0 G0 G H m rb tb q pf po sl F ex st r:=h.setVs h.vm
theorem RX.t2 (h:RX p G0 H0 G H m rb tb q pf po sl F ex st r):At H ((⟨tb,0,none⟩:Addr).add 2) [.int .i64 r.t.scope]:=at_cells h.ht rfl
theorem RX.t1 (h:RX p G0 H0 G H m rb tb q pf po sl F ex st r):At H ((⟨tb,0,none⟩:Addr).add 1) [.int .i64 r.t.pc]:=at_cells h.ht rfl
structure RZ (p:Prg) (G0:Heap) (m rb tb:Nat) (pf po:SlH) (ex:Value) (r:Rn) (H:Heap):Prop where
 out:∃G F q sl st,RX p G0 G0 G H m rb tb q pf po sl F ex st r
theorem RX.z (h:RX p G0 H0 G H m rb tb q pf po sl F ex st r):RZ p G0 m rb tb pf po ex r H:=⟨G,F,q,sl,st,h.low⟩
theorem t197 (h : RX p G0 H0 G H m rb tb q pf po sl F ex st r) (hb : r.t.stack.length≤1000) (hp : ScpOk r.s.scopes) (hs : r.t.scope<r.s.scopes.length) (hc : 0≤r.s.count) (hc2 : r.s.count≤100000) (hm : r.s.made.length≤100000) (hf : r.s.futures.length≤1000000) (e : Ev) :
  Tr Tryz.prog 197 #[.pointer (some ⟨rb,0,none⟩),e.val] H fun v H'=>v=.tuple #[]∧RZ p G0 m rb tb pf po ex (r.opens e) H':=by
 apply v197; unfold F197
 refine ⟨_,rfl,_,h.r0_,H,Sub.refl _,_,rfl,_,h.r1,_,rfl,_,h.t2,Sub.refl _,Sub.refl _,_,rfl,_,h.r1,_,rfl,_,h.t2,_,t140 h.vm hp _ hs,fun ec=>⟨_,rfl,_,_,_,h.vm.c24,fun b hn H1 e1=>?_⟩,fun ec=>?_⟩
 ·rw [h.vm.futLen] at e1
  refine h.leaves [(r.s.futures.length:Int)] (by simp; omega) hn e1 fun G' F' q' H' h'=>?_
  have key:FutP m ⟨e.kind,0,r.t.scope,true,0,3⟩ H' fun H''=>Value.tuple #[]=.tuple #[]∧RZ p G0 m rb tb pf po ex (r.opens e) H'' :=
   h'.vm.addFut ⟨e.kind,0,r.t.scope,true,0,3⟩ hf fun H'' sl'' v=>⟨rfl,by
    have:=(h'.setVs v).z
    unfold Rn.opens; rw [if_pos ec]; exact this⟩
  exact ⟨_,rfl,key,key⟩
 ·refine (t141 h.vm e hc hc2 hm).mono fun v H1 ⟨hv,sl1,v1⟩=>⟨_,_,hv,fun eo=>⟨rfl,?_⟩,fun eo=>⟨_,rfl,_,_,_,v1.c24,fun b hn H2 e2=>?_⟩⟩
  ·have:=(h.setVs v1).z
   unfold Rn.opens; rw [if_neg (by rw [ec]; simp),if_pos eo]; exact this
  ·rw [v1.futLen] at e2
   have h1:=h.setVs v1
   refine h1.leaves [((r.s.emit e).2.futures.length:Int)] (by show r.t.stack.length+1≤_; omega) hn e2 fun G' F' q' H' h'=>?_
   have key:FutP m ⟨e.kind,(r.s.emit e).1.1,r.t.scope,false,0,0⟩ H' fun H''=>Value.tuple #[]=.tuple #[]∧RZ p G0 m rb tb pf po ex (r.opens e) H'' :=
    h'.vm.addFut ⟨e.kind,(r.s.emit e).1.1,r.t.scope,false,0,0⟩ (by show (r.s.emit e).2.futures.length≤_; rw [emit_futs]; exact hf) fun H'' sl'' v=>⟨rfl,by
     have:=(h'.setVs v).z
     unfold Rn.opens; rw [if_neg (by rw [ec]; simp),if_neg (by rw [eo]; simp)]; exact this⟩
   exact ⟨_,rfl,key,key⟩
end
theorem asked_cases (r:Rn) (d:Nat):r.asked d=(-1,{ r with fault:=true })∨∃v:Int,r.asked d=(v,r)∧0≤v∧v<r.s.futures.length:=by
 unfold Rn.asked
 split
 ·rename_i v _
  split
  ·exact .inl rfl
  ·rename_i hv
   simp at hv
   exact .inr ⟨v,rfl,by omega,by omega⟩
 ·exact .inl rfl
section
variable {p:Prg} {G0 H0 G H:Heap} {m rb tb:Nat} {q:SlH} {pf po:SlH} {sl:Nat→SlH} {F:Heap} {ex:Value} {st:List SlH} {r:Rn}
theorem t187 (h : RX p G0 H0 G H m rb tb q pf po sl F ex st r) (hb : r.t.stack.length ≤ 1000) (hpc : 0 ≤ r.t.pc ∧ r.t.pc ≤ 1000) (op a : Int) :
    Tr Tryz.prog 187 #[.pointer (some ⟨rb,0,none⟩),.agg #[.int .i64 op,.int .i64 a]] H fun v H'=>v=.int .i64 (r.awaits op).1∧RZ p G0 m rb tb pf po ex (r.awaits op).2 H':=by
  have hw:IntKind.i64.wrap (r.t.pc+1)=r.t.pc+1:=wrapi (by omega) (by omega)
  apply v187; unfold F187
  refine (t194 h (by omega) 0 (by omega)).mono fun v H1 ⟨hv,G1,F1,q1,h1⟩=>⟨_,hv,fun e=>⟨?_,?_⟩,fun e=>?_⟩
  · unfold Rn.awaits; rw [if_pos e]
  · unfold Rn.awaits; rw [if_pos e]; exact h1.z
  · rcases asked_cases r 0 with hx|⟨k,hx,hk0,hk1⟩
    · rw [hx] at e; simp at e
    · obtain ⟨f,hf⟩:=get_some (l:=r.s.futures) (i:=k.toNat) (by omega)
      have haw : r.awaits op = if (op == 23 && !f.done) = true then (1, { r with t := { r.t with waits := k } }) else
          if (op==24)=true then (0,(r.take.2.leave [truthM f.done]).pc (r.t.pc+1)) else (0,(r.take.2.leave [f.value,f.status]).pc (r.t.pc+1)):=by
        unfold Rn.awaits
        rw [hx,if_neg (by rw [decide_eq_true_iff]; omega)]
        simp only
        rw [hf]
      rw [hx] at h1 ⊢
      simp only at h1 ⊢
      obtain ⟨a1,ha1,hat1⟩:=h1.vm.fut hf
      have hb2:=take_len r
      refine ⟨_,rfl,_,h1.r0_,_,rfl,_,_,_,h1.vm.c24,a1,⟨ha1,hk0,by rw [h1.vm.futLen]; exact hk1⟩,_,_,_,_,_,_,hat1,fun e2=>⟨_,rfl,_,h1.r1,_,rfl,?_⟩,fun e2=>?_⟩
      · rw [haw,if_pos e2]
        exact h1.setT (i:=7) (by decide) { r.t with waits:=k } q1 rfl h1.sq h1.oq fun G' F' H' h'=>⟨rfl,h'.z⟩
      · refine h1.takes (by omega) fun G2 F2 q2 H2 h2=>⟨_,rfl,fun e3=>⟨_,t175 _ _,fun b hn H3 e4=>?_⟩,fun e3 b hn H3 e4=>?_⟩
        · refine h2.leaves [truthM f.done] (by simp; omega) hn e4 fun G3 F3 q3 H4 h3=>⟨_,rfl,_,h3.r1,_,rfl,r.t.pc,?_,_,rfl,?_⟩
          · have:=h3.t1; rw [leave_pc,take_pc] at this; exact this
          · rw [hw,haw,if_neg (by rw [e2]; simp),if_pos e3]
            exact h3.setPc fun G' F' H' h'=>⟨rfl,h'.z⟩
        · refine h2.leaves [f.value,f.status] (by simp; omega) hn e4 fun G3 F3 q3 H4 h3=>⟨_,rfl,_,h3.r1,_,rfl,r.t.pc,?_,_,rfl,?_⟩
          · have:=h3.t1; rw [leave_pc,take_pc] at this; exact this
          · rw [hw,haw,if_neg (by rw [e2]; simp),if_neg (by rw [e3]; simp)]
            exact h3.setPc fun G' F' H' h'=>⟨rfl,h'.z⟩
end
theorem take_upd (r:Rn):r.take.2.t.update=r.t.update:=by unfold Rn.take; cases r.t.stack.getLast?<;>rfl
theorem take_fut (r:Rn):r.take.2.t.future=r.t.future:=by unfold Rn.take; cases r.t.stack.getLast?<;>rfl
theorem take_scope (r:Rn):r.take.2.t.scope=r.t.scope:=by unfold Rn.take; cases r.t.stack.getLast?<;>rfl
section
variable {p:Prg} {G0 H0 G H:Heap} {m rb tb:Nat} {q:SlH} {pf po:SlH} {sl:Nat→SlH} {F:Heap} {ex:Value} {st:List SlH} {r:Rn}
theorem RX.t5 (h:RX p G0 H0 G H m rb tb q pf po sl F ex st r):At H ((⟨tb,0,none⟩:Addr).add 5) [.int .i64 r.t.future]:=at_cells h.ht rfl
theorem RX.t6 (h:RX p G0 H0 G H m rb tb q pf po sl F ex st r):At H ((⟨tb,0,none⟩:Addr).add 6) [.int .i64 r.t.update]:=at_cells h.ht rfl
theorem RX.emits (h : RX p G0 H0 G H m rb tb q pf po sl F ex st r) (e : Ev) (hc : 0≤r.s.count) (hc2 : r.s.count≤100000) (hm : r.s.made.length≤100000) {Q : Heap→Prop} (k : ∀H', RZ p G0 m rb tb pf po ex (r.vs (r.s.emit e).2) H'→Q H') :
  Tr Tryz.prog 141 #[.pointer (some ⟨m,0,none⟩),e.val] H fun v H'=>∃(x:Int) (b:Bool),v=.tuple #[.int .i64 x,.bool b]∧Q H' :=
 (t141 h.vm e hc hc2 hm).mono fun _ H1 ⟨hv,_,v1⟩=>⟨_,_,hv,k H1 (h.setVs v1).z⟩
theorem t188 (h : RX p G0 H0 G H m rb tb q pf po sl F ex st r) (hb : r.t.stack.length≤1000) (hp : ScpOk r.s.scopes) (hs : 0<r.s.scopes.length) (hf : r.t.future<r.s.futures.length) (hc : 0≤r.s.count) (hc2 : r.s.count≤100000) (hm : r.s.made.length≤100000) (op a : Int) :
  Tr Tryz.prog 188 #[.pointer (some ⟨rb,0,none⟩),.agg #[.int .i64 op,.int .i64 a]] H fun v H'=>v=.int .i64 (r.ends op).1∧RZ p G0 m rb tb pf po ex (r.ends op).2 H':=by
 apply v188; unfold F188
 refine ⟨_,rfl,_,h.r0_,h.takes (by omega) fun G1 F1 q1 H1 h1=>⟨_,rfl,_,rfl,_,h1.r2,fun e=>?_,fun e=>?_⟩⟩
 ·unfold Rn.ends; rw [if_pos e]; exact ⟨rfl,h1.z⟩
 have hs1:=take_s r
 have t6:At H1 ((⟨tb,0,none⟩:Addr).add 6) [.int .i64 r.t.update]:=by have:=h1.t6; rw [take_upd] at this; exact this
 have t5:At H1 ((⟨tb,0,none⟩:Addr).add 5) [.int .i64 r.t.future]:=by have:=h1.t5; rw [take_fut] at this; exact this
 have em:∀(ev:Ev) {Q:Heap→Prop},(∀H',RZ p G0 m rb tb pf po ex (r.take.2.vs (r.s.emit ev).2) H'→Q H')→Tr Tryz.prog 141 #[.pointer (some ⟨m,0,none⟩),ev.val] H1 fun v H'=>∃(x:Int) (b:Bool),v=.tuple #[.int .i64 x,.bool b]∧Q H':=fun ev Q k =>
  h1.emits ev (by rw [hs1]; exact hc) (by rw [hs1]; exact hc2) (by rw [hs1]; exact hm) fun H' z=>k H' (by rw [hs1] at z; exact z)
 have cn:Tr Tryz.prog 140 #[.pointer (some ⟨m,0,none⟩),.int .i64 0] H1 fun v H'=>v=.bool (r.s.cancelled 0)∧Sub H1 H':=by
  have:=t140 h1.vm (by rw [hs1]; exact hp) 0 (by rw [hs1]; omega)
  rw [hs1] at this; exact this
 have dn:∀(k:Int) {Q:Heap→Prop},(∀H',RZ p G0 m rb tb pf po ex (r.take.2.vs (r.s.setDone r.t.future r.take.1 k)) H'→Q H')→Tr Tryz.prog 110 #[.pointer (some ⟨m,0,none⟩),.int .i64 r.t.future,.int .i64 r.take.1,.int .i64 k] H1 fun v H'=>v=.tuple #[]∧Q H':=fun k Q g =>
  (t110 h1.vm r.t.future r.take.1 k (by rw [hs1]; exact hf)).mono fun v H' ⟨e,v1⟩=>⟨e,g H' (by have:=(h1.setVs v1).z; rw [hs1] at this; exact this)⟩
 have he : r.ends op=(2, r.take.2.vs (
   if (op==35)=true then (r.s.emit (evM 18 r.take.1 0 0)).2 else
   if (r.t.update != 0)=true then (r.s.emit (evM 14 r.t.update r.take.1 (if (op==37)=true then 1 else 0))).2 else
   if decide (r.t.future≥0)=true then r.s.setDone r.t.future r.take.1 (if (op==37)=true then 1 else 0) else
   if (op==36)=true then (r.s.emit (evM 15 r.take.1 0 0)).2 else
   if r.s.cancelled 0=true then (r.s.emit (evM 17 r.take.1 0 0)).2 else (r.s.emit (evM 16 r.take.1 0 0)).2)):=by
  unfold Rn.ends; rw [if_neg (by rw [e]; simp)]
 rw [he]
 refine ⟨fun e37=>?_,fun e37=>?_⟩
 ·refine ⟨fun e35 => em (evM 18 r.take.1 0 0) fun H' z => ⟨rfl, ?_⟩, fun e35 => ⟨_, rfl, _, h1.r1, _, rfl, _, t6, fun eu => ⟨_, rfl, _, h1.r1, _, rfl, _, t6, em (evM 14 r.t.update r.take.1 1) fun H' z => ⟨rfl, ?_⟩⟩, fun eu => ⟨_, rfl, _, h1.r1, _, rfl, _, t5,
   fun ef=>⟨_,rfl,_,h1.r1,_,rfl,_,t5,dn 1 fun H' z=>⟨rfl,?_⟩⟩,fun ef=>⟨fun e36=>em (evM 15 r.take.1 0 0) fun H' z=>⟨rfl,?_⟩,fun e36=>⟨_,cn,fun ec=>em (evM 17 r.take.1 0 0) fun H' z=>⟨rfl,?_⟩,fun ec=>em (evM 16 r.take.1 0 0) fun H' z=>⟨rfl,?_⟩⟩⟩⟩⟩⟩
  all_goals simp only [*,if_true,if_false,Bool.false_eq_true]
  all_goals exact z
 ·refine ⟨fun e35 => em (evM 18 r.take.1 0 0) fun H' z => ⟨rfl, ?_⟩, fun e35 => ⟨_, rfl, _, h1.r1, _, rfl, _, t6, fun eu => ⟨_, rfl, _, h1.r1, _, rfl, _, t6, em (evM 14 r.t.update r.take.1 0) fun H' z => ⟨rfl, ?_⟩⟩, fun eu => ⟨_, rfl, _, h1.r1, _, rfl, _, t5,
   fun ef=>⟨_,rfl,_,h1.r1,_,rfl,_,t5,dn 0 fun H' z=>⟨rfl,?_⟩⟩,fun ef=>⟨fun e36=>em (evM 15 r.take.1 0 0) fun H' z=>⟨rfl,?_⟩,fun e36=>⟨_,cn,fun ec=>em (evM 17 r.take.1 0 0) fun H' z=>⟨rfl,?_⟩,fun ec=>em (evM 16 r.take.1 0 0) fun H' z=>⟨rfl,?_⟩⟩⟩⟩⟩⟩
  all_goals simp only [*,if_true,if_false,Bool.false_eq_true]
  all_goals exact z
end
end Go.Proofs.YtkofafcgcnciaaaGreatDoor
