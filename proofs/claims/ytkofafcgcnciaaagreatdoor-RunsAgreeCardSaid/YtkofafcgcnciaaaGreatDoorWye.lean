/- Lemmas that the claim needs, in order. Conditions: those of each lemma. -/
import Derived.Test.YtkofafcgcnciaaaGreatDoorWyd
set_option maxRecDepth 100000
namespace Go.Proofs.YtkofafcgcnciaaaGreatDoor
open Go.Ax
structure Fix (g:Thr→Int):Prop where
 stack:∀t l,g { t with stack:=l }=g t
 scope:∀t i,g { t with scope:=i }=g t
 pc:∀t i,g { t with pc:=i }=g t
 waits:∀t i,g { t with waits:=i }=g t
 signal:∀t i,g { t with signal:=i }=g t
theorem fix_func:Fix Thr.func:=⟨fun _ _=>rfl,fun _ _=>rfl,fun _ _=>rfl,fun _ _=>rfl,fun _ _=>rfl⟩
theorem fix_update:Fix Thr.update:=⟨fun _ _=>rfl,fun _ _=>rfl,fun _ _=>rfl,fun _ _=>rfl,fun _ _=>rfl⟩
theorem fix_future:Fix Thr.future:=⟨fun _ _=>rfl,fun _ _=>rfl,fun _ _=>rfl,fun _ _=>rfl,fun _ _=>rfl⟩
theorem fix_arg:Fix Thr.arg:=⟨fun _ _=>rfl,fun _ _=>rfl,fun _ _=>rfl,fun _ _=>rfl,fun _ _=>rfl⟩
section
variable {g:Thr→Int}
theorem Fix.take (k:Fix g) (r:Rn):g r.take.2.t=g r.t:=by rw [take_t]; exact k.stack _ _
theorem Fix.leave (k:Fix g) (r:Rn) (l:List Int):g (r.leave l).t=g r.t:=k.stack _ _
theorem ite_g {r:Rn} {P:Prop} [Decidable P] {x y:Rn} (h1:g x.t=g r.t) (h2:g y.t=g r.t):g (if P then x else y).t=g r.t:=by split; exact h1; exact h2
theorem Fix.scope_ (k:Fix g) (r:Rn):g r.scope.2.t=g r.t:=by rw [scope_t]; exact k.take r
theorem Fix.threads (k:Fix g) (r:Rn) (op a:Int):g (r.threads op a).t=g r.t:=by
 unfold Rn.threads
 exact ite_g (ite_g (k.take r) (ite_g (k.take r) ((k.leave _ _).trans (k.take r)))) (ite_g (ite_g rfl (ite_g rfl (k.leave _ _))) (ite_g (ite_g (k.scope_ r) ((k.scope _ _).trans (k.scope_ r))) (ite_g (ite_g (k.scope_ r) (k.scope_ r)) (k.leave _ _))))
theorem Fix.opens (k:Fix g) (r:Rn) (e:Ev):g (r.opens e).t=g r.t:=by
 unfold Rn.opens; exact ite_g (k.leave _ _) (ite_g rfl (k.leave _ _))
theorem Fix.asked (r:Rn) (d:Nat):g (r.asked d).2.t=g r.t:=by
 rcases asked_cases r d with e|⟨v,e,-⟩<;>rw [e]
theorem Fix.told (r:Rn) (op:Int):g (r.told op).2.t=g r.t:=by
 unfold Rn.told
 split
 ·split
  ·split
   ·exact Fix.asked r 1
   ·rfl
  ·exact Fix.asked r 1
 ·rfl
theorem Fix.command (k:Fix g) (r:Rn) (op a ev v:Int):g (r.command op a ev v).t=g r.t:=by
 unfold Rn.command
 exact ite_g rfl (ite_g (k.opens r _) (ite_g (k.opens r _) (ite_g (k.opens r _) (ite_g (ite_g rfl rfl) (ite_g (k.take r) rfl)))))
theorem Fix.commands (k:Fix g) (r:Rn) (op a:Int):g (r.commands op a).t=g r.t:=by
 unfold Rn.commands
 exact ite_g (ite_g rfl (ite_g (k.leave _ _) rfl)) (ite_g (Fix.told r op) (ite_g (k.take r) ((k.command _ _ _ _ _).trans (k.take r))))
theorem Fix.ends (k:Fix g) (r:Rn) (op:Int):g (r.ends op).2.t=g r.t:=by
 unfold Rn.ends; split
 ·exact k.take r
 ·exact k.take r
theorem Fix.waitS (k:Fix g) (r:Rn) (a:Int):g (r.waitS a).2.t=g r.t:=by
 unfold Rn.waitS
 split
 ·exact k.signal _ _
 ·split
  ·exact (k.pc _ _).trans (k.leave _ _)
  ·exact (k.pc _ _).trans (k.leave _ _)
theorem Fix.awaits (k:Fix g) (r:Rn) (op:Int):g (r.awaits op).2.t=g r.t:=by
 unfold Rn.awaits
 split
 ·exact Fix.asked r 0
 ·split
  ·split
   ·exact k.waits _ _
   ·split
    ·exact (k.pc _ _).trans ((k.leave _ _).trans (k.take r))
    ·exact (k.pc _ _).trans ((k.leave _ _).trans (k.take r))
  ·rfl
theorem Fix.does (k:Fix g) (r:Rn) (op a:Int):g (r.does op a).2.t=g r.t:=by
 unfold Rn.does
 split
 ·exact k.awaits r op
 ·split
  ·exact k.waitS r a
  ·split
   ·exact k.ends r op
   ·split
    ·exact k.pc _ _
    ·split
     ·exact (k.pc _ _).trans (k.threads r op a)
     ·exact (k.pc _ _).trans (k.commands r op a)
theorem Fix.pure_ (k:Fix g) (r:Rn) (op a:Int):g (r.pure_ op a).t=g r.t:=by
 have h:g ((r.pc (r.t.pc+1)).pure1 op a).t=g (r.pc (r.t.pc+1)).t:=by
  generalize r.pc (r.t.pc+1)=r1
  exact pure1_ind (fun z=>g z.t=g r1.t) r1 op a (fun _ l=>k.leave _ _) (fun _ l=>(k.leave _ _).trans (k.take r1)) (fun _ l=>(k.leave _ _).trans ((k.take _).trans (k.take r1))) (fun _=>k.take r1) (fun _=>k.pc _ _) (fun _=>(k.pc _ _).trans (k.take r1))
 exact h.trans (k.pc _ _)
end
theorem awaits_after {p:Prg} {r:Rn} (h:RnIn p r) (op:Int) (hx:∃f,p.funcs[r.t.func.toNat]?=some f∧r.t.pc+1<f.ops.length):After p r (r.awaits op).2:=by
 have hs:=take_s r
 have hp:=h.thr.pc0
 unfold Rn.awaits
 rcases asked_cases r 0 with e|⟨v,e,h0,h1⟩
 ·rw [e]
  rw [if_pos (by show decide ((-1:Int)<0)=true; decide)]
  exact h.self rfl (fun f=>by cases f)
 ·rw [e]
  rw [if_neg (by rw [decide_eq_true_iff]; show ¬v<0; omega)]
  obtain ⟨f,hf⟩:=get_some (l:=r.s.futures) (i:=v.toNat) (by omega)
  simp only
  rw [hf]
  simp only
  have tl:∀l:List Int,After p r ((r.take.2.leave l).pc (r.t.pc+1)):=fun l=>by
   refine pc_after ?_ ((fix_func.leave r.take.2 l).trans (fix_func.take r)) (by omega) hx
   refine h.self hs (fun f=>?_)
   have:=leave_thr (r:=r.take.2) h.take.thr l f
   rw [hs] at this; exact this
  split
  ·exact h.self rfl (fun _=>waits_thr h.thr h1)
  ·split
   ·exact tl _
   ·exact tl _
theorem waitS_after {p:Prg} {r:Rn} (h:RnIn p r) {a:Int} (ha:0≤a∧a<8) (hx:∃f,p.funcs[r.t.func.toNat]?=some f∧r.t.pc+1<f.ops.length):After p r (r.waitS a).2:=by
 have hp:=h.thr.pc0
 unfold Rn.waitS
 split
 ·exact h.self rfl (fun _=>signal_thr h.thr ha.2)
 ·rename_i x l hxl
  split
  ·refine pc_after (r':=r.leave [x]) ?_ (fix_func.leave r _) (by omega) hx
   exact h.self rfl (leave_thr h.thr _)
  ·refine pc_after (r':=(r.leave [x]).vs { r.s with signals:=r.s.signals.set a.toNat l }) ?_ (fix_func.leave r _) (by omega) hx
   exact .vs ((FStep.sig (p:=p) r.s a.toNat x l hxl).one (Cv.nice rfl rfl rfl rfl rfl)) (fun _=>h.ho) (leave_thr h.thr _) rfl
theorem does_after {p:Prg} {r:Rn} (h:RnIn p r) (hn:r.fault=false) (op a:Int) (oo:OpOk p op a) (hpu:(pureB op&&op != 36&&op != 37)=false) (hx:op≠13→op≠35→op≠36→op≠37→∃f,p.funcs[r.t.func.toNat]?=some f∧r.t.pc+1<f.ops.length):After p r (r.does op a).2:=by
 have hp:=h.thr.pc0
 have n13:op≠13:=fun e=>by subst e; cases hpu
 unfold Rn.does
 split
 ·rename_i e
  have:op=23∨op=24:=by simpa using e
  exact awaits_after h op (hx n13 (by omega) (by omega) (by omega))
 ·split
  ·rename_i e
   exact waitS_after h (oo.o25 e) (hx n13 (by omega) (by omega) (by omega))
  ·split
   ·exact ends_after h op
   ·rename_i n
    have n:op≠36∧op≠37∧op≠35:=by simpa [and_assoc] using n
    have hx:=hx n13 n.2.2 n.1 n.2.1
    split
    ·exact pc_after (r':=r) (h.self rfl (fun _=>h.thr)) rfl (by omega) hx
    ·split
     ·exact pc_after (threads_after h hn op a oo) (fix_func.threads r op a) (by rw [threads_pc]; omega) (by rw [threads_pc]; exact hx)
     ·exact pc_after (commands_after h hn op a) (fix_func.commands r op a) (by rw [commands_pc]; omega) (by rw [commands_pc]; exact hx)
theorem pure_fields {p:Prg} {r:Rn} (h:ThrOk p r.s r.t) (op a:Int) (hf:(r.pure_ op a).fault=false) (h0:0≤(r.pure_ op a).t.pc) (h1:∃f,p.funcs[r.t.func.toNat]?=some f∧(r.pure_ op a).t.pc<f.ops.length):ThrOk p r.s (r.pure_ op a).t:=by
 have k1:=fix_func.pure_ r op a
 have k2:=fix_update.pure_ r op a
 have k3:=fix_future.pure_ r op a
 have k4:Fix Thr.arg:=fix_arg
 have sc:(r.pure_ op a).t.scope=r.t.scope∧(r.pure_ op a).t.waits=r.t.waits∧(r.pure_ op a).t.signal=r.t.signal :=
  pure1_ind (fun z=>z.t.scope=r.t.scope∧z.t.waits=r.t.waits∧z.t.signal=r.t.signal) (r.pc (r.t.pc+1)) op a (fun _ _=>⟨rfl,rfl,rfl⟩)
   (fun _ _=>by show (Rn.take _).2.t.scope=_∧(Rn.take _).2.t.waits=_∧(Rn.take _).2.t.signal=_; rw [take_t]; exact ⟨rfl,rfl,rfl⟩)
   (fun _ _=>by show (Rn.take _).2.t.scope=_∧(Rn.take _).2.t.waits=_∧(Rn.take _).2.t.signal=_; rw [take_t,take_t]; exact ⟨rfl,rfl,rfl⟩)
   (fun _=>by rw [take_t]; exact ⟨rfl,rfl,rfl⟩) (fun _=>⟨rfl,rfl,rfl⟩) (fun _=>by show (Rn.take _).2.t.scope=_∧(Rn.take _).2.t.waits=_∧(Rn.take _).2.t.signal=_; rw [take_t]; exact ⟨rfl,rfl,rfl⟩)
 exact ⟨by rw [k1]; exact h1,by rw [k1]; exact h.f0,h0,pure_stack r op a h.stack hf,by rw [sc.1]; exact h.scope,by rw [k3]; exact h.future,by rw [k2]; exact h.update,by rw [sc.2.1]; exact h.waits,by rw [sc.2.2]; exact h.signal⟩
structure Stands (p:Prg) (t:Thr) (i k:Nat) (f:Fnc) (c a:Int):Prop where
 func:t.func=i
 pc:t.pc=k
 fn:p.funcs[i]?=some f
 o:f.ops[k]?=some (c,a)
 op:p.opAt t.func t.pc=(c,a)
theorem stands {p:Prg} {s:VS} {t:Thr} (h:ThrOk p s t):∃i k f c a,Stands p t i k f c a:=by
 obtain ⟨f,hf,hk⟩:=h.fn
 have h0:=h.f0
 have h1:=h.pc0
 obtain ⟨⟨c,a⟩,ho⟩:=get_some (l:=f.ops) (i:=t.pc.toNat) (by omega)
 have e1:t.func=(t.func.toNat:Int):=by omega
 have e2:t.pc=(t.pc.toNat:Int):=by omega
 refine ⟨t.func.toNat,t.pc.toNat,f,c,a,e1,e2,hf,ho,?_⟩
 have:=opAt_eq hf ho
 rw [←e1,←e2] at this; exact this
def Thr.wake (t:Thr):Thr:={ t with waits:=-1,signal:=-1 }
theorem wake_thr {p:Prg} {s:VS} {t:Thr} (h:ThrOk p s t):ThrOk p s t.wake:=⟨h.fn,h.f0,h.pc0,h.stack,h.scope,h.future,h.update,by show (-1:Int)<_; omega,by show (-1:Int)<8; decide⟩
theorem run_eq_ {p:Prg} {s:VS} {i:Nat} {t:Thr} (ht:s.threads[i]?=some t):s.run p i=if (pureB (p.opAt t.func t.pc).1&&(p.opAt t.func t.pc).1 != 36&&(p.opAt t.func t.pc).1 != 37)=true then (0,(⟨s,t.wake,false⟩:Rn).pure_ (p.opAt t.func t.pc).1 (p.opAt t.func t.pc).2) else (⟨s,t.wake,false⟩:Rn).does (p.opAt t.func t.pc).1 (p.opAt t.func t.pc).2:=by
 unfold VS.run; rw [ht]; rfl
theorem run_after {p:Prg} (ok:Okp p) {s:VS} {i:Nat} {t:Thr} (ht:s.threads[i]?=some t) (iv:Inv p s) (rm:Room s) (ho:s.over=false) (sk:(s.futures.length:Int)+s.fuel+1≤1000*s.count):After p ⟨s,t.wake,false⟩ (s.run p i).2:=by
 have hT:=iv.thr t (List.mem_of_getElem? ht)
 have hw:=wake_thr hT
 obtain ⟨j,k,f,c,a,st⟩:=stands hT
 have hr:=right_facts (ok.right j f k c a st.fn st.o)
 have hin:RnIn p ⟨s,t.wake,false⟩:=⟨⟨iv,rm,ho,hw⟩,⟨t,List.mem_of_getElem? ht,rfl⟩,sk⟩
 have hx:c≠13→c≠35→c≠36→c≠37→∃f,p.funcs[t.func.toNat]?=some f∧t.pc+1<f.ops.length:=fun h1 h2 h3 h4=>⟨f,by rw [st.func]; exact st.fn,by rw [st.pc]; exact next_of hr h1 h2 h3 h4⟩
 rw [run_eq_ ht,st.op]
 split
 ·rename_i hp
  simp only
  have h36:c≠36:=fun e=>by subst e; simp at hp
  have h37:c≠37:=fun e=>by subst e; simp at hp
  have h35:c≠35:=fun e=>by subst e; simp [pureB] at hp
  refine hin.self (pure_s _ _ _) (fun hf=>?_)
  have hpc:0≤((⟨s,t.wake,false⟩:Rn).pure_ c a).t.pc∧((⟨s,t.wake,false⟩:Rn).pure_ c a).t.pc<f.ops.length:=by
   rcases pure_pc (⟨s,t.wake,false⟩:Rn) c a with ⟨hc,e⟩|⟨hc,e⟩
   ·rw [e]
    have hopd:opd c=true:=by rcases hc with rfl|rfl<;>rfl
    have hm:mostB p.funcs.length p.opts.length f.ops.length c=(f.ops.length:Nat):=by rcases hc with rfl|rfl<;>rfl
    exact hr.most hopd _ hm
   ·rw [e]
    have:=next_of hr hc h35 h36 h37
    have hp0:=st.pc
    show 0≤t.pc+1∧t.pc+1<_
    omega
  exact pure_fields (r:=⟨s,t.wake,false⟩) hw c a hf hpc.1 ⟨f,by show p.funcs[t.func.toNat]?=_; rw [st.func]; exact st.fn,hpc.2⟩
 ·rename_i hp
  exact does_after hin rfl c a (opOk ok st.fn st.o) (by simpa using hp) hx
theorem instr_steps {p:Prg} (ok:Okp p) {s:VS} {i:Nat} {t:Thr} (ht:s.threads[i]?=some t) (iv:Inv p s) (rm:Room s) (ho:s.over=false) (sk:(s.futures.length:Int)+s.fuel+1≤1000*s.count):FSteps p true s (s.instruction p i).2:=by
 have h:=run_after ok ht iv rm ho sk
 unfold VS.instruction
 split
 ·rename_i hf
  exact h.steps.lift.tail (.fails _ _ (h.fault hf)) (Cv.fails _ _)
 ·rename_i hf
  obtain ⟨l,hl⟩:=h.steps.threads
  have hti:(s.run p i).2.s.threads[i]?=some t:=by
   have hl:(s.run p i).2.s.threads=s.threads++l:=hl
   rw [hl,List.getElem?_append_left (get_lt ht)]; exact ht
  obtain ⟨j,k,f,c,a,st⟩:=stands (iv.thr t (List.mem_of_getElem? ht))
  have key:(s.run p i).2.t.future=t.future:=by
   rw [run_eq_ ht,st.op]
   split
   ·exact fix_future.pure_ _ _ _
   ·exact fix_future.does _ _ _
  exact h.steps.lift.tail (.set _ _ _ rfl (h.thr (by simpa using hf))) (Cv.set (List.mem_of_getElem? hti) key)
end Go.Proofs.YtkofafcgcnciaaaGreatDoor
set_option maxRecDepth 100000
namespace Go.Ax
def WrL (H:Heap) (a:Addr) (vs:List Value) (Q:Heap→Prop):Prop :=
 ∃(cur:Array Value) (T:TypeId),H a.block=some (.cells cur T (0,0))∧a.spot=none∧a.off+vs.length≤cur.size∧∀H1,H1=H.upd a.block (.cells (splice cur a.off vs) T (0,0))→Q H1
theorem zip_set {α β:Type}:∀(l:List α) (k:List β) (i:Nat) (x:α) (y:β),(l.set i x).zip (k.set i y)=(l.zip k).set i (x,y)
 | [],_,_,_,_=>by simp
 | _::_,[],_,_,_=>by simp
 | a::l,b::k,0,x,y=>rfl
 | a::l,b::k,i+1,x,y=>by rw [List.set_cons_succ,List.set_cons_succ,List.zip_cons_cons,List.zip_cons_cons,List.set_cons_succ,zip_set l k i x y]
theorem flat_setL {α:Type} {cells:α→List Value} {sz:Nat} (hsz:∀x,(cells x).length=sz):∀(l:List α) (i:Nat) (y:α),i<l.length→(l.set i y).flatMap cells=(l.flatMap cells).take (i*sz)++cells y++(l.flatMap cells).drop (i*sz+sz)
 | [],i,y,h=>by simp at h
 | z::l,0,y,_=>by
  rw [List.set_cons_zero,List.flatMap_cons,List.flatMap_cons,Nat.zero_mul,Nat.zero_add,List.take_zero,List.nil_append]
  congr 1
  rw [←hsz z,List.drop_left]
 | z::l,i+1,y,h=>by
  rw [List.set_cons_succ,List.flatMap_cons,List.flatMap_cons,flat_setL hsz l i y (by simpa using h)]
  have e:(i+1)*sz=(cells z).length+i*sz:=by rw [hsz,Nat.add_mul]; omega
  rw [e,Nat.add_assoc,List.take_length_add_append,List.drop_length_add_append]
  simp [List.append_assoc]
end Go.Ax
namespace Go.Proofs.YtkofafcgcnciaaaGreatDoor
open Go.Ax
section
variable {G H:Heap} {m:Nat} {pf po:SlH} {sl:Nat→SlH} {F:Heap} {ex:Value} {st:List SlH} {s:VS}
theorem VMX.putL (h : VMX G H m pf po sl F ex st s) {c : Nat} (hc : c<14) {a : Addr} (ha : (sl c).A=some a) {k : Nat} {vs : List Value} (hk : k+vs.length≤(contC sl st s c).length) (s' : VS) (st' : List SlH)
  (e0:contC sl st' s' c=(contC sl st s c).take k++vs++(contC sl st s c).drop (k+vs.length)) (ec:∀c',c'<14→c'≠c→contC sl st' s' c'=contC sl st s c') (em:mCells pf po sl ex s'=mCells pf po sl ex s) (e7:s'.expect=s.expect) (e8:s'.vars.length=16) (e9:s'.attrs.length=4) (e10:s'.signals.length=8)
  (e11:st'.length=s'.threads.length) (e12:∀(j:Nat) (t:Thr) (q:SlH),s'.threads[j]?=some t→st'[j]?=some q→HasL (dif F G) q t.stack)
  {Q:Heap→Prop} (q:∀H',VMX G H' m pf po sl F ex st' s'→Q H'):WrL H (a.add k) vs Q:=by
 have ok:=h.ok c hc
 have hlen:=ok.len
 rcases ok.at_ with ⟨a1,_⟩|⟨b,off,cur,T,a1,a2,a3,a4⟩
 ·rw [a1] at ha; cases ha
 ·rw [a1] at ha; cases ha
  have b0:((⟨b,off,none⟩:Addr).add k).block=b:=by unfold Addr.add; split<;>rfl
  have o0:((⟨b,off,none⟩:Addr).add k).off=off+k:=by unfold Addr.add; split<;>simp_all
  have s0:((⟨b,off,none⟩:Addr).add k).spot=none:=by unfold Addr.add; split<;>rfl
  unfold WrL
  rw [b0,o0,s0]
  have hcap:(sl c).n*szC c≤(sl c).c*szC c:=Nat.mul_le_mul_right _ ok.cap
  have hsz:off+k+vs.length≤cur.size:=by omega
  have hblk:(sl c).blk=some b:=by unfold SlH.blk; rw [a1]; rfl
  have fr:=h.free_own hc hblk
  refine ⟨cur,T,a2,rfl,hsz,fun H1 e=>q H1 ?_⟩
  subst e
  refine ⟨h.gf,⟨fun i o ho=>?_⟩,h.fm,by rw [Heap.upd_other (fun e=>fr.m e.symm),em]; exact h.hm,h.own,h.inj,fun c' hc'=>?_,e11,e12,e8,e9,e10,⟨fun q=>h.exp.none_ (by rw [←e7]; exact q),fun l hl=>?_⟩⟩
  ·rw [Heap.upd_other (fun e=>by subst e; rw [fr.f] at ho; cases ho)]; exact h.fh.sub _ _ ho
  ·by_cases hcc:c'=c
   ·subst hcc
    rw [e0]
    refine ⟨by simp only [List.length_append,List.length_take,List.length_drop]; omega,ok.cap,.inr ⟨b,off,_,T,a1,Heap.upd_same,by rw [splice_size hsz]; exact a3,fun j u hu=>?_⟩⟩
    rw [splice_get hsz]
    by_cases h1:j<k
    ·rw [if_pos (by omega)]
     rw [List.append_assoc,List.getElem?_append_left (by rw [List.length_take]; omega),List.getElem?_take,if_pos h1] at hu
     exact a4 j u hu
    ·rw [if_neg (by omega)]
     by_cases h2:j<k+vs.length
     ·rw [if_pos (by omega)]
      rw [List.append_assoc,List.getElem?_append_right (by rw [List.length_take]; omega),List.getElem?_append_left (by rw [List.length_take]; omega),List.length_take] at hu
      rw [←hu]; congr 1; omega
     ·rw [if_neg (by omega)]
      have hlt:=get_lt hu
      rw [List.getElem?_append_right (by simp only [List.length_append,List.length_take]; omega),List.getElem?_drop] at hu
      simp only [List.length_append,List.length_take] at hu
      have:=a4 j u (by rw [←hu]; congr 1; omega)
      exact this
   ·rw [ec c' hc' hcc]
    exact (h.ok c' hc').mono fun b' hb'=>Heap.upd_other fun e=>by subst e; exact hcc (fr.sl c' hc' hb')
  ·rw [e7] at hl
   obtain ⟨xb,A,n,c2,T2,q1,q2,q3,q4,q5,q6,q7⟩:=h.exp.some_ l hl
   exact ⟨xb,A,n,c2,T2,q1,by rw [Heap.upd_other (fr.x xb q1)]; exact q2,q3,q4,q5,q6,q7⟩
theorem VMX.wrThr (h : VMX G H m pf po sl F ex st s) {i : Nat} (hi : i<s.threads.length) {a : Addr} (ha : (sl 0).A=some a) (t : Thr) (q : SlH) (hq : HasL (dif F G) q t.stack)
  {Q:Heap→Prop} (k:∀H',VMX G H' m pf po sl F ex (st.set i q) { s with threads:=s.threads.set i t }→Q H'):WrL H (a.add (i*9)) (thrC (t,q)) Q:=by
 have hcl:(contC sl st s 0).length=s.threads.length*9:=by
  show ((s.threads.zip st).flatMap thrC).length=_
  rw [flat_size (cells:=thrC) (sz:=9) (fun _=>rfl),List.length_zip,h.stl,Nat.min_self]
 refine h.putL (c:=0) (by decide) ha (k:=i*9) (vs:=thrC (t,q)) (by rw [hcl]; show i*9+9≤_; omega) { s with threads:=s.threads.set i t } (st.set i q) ?_ (fun c' _ hne=>?_) rfl rfl h.vars h.attrs h.sigs ?_ (fun j u z hu hz=>?_) k
 ·show ((s.threads.set i t).zip (st.set i q)).flatMap thrC=_
  rw [zip_set,flat_setL (cells:=thrC) (sz:=9) (fun _=>rfl) _ i (t,q) (by rw [List.length_zip,h.stl,Nat.min_self]; exact hi)]
  rfl
 ·unfold contC; rw [if_neg hne,if_neg hne]
 ·show (st.set i q).length=(s.threads.set i t).length
  rw [List.length_set,List.length_set]; exact h.stl
 ·have hu:(s.threads.set i t)[j]?=some u:=hu
  rw [List.getElem?_set] at hu hz
  by_cases hj:i=j
  ·subst hj
   rw [if_pos rfl,if_pos hi] at hu
   rw [if_pos rfl,if_pos (by rw [h.stl]; exact hi)] at hz
   cases hu; cases hz; exact hq
  ·rw [if_neg hj] at hu hz
   exact h.stk j u z hu hz
end
theorem dif_low {F G G':Heap} (h:Sub G' G):Sub (dif F G) (dif F G'):=⟨fun i o k=>by
 unfold dif at k ⊢
 split at k
 ·cases k
 ·rename_i e
  have:G' i=none:=by
   cases h2:G' i with
   | none=>rfl
   | some x=>rw [h.sub _ _ h2] at e; exact absurd rfl e
  rw [this]; simpa using k⟩
theorem dif_at {F G:Heap} {b:Nat} {o:Obj} (h1:F b=some o) (h2:G b=none):dif F G b=some o:=by
 unfold dif; rw [h2]; simpa using h1
structure VMP (p:Prg) (G H:Heap) (m:Nat) (pf po:SlH) (ex:Value) (s:VS):Prop where
 out:∃sl F st,VMX G H m pf po sl F ex st s∧HasP (dif F G) pf.A pf.n po.A po.n p
section
variable {p:Prg} {G0 G H:Heap} {m rb tb:Nat} {q:SlH} {pf po:SlH} {sl:Nat→SlH} {F:Heap} {ex:Value} {st:List SlH} {r:Rn} {s:VS}
theorem _root_.Go.Ax.SlOk.has {H:Heap} {q:SlH} {l:List Int} (k:SlOk H q 1 (intsC l)):HasL H q l:=⟨by have:=k.len; unfold intsC at this; rw [List.length_map] at this; omega,k.src⟩
theorem RX.low_stack (h:RX p G0 G0 G H m rb tb q pf po sl F ex st r):HasL (dif F G0) q r.t.stack:=by
 refine (h.sq.mono (H':=dif F G0) fun b hb=>?_).has
 have hb0:=(h.oq b hb).1
 rcases h.sq.at_ with ⟨a1,_⟩|⟨b',off,cur,T,a1,a2,_⟩
 ·unfold SlH.blk at hb; rw [a1] at hb; cases hb
 ·unfold SlH.blk at hb; rw [a1] at hb; cases hb
  rw [a2]; exact dif_at (h.vm.gf.sub _ _ a2) hb0
theorem RZ.fin (z : RZ p G0 m rb tb pf po ex r H) {i : Nat} (hi : i<r.s.threads.length) (hc : 0≤r.s.count) (hc2 : r.s.count≤100000) (hm : r.s.made.length≤100000) {K : Int→Heap→Prop} {x : Int}
  (kf:r.fault=true→∀H',VMP p G0 H' m pf po ex (r.s.fails (-2))→K 1 H') (kn:r.fault=false→∀H',VMP p G0 H' m pf po ex { r.s with threads:=r.s.threads.set i r.t }→K x H') :
  ∃a9:Addr,some (⟨rb,0,none⟩:Addr)=some a9∧∃b4:Bool,At H (a9.add 2) [.bool b4] ∧
   (b4=true→Tr Tryz.prog 142 #[.pointer (some ⟨m,0,none⟩),.int .i64 (-2)] H fun v4 H'5=>v4=.tuple #[]∧K 1 H'5) ∧
   (b4=false→∃a10:Addr,some (⟨m,0,none⟩:Addr)=some a10 ∧
    (∃(A9:Option Addr) (n9 c15:Nat),At H ((a10.add 2).add 21) [.slice A9 n9 c15]∧∃(x29 x30 x31:Int) (A10:Option Addr) (n10 c16:Nat) (x32 x33 x34 x35 x36:Int),At H (⟨tb,0,none⟩:Addr) [.int .i64 x29,.int .i64 x30,.int .i64 x31,.slice A10 n10 c16,.int .i64 x32,.int .i64 x33,.int .i64 x34,.int .i64 x35,.int .i64 x36] ∧
     ∃a11:Addr,(A9=some a11∧0≤(i:Int)∧(i:Int)<(n9:Int))∧WrL H (a11.add ((i:Int).toNat*9)) [.int .i64 x29,.int .i64 x30,.int .i64 x31,.slice A10 n10 c16,.int .i64 x32,.int .i64 x33,.int .i64 x34,.int .i64 x35,.int .i64 x36] fun H18=>K x H18) ∧
    ∃(x37 x38 x39:Int) (A11:Option Addr) (n11 c18:Nat) (x40 x41 x42 x43 x44:Int),At H (⟨tb,0,none⟩:Addr) [.int .i64 x37,.int .i64 x38,.int .i64 x39,.slice A11 n11 c18,.int .i64 x40,.int .i64 x41,.int .i64 x42,.int .i64 x43,.int .i64 x44] ∧
     ∃(A12:Option Addr) (n12 c19:Nat),At H ((a10.add 2).add 21) [.slice A12 n12 c19]∧∃a12:Addr,(A12=some a12∧0≤(i:Int)∧(i:Int)<(n12:Int))∧WrL H (a12.add ((i:Int).toNat*9)) [.int .i64 x37,.int .i64 x38,.int .i64 x39,.slice A11 n11 c18,.int .i64 x40,.int .i64 x41,.int .i64 x42,.int .i64 x43,.int .i64 x44] fun H19=>K x H19):=by
 obtain ⟨G,F,q,sl,st,h⟩:=z.out
 refine ⟨_,rfl,_,h.r2,fun e=>?_,fun e=>?_⟩
 ·refine (t142 h.vm (-2) hc hc2 hm).mono fun v H1 ⟨hv,sl1,v1⟩=>⟨hv,kf e H1 ⟨sl1,F,st,v1.weaken h.base,h.pr.sub (dif_low h.base)⟩⟩
 ·have w:=h.vm.weaken h.base
  obtain ⟨t,ht⟩:=get_some hi
  obtain ⟨a,_,ha,-⟩:=w.thr ht
  have tc:At H (⟨tb,0,none⟩:Addr) (thrC (r.t,q)):=⟨⟨_,_,_,h.ht,rfl,fun j v hv=>by simpa using hv⟩⟩
  have key:WrL H (a.add (i*9)) (thrC (r.t,q)) fun H'=>K x H':=w.wrThr hi ha r.t q h.low_stack fun H' v'=>kn e H' ⟨sl,F,_,v',h.pr.sub (dif_low h.base)⟩
  have hn:=w.thrLen
  exact ⟨_,rfl,⟨_,_,_,w.c23,_,_,_,_,_,_,_,_,_,_,_,tc,a,⟨ha,by omega,by omega⟩,key⟩,_,_,_,_,_,_,_,_,_,_,_,tc,_,_,_,w.c23,a,⟨ha,by omega,by omega⟩,key⟩
structure Pre (p:Prg) (G G' H':Heap) (m:Nat) (pf po:SlH) (sl:Nat→SlH) (F':Heap) (ex:Value) (st:List SlH) (s:VS) (b:Nat) (cs:List Value) (q:SlH) (l:List Int):Prop where
 v:VMX G' H' m pf po sl F' ex st s
 gb:G' b=some (.cells ⟨cs⟩ 153 (0,0))
 gn:G b=none
 sub:Sub G G'
 pr:HasP (dif F' G') pf.A pf.n po.A po.n p
 sq:SlOk G' q 1 (intsC l)
 nb:∀b',q.blk=some b'→G b'=none∧b'≠b
theorem Pre.wr {G' H' F':Heap} {b:Nat} {cs:List Value} {l:List Int} (h:Pre p G G' H' m pf po sl F' ex st s b cs q l) {k:Nat} (hk:k<cs.length) {v:Value} {Q:Heap→Prop} (r:∀G'' F'' H'',Pre p G G'' H'' m pf po sl F'' ex st s b (cs.set k v) q l→Q H''):Wr H' ((⟨b,0,none⟩:Addr).add k) v Q :=
 wr_cells ((h.v.gf.trans h.v.fh).sub _ _ h.gb) hk (r _ _ _ ⟨h.v.turn h.gb _,Heap.upd_same,h.gn,base_upd h.sub h.gn _,h.pr.sub (dif_turn h.gb _),h.sq.mono fun b' hb'=>Heap.upd_other (h.nb b' hb').2,h.nb⟩)
theorem Pre.run {G' H' F':Heap} {b:Nat} {t:Thr} (h:Pre p G G' H' m pf po sl F' ex st s b (thrC (t,q)) q t.stack) {b1:Nat} (hb1:H' b1=none):∃G'' F'',RX p G G G'' (H'.upd b1 (.cells ⟨runC m b false⟩ 230 (0,0))) m b1 b q pf po sl F'' ex st ⟨s,t,false⟩:=by
 have v7:=h.v.ext hb1 (.cells ⟨runC m b false⟩ 230 (0,0))
 have hF6:=none_below h.v.fh hb1
 have hG6:=none_below h.v.gf hF6
 have hne:b1≠b:=fun e=>by rw [e,h.gb] at hG6; cases hG6
 have s7:=base_upd h.sub (none_below h.sub hG6) (.cells ⟨runC m b false⟩ 230 (0,0))
 refine ⟨_,_,⟨v7,h.pr.sub (dif_ext hF6 _),s7,s7.trans (v7.gf.trans v7.fh),Sub.refl _,Heap.upd_same,by rw [Heap.upd_other hne.symm]; exact h.gb,none_below h.sub hG6,h.gn,hne,h.sq.sub (Sub.upd_new hG6),fun b' hb'=>⟨(h.nb b' hb').1,fun e=>?_,(h.nb b' hb').2⟩⟩⟩
 rcases h.sq.at_ with ⟨a1,_⟩|⟨b2',off,cur,T,a1,a2,_⟩
 ·unfold SlH.blk at hb'; rw [a1] at hb'; cases hb'
 ·unfold SlH.blk at hb'; rw [a1] at hb'; cases hb'
  have e:b2'=b1:=e
  rw [←e] at hG6
  rw [hG6] at a2; cases a2
theorem t143 (okp : Okp p) (h : VMX G H m pf po sl F ex st s) (pr : HasP (dif F G) pf.A pf.n po.A po.n p) (iv : Inv p s) (rm : Room s) (ho : s.over=false) (sk : (s.futures.length : Int)+s.fuel+1≤1000*s.count) {i : Nat} {t : Thr} (ht : s.threads[i]?=some t) :
  Tr Tryz.prog 143 #[.pointer (some ⟨m,0,none⟩),.int .i64 i] H fun v H'=>v=.int .i64 (s.instruction p i).1∧VMP p G H' m pf po ex (s.instruction p i).2:=by
 obtain ⟨a,q,ha,hst,hq,hat⟩:=h.thr ht
 have hil:=get_lt ht
 have hT:=iv.thr t (List.mem_of_getElem? ht)
 have haf:=run_after okp ht iv rm ho sk
 have hiv:=haf.steps.inv iv rm
 obtain ⟨j,k,f,c,op,S⟩:=stands hT
 have hpk:=okp.len S.fn
 have hkl:=get_lt S.o
 have hn:=h.thrLen
 have hlen:=hq.len
 have hstk:=hT.stack
 have hrun:=run_eq_ (p:=p) ht
 rw [S.op] at hrun
 simp only at hrun
 have hins:s.instruction p i=if (s.run p i).2.fault=true then (1,(s.run p i).2.s.fails (-2)) else ((s.run p i).1,{ (s.run p i).2.s with threads:=(s.run p i).2.s.threads.set i (s.run p i).2.t }):=rfl
 have hi2:i<(s.run p i).2.s.threads.length:=by
  obtain ⟨l,hl⟩:=haf.steps.threads
  rw [hl,List.length_append]
  show i<s.threads.length+_
  omega
 apply v143; unfold F143
 refine ⟨_,rfl,_,_,_,h.c23,a,⟨ha,by omega,by omega⟩,_,_,_,_,_,_,_,_,_,_,_,hat,fun b hb H1 e1=>?_⟩
 subst e1
 have hF:=none_below h.fh hb
 have hG:=none_below h.gf hF
 refine ⟨_,_,Heap.upd_same,rfl,Nat.le_refl _,fun H2 e2=>?_⟩
 have e2':H2=H.upd b (.cells ⟨thrC (t,q)⟩ 153 (0,0)):=by
  rw [e2]
  funext i
  by_cases hi:i=b
  ·rw [hi,Heap.upd_same,Heap.upd_same]; rfl
  ·rw [Heap.upd_other hi,Heap.upd_other hi,Heap.upd_other hi]
 have v2:=h.ext hb (.cells ⟨thrC (t,q)⟩ 153 (0,0))
 rw [←e2'] at v2
 have b2:H2 b=some (.cells ⟨thrC (t,q)⟩ 153 (0,0)):=by rw [e2']; exact Heap.upd_same
 have d2:=dif_ext (G:=G) hF (.cells ⟨thrC (t,q)⟩ 153 (0,0))
 have hq2:=hq.sub d2
 refine ⟨q.A,q.n,q.c,at_cells b2 rfl,⟨⟨intsC t.stack,src_sub hq2.src (dif_sub.trans v2.fh),by unfold intsC; rw [List.length_map,hlen,Nat.mul_one],?_⟩⟩⟩
 refine v2.side (q:=⟨none,0,0⟩) (Side.nil v2.gf 1) (new:=intsC t.stack) (k:=q.n) (by unfold intsC; rw [List.length_map,hlen,Nat.mul_one]) (intsC_one _) (by show (0+q.n)*8≤_; omega) (by show 0+q.n≤_; omega) fun A' c' G3 F3 H3 v3 sd=>?_
 have g2:(G.upd b (.cells ⟨thrC (t,q)⟩ 153 (0,0))) b=some (.cells ⟨thrC (t,q)⟩ 153 (0,0)):=Heap.upd_same
 have p3:Pre p G G3 H3 m pf po sl F3 ex st s b (thrC (t,q)) ⟨A',0+q.n,c'⟩ t.stack :=
  ⟨v3,sd.g.sub _ _ g2,hG,(Sub.upd_new hG).trans sd.g,(pr.sub d2).sub sd.d,sd.sl,fun b' hb'=>⟨none_below (Sub.upd_new hG) (none_below v2.gf (sd.free b' hb')),fun e=>by have:=sd.free b' hb'; rw [e,v2.gf.sub _ _ g2] at this; cases this⟩⟩
 -- the copy's header,and that it waits for nothing
 refine p3.wr (k:=3) (by decide:3<9) fun G4 F4 H4 p4=>?_
 refine p4.wr (k:=7) (by show 7<9; decide) fun G5 F5 H5 p5=>?_
 refine p5.wr (k:=8) (by show 8<9; decide) fun G6 F6 H6 p6=>?_
 have p6:Pre p G G6 H6 m pf po sl F6 ex st s b (thrC (t.wake,⟨A',0+q.n,c'⟩)) ⟨A',0+q.n,c'⟩ t.wake.stack:=p6
 intro b1 hb1 H7 e7
 obtain ⟨G7,F7,rx⟩:=p6.run hb1
 rw [show H6.upd b1 (.cells ⟨runC m b false⟩ 230 (0,0))=H7 from e7.symm] at rx
 have rin:RnOk p ⟨s,t.wake,false⟩:=⟨iv,rm,ho,wake_thr hT⟩
 have hc0:=hiv.1.c0
 have hmd:=hiv.1.made
 have hpc:=S.pc
 have hfun:=S.func
 have pH:=(rx.pr.sub dif_sub).sub rx.vm.fh
 obtain ⟨a1,B,mm,d,ha1,hat1,hops⟩:=pH.fns.at_ j f S.fn
 obtain ⟨a2,ha2,hat2⟩:=hops.at_ k c op S.o
 have hfn:=pH.fns.len
 have hol:=hops.len
 have hjl:=get_lt S.fn
 have t0:At H7 ((⟨b,0,none⟩:Addr).add 0) [.int .i64 (j:Int)]:=by rw [←hfun]; exact at_cells rx.ht rfl
 have t1:At H7 ((⟨b,0,none⟩:Addr).add 1) [.int .i64 (k:Int)]:=by rw [←hpc]; exact at_cells rx.ht rfl
 refine ⟨H7,Sub.refl _,_,rfl,_,_,_,rx.vm.c0,(j:Int),t0,a1,⟨ha1,by omega,by omega⟩,B,mm,d,at_one 2 hat1 rfl,(k:Int),t1,a2,⟨ha2,by omega,by omega⟩,c,op,hat2,Sub.refl _,Sub.refl _,pureB c,t164 _ _,fun e=>?_,fun e=>?_⟩
 ·rw [if_pos e] at hrun
  rw [hrun] at hins haf hi2 hiv hc0 hmd
  simp only at hc0 hmd
  refine (t151 rx (by show t.stack.length≤1000; omega) ⟨hT.pc0,by show t.pc≤1000; omega⟩ c op (opOk okp S.fn S.o).o15 (opOk okp S.fn S.o).o26).mono fun v H8 ⟨hv,G8,F8,q8,h8⟩=>⟨hv,?_⟩
  refine h8.z.fin (i:=i) (x:=0) hi2 hc0.1 (by omega) (by omega) (K:=fun y H'=>Value.int .i64 y=.int .i64 (s.instruction p i).1∧VMP p G H' m pf po ex (s.instruction p i).2) (fun ef H' w=>?_) (fun ef H' w=>?_)
  ·rw [hins,if_pos ef]; exact ⟨rfl,w⟩
  ·rw [hins,if_neg (by rw [ef]; simp)]; exact ⟨rfl,w⟩
 ·rw [if_neg (by rw [e]; simp)] at hrun
  rw [hrun] at hins haf hi2 hiv hc0 hmd
  refine (t168 rx rin (by show t.pc≤1000; omega) c op (opOk okp S.fn S.o)).mono fun v H8 ⟨hv,z⟩=>⟨_,hv,?_⟩
  refine z.fin (i:=i) (x:=((⟨s,t.wake,false⟩:Rn).does c op).1) hi2 hc0.1 (by omega) (by omega) (K:=fun y H'=>Value.int .i64 y=.int .i64 (s.instruction p i).1∧VMP p G H' m pf po ex (s.instruction p i).2) (fun ef H' w=>?_) (fun ef H' w=>?_)
  ·rw [hins,if_pos ef]; exact ⟨rfl,w⟩
  ·rw [hins,if_neg (by rw [ef]; simp)]; exact ⟨rfl,w⟩
end
theorem instr_threads {p:Prg} (ok:Okp p) {s:VS} {i:Nat} {t:Thr} (ht:s.threads[i]?=some t) (iv:Inv p s) (rm:Room s) (ho:s.over=false) (sk:(s.futures.length:Int)+s.fuel+1≤1000*s.count):s.threads.length≤(s.instruction p i).2.threads.length:=by
 obtain ⟨l,hl⟩:=(run_after ok ht iv rm ho sk).steps.threads
 have hl:(s.run p i).2.s.threads=s.threads++l:=hl
 unfold VS.instruction
 split
 ·rw [(keepF _ _).threads,hl]; simp
 ·show s.threads.length≤((s.run p i).2.s.threads.set i (s.run p i).2.t).length
  rw [List.length_set,hl]; simp
def VS.fuelAt (s:VS) (n:Int):VS:={ s with fuel:=n }
theorem fuel_step {p:Prg} {s:VS} {n:Nat} (iv:Inv p s) (rm:Room s) (hn:s.fuel=((n+1:Nat):Int)):FStep p true s (s.fuelAt n)∧Inv p (s.fuelAt n)∧Room (s.fuelAt n)∧((s.fuelAt n).futures.length:Int)+(s.fuelAt n).fuel+1≤1000*(s.fuelAt n).count:=by
 have st:FStep p true s (s.fuelAt n):=.fuel s n rfl ⟨by omega,by omega⟩
 have h:=st.inv iv rm
 have:=iv.many
 exact ⟨st,h.1,h.2,by show (s.futures.length:Int)+(n:Int)+1≤1000*s.count; omega⟩
theorem stepsG_eq (p : Prg) (i n : Nat) (s : VS) : VS.stepsG p i n s=if s.over=true then (1, s) else match n with
  | 0=>(1,s.fails (-1))
  | n+1=>if (((s.fuelAt n).instruction p i).1 != 0)=true then (s.fuelAt n).instruction p i else VS.stepsG p i n ((s.fuelAt n).instruction p i).2:=by
 cases n<;>rfl
theorem instr_fuel {p:Prg} {s:VS} {i:Nat} {t:Thr} (ok:Okp p) (ht:s.threads[i]?=some t) (iv:Inv p s) (rm:Room s) (ho:s.over=false) (sk:(s.futures.length:Int)+s.fuel+1≤1000*s.count):(s.instruction p i).2.fuel=s.fuel:=by
 have h:(s.run p i).2.s.fuel=s.fuel:=(run_after ok ht iv rm ho sk).steps.fuel_eq
 unfold VS.instruction
 split
 ·rw [(keepF _ _).fuel,h]
 ·exact h
theorem stepsG_steps {p:Prg} (ok:Okp p) (i:Nat):∀(n:Nat) (s:VS),s.fuel=n→Inv p s→Room s→i<s.threads.length→FSteps p true s (VS.stepsG p i n s).2∧i<(VS.stepsG p i n s).2.threads.length∧((VS.stepsG p i n s).1≠1→(VS.stepsG p i n s).2.fuel<s.fuel)
 | 0,s,hf,iv,rm,hi=>by
  rw [stepsG_eq]
  split
  ·exact ⟨.refl s,hi,fun h=>absurd rfl h⟩
  ·rename_i ho
   exact ⟨(FStep.fails s (-1) (by simpa using ho)).one (Cv.fails _ _),by rw [show ((1,s.fails (-1)):Int×VS).2=s.fails (-1) from rfl,(keepF _ _).threads]; exact hi,fun h=>absurd rfl h⟩
 | n+1,s,hf,iv,rm,hi=>by
  rw [stepsG_eq]
  split
  ·exact ⟨.refl s,hi,fun h=>absurd rfl h⟩
  ·rename_i ho
   have ho:s.over=false:=by simpa using ho
   obtain ⟨st,iv1,rm1,sk⟩:=fuel_step iv rm hf
   obtain ⟨t,ht⟩:=get_some hi
   have ht1:(s.fuelAt n).threads[i]?=some t:=ht
   have st2:=(st.one (Cv.nice rfl rfl rfl rfl rfl)).trans (instr_steps ok ht1 iv1 rm1 ho sk)
   have tl:=instr_threads ok ht1 iv1 rm1 ho sk
   have tl:s.threads.length≤((s.fuelAt n).instruction p i).2.threads.length:=tl
   have fl:=instr_fuel ok ht1 iv1 rm1 ho sk
   have fl:((s.fuelAt n).instruction p i).2.fuel=n:=fl
   simp only
   split
   ·exact ⟨st2,by omega,fun _=>by omega⟩
   ·have iv2:=st2.inv iv rm
    obtain ⟨h1,h2,h3⟩:=stepsG_steps ok i n _ fl iv2.1 iv2.2 (by omega)
    exact ⟨st2.trans h1,h2,fun h=>by have:=h3 h; omega⟩
theorem steps_steps {p:Prg} (ok:Okp p) {i:Nat} {s:VS} (iv:Inv p s) (rm:Room s) (hi:i<s.threads.length):FSteps p true s (s.steps p i).2∧i<(s.steps p i).2.threads.length∧((s.steps p i).1≠1→(s.steps p i).2.fuel<s.fuel) :=
 stepsG_steps ok i _ s (by have:=iv.fuel; omega) iv rm hi
def fuelIn (m:Nat) (H:Heap):Nat:=match H m with
 | some (.cells c _ _)=>(match c[31]? with|some (Value.int _ v)=>v.toNat|_=>0)
 | _=>0
section
variable {p:Prg} {G H:Heap} {m:Nat} {pf po:SlH} {sl:Nat→SlH} {F:Heap} {ex:Value} {st:List SlH} {s:VS}
theorem VMX.fuelIn (h:VMX G H m pf po sl F ex st s):fuelIn m H=s.fuel.toNat:=by
 unfold Go.Proofs.YtkofafcgcnciaaaGreatDoor.fuelIn; rw [h.hm]; rfl
theorem VMX.c31 (h:VMX G H m pf po sl F ex st s):At H ((⟨m,0,none⟩:Addr).add 31) [.int .i64 s.fuel]:=h.cell rfl
structure RStp (p:Prg) (G:Heap) (m:Nat) (pf po:SlH) (ex:Value) (i:Nat) (s0:VS) (H1:Heap):Prop where
 out:∃s n,VMP p G H1 m pf po ex s∧Inv p s∧Room s∧s.fuel=(n:Nat)∧i<s.threads.length∧VS.stepsG p i n s=s0.steps p i
theorem t118 (okp : Okp p) (h : VMP p G H m pf po ex s) (iv : Inv p s) (rm : Room s) {i : Nat} (hi : i<s.threads.length) :
  Tr Tryz.prog 118 #[.pointer (some ⟨m,0,none⟩),.int .i64 i] H fun v H'=>v=.int .i64 (s.steps p i).1∧VMP p G H' m pf po ex (s.steps p i).2:=by
 apply v118; unfold F118
 refine ⟨RStp p G m pf po ex i s,fun H1=>fuelIn m H1,⟨s,s.fuel.toNat,h,iv,rm,by have:=iv.fuel; omega,hi,rfl⟩,fun H1 r=>?_⟩
 obtain ⟨s1,n,h1,iv1,rm1,hn,hi1,he⟩:=r.out
 obtain ⟨sl1,F1,st1,v1,pr1⟩:=h1.out
 have hc:=iv1.c0
 have hmd:=iv1.made
 have hfu:=iv1.fuel
 rw [←he,stepsG_eq]
 refine ⟨_,rfl,_,v1.c27,fun ho=>⟨_,rfl,_,v1.c31,fun e=>?_,fun e=>⟨_,rfl,_,v1.c31,_,rfl,?_⟩⟩,fun ho=>?_⟩
 ·have ho:s1.over=false:=by simpa using ho
  have e:s1.fuel=0:=by simpa using e
  have hn0:n=0:=by omega
  subst hn0
  rw [if_neg (by rw [ho]; simp)]
  exact (t142 v1 (-1) hc.1 (by omega) (by omega)).mono fun v H2 ⟨hv,sl2,v2⟩=>⟨hv,rfl,sl2,F1,st1,v2,pr1⟩
 ·have ho:s1.over=false:=by simpa using ho
  have e:s1.fuel≠0:=by simpa using e
  obtain ⟨k,rfl⟩:∃k,n=k+1:=⟨n-1,by omega⟩
  rw [if_neg (by rw [ho]; simp)]
  have hw:IntKind.i64.wrap (s1.fuel-1)=(k:Int):=by rw [wrapi (by omega) (by omega)]; omega
  rw [hw]
  obtain ⟨fs,iv2,rm2,sk⟩:=fuel_step iv1 rm1 hn
  obtain ⟨t,ht⟩:=get_some hi1
  refine v1.wr (k:=31) (by decide) (s1.fuelAt k) rfl rfl rfl rfl rfl rfl rfl rfl v1.vars v1.attrs fun H2 v2=>?_
  have ht2:(s1.fuelAt k).threads[i]?=some t:=ht
  have is:=instr_steps okp ht2 iv2 rm2 ho sk
  have iv3:=is.inv iv2 rm2
  have tl:=instr_threads okp ht2 iv2 rm2 ho sk
  have tl:s1.threads.length≤((s1.fuelAt k).instruction p i).2.threads.length:=tl
  have fl:=instr_fuel okp ht2 iv2 rm2 ho sk
  have fl:((s1.fuelAt k).instruction p i).2.fuel=k:=fl
  refine (t143 okp v2 pr1 iv2 rm2 ho sk ht2).mono fun v H3 ⟨hv,h3⟩=>⟨_,hv,fun e2=>?_,fun e2=>⟨⟨_,k,h3,iv3.1,iv3.2,fl,by omega,?_⟩,?_⟩⟩
  ·simp only; rw [if_pos e2]; exact ⟨rfl,h3⟩
  ·rw [←he,stepsG_eq p i (k+1) s1,if_neg (by rw [ho]; simp)]
   simp only
   rw [if_neg (by rw [e2]; simp)]
  ·obtain ⟨sl3,F3,st3,v3,-⟩:=h3.out
   show Go.Proofs.YtkofafcgcnciaaaGreatDoor.fuelIn m H3<Go.Proofs.YtkofafcgcnciaaaGreatDoor.fuelIn m H1
   rw [v3.fuelIn,v1.fuelIn,fl]; omega
 ·have ho:s1.over=true:=by simpa using ho
  rw [if_pos ho]
  exact ⟨rfl,h1⟩
end
theorem purelyG_left (p:Prg) (fn:Int):∀(n:Nat) (r:Rn),(purelyG p fn n r).2.2≤n
 | 0,_=>Nat.le_refl _
 | n+1,r=>by
  rw [purelyG]
  split
  ·split
   ·exact Nat.le_succ _
   ·split<;>exact Nat.le_succ _
  ·split
   ·exact Nat.le_succ _
   ·exact Nat.le_trans (purelyG_left p fn n _) (Nat.le_succ _)
theorem find_at {p:Prg} (ok:Okp p) {kind name:Int} (h:¬p.find kind name<0):(∃f,p.funcs[(p.find kind name).toNat]?=some f∧(0:Int)<f.ops.length)∧0≤p.find kind name:=by
 obtain ⟨i,f,hi,hf,-,-⟩:=find_found h
 rw [hi]
 exact ⟨⟨f,hf,by have:=(ok.len hf).1; omega⟩,by omega⟩
theorem admit2_steps {p:Prg} (ok:Okp p) {s:VS} (iv:Inv p s) (ho:s.over=false) {e:Ev} (he:0≤e.id) (hf:¬p.find 3 e.a<0):FSteps p true s (s.admit2 (p.find 3 e.a) e):=by
 obtain ⟨f1,f2⟩:=find_at ok hf
 have st:=(FStep.emit (p:=p) (b:=true) s (evM 12 e.id 0 0) ho rfl).one (Cv.emit ho (by show (12:Int)≠3; decide) (by show (12:Int)≠4; decide) (by show (12:Int)≠10; decide))
 unfold VS.admit2
 split
 ·exact (FStep.fails s _ ho).one (Cv.fails _ _)
 ·rename_i h16
  simp at h16
  split
  ·have k:=keepE s (evM 12 e.id 0 0)
   have hn:=iv.scn
   refine st.tail (.thr _ _ ⟨f1,f2,Int.le_refl _,Nat.zero_le _,⟨Int.le_refl _,by rw [k.scopes]; show (0:Int)<_; omega⟩,⟨Int.le_refl _,by show (-1:Int)<_; omega⟩,he,by show (-1:Int)<_; omega,by show (-1:Int)<8; decide⟩ (by rw [k.threads]; omega)) (Cv.thr fun z=>absurd z (by show ¬(0:Int)≤-1; decide))
  ·exact st
theorem ite_V {P:VS→Prop} {c:Prop} [Decidable c] {x y:VS} (h1:P x) (h2:P y):P (if c then x else y):=by split; exact h1; exact h2
theorem admits_steps {p:Prg} (ok:Okp p) {s:VS} (iv:Inv p s) (rm:Room s) (ho:s.over=false) {e:Ev} (he:0≤e.id):FSteps p true s (s.admits p e):=by
 unfold VS.admits
 split
 ·exact (FStep.emit s _ ho rfl).one (Cv.emit ho (by show (13:Int)≠3; decide) (by show (13:Int)≠4; decide) (by show (13:Int)≠10; decide))
 ·rename_i hf
  have hf:¬p.find 3 e.a<0:=by simpa using hf
  split
  ·have hfu:=iv.fuel
   have hl:=purelyG_left p (p.find 4 e.a) s.fuel.toNat ⟨s,⟨p.find 4 e.a,0,0,[],e.b,0,0,0,0⟩,false⟩
   have hl:(s.purely p (p.find 4 e.a) e.b s.fuel.toNat).2.2≤s.fuel.toNat:=hl
   have st:FStep p true s { s with fuel:=((s.purely p (p.find 4 e.a) e.b s.fuel.toNat).2.2:Int) }:=.fuel s _ rfl ⟨by omega,by omega⟩
   have iv1:=st.inv iv rm
   have st1:=st.one (Cv.nice rfl rfl rfl rfl rfl)
   exact ite_V (P:=FSteps p true s) (st1.tail (.fails _ _ ho) (Cv.fails _ _)) (ite_V (P:=FSteps p true s) (st1.tail (.emit _ _ ho rfl) (Cv.emit ho (by show (13:Int)≠3; decide) (by show (13:Int)≠4; decide) (by show (13:Int)≠10; decide))) (st1.trans (admit2_steps ok iv1.1 ho he hf)))
  ·exact admit2_steps ok iv ho he hf
section
variable {p:Prg} {G H:Heap} {m:Nat} {pf po:SlH} {sl:Nat→SlH} {F:Heap} {ex:Value} {st:List SlH} {s:VS}
def Admit2P (m:Nat) (fn id arg:Int) (H:Heap) (K:Heap→Prop):Prop :=
 ∃a4:Addr,some (⟨m,0,none⟩:Addr)=some a4∧∃(A:Option Addr) (n c:Nat),At H ((a4.add 2).add 21) [.slice A n c] ∧
  (decide ((n:Int)≥16)=true→Tr Tryz.prog 142 #[.pointer (some ⟨m,0,none⟩),.int .i64 (-3)] H fun v H'=>v=.tuple #[]∧K H') ∧
  (decide ((n:Int)≥16)=false→Tr Tryz.prog 141 #[.pointer (some ⟨m,0,none⟩),(evM 12 id 0 0).val] H fun v H'=>∃(x:Int) (b:Bool),v=.tuple #[.int .i64 x,.bool b] ∧
   (b=true→∃a5:Addr,some (⟨m,0,none⟩:Addr)=some a5 ∧
    (∃(A:Option Addr) (n c:Nat),At H' ((a5.add 2).add 21) [.slice A n c]∧appC 153 9 88 H' A n c (thrC (Thr.new fn 0 arg (-1) id,⟨none,0,0⟩)) 1 fun A' n' c' H4=>∃a9:Addr,some (⟨m,0,none⟩:Addr)=some a9∧Wr H4 ((a9.add 2).add 21) (.slice A' n' c') K) ∧
    (∃(A:Option Addr) (n c:Nat),At H' ((a5.add 2).add 21) [.slice A n c]∧appC 153 9 88 H' A n c (thrC (Thr.new fn 0 arg (-1) id,⟨none,0,0⟩)) 1 fun A' n' c' H4=>∃a9:Addr,some (⟨m,0,none⟩:Addr)=some a9∧Wr H4 ((a9.add 2).add 21) (.slice A' n' c') K)) ∧
   (b=false→K H'))
theorem VMX.admit2 (h:VMX G H m pf po sl F ex st s) (pr:HasP (dif F G) pf.A pf.n po.A po.n p) (iv:Inv p s) (fn:Int) (e:Ev) {K:Heap→Prop} (k:∀H',VMP p G H' m pf po ex (s.admit2 fn e)→K H'):Admit2P m fn e.id e.b H K:=by
 have hc:=iv.c0
 have hmd:=iv.made
 have ht:=iv.t16
 refine ⟨_,rfl,_,_,_,h.c23,fun e1=>?_,fun e1=>?_⟩
 ·rw [h.thrLen] at e1
  refine (t142 h (-3) hc.1 (by omega) (by omega)).mono fun v H2 ⟨hv,sl2,v2⟩=>⟨hv,k H2 ⟨sl2,F,st,?_,pr⟩⟩
  unfold VS.admit2; rw [if_pos e1]; exact v2
 ·rw [h.thrLen] at e1
  refine (t141 h (evM 12 e.id 0 0) hc.1 (by omega) (by omega)).mono fun v H2 ⟨hv,sl2,v2⟩=>⟨_,_,hv,fun eb=>?_,fun eb=>k H2 ⟨sl2,F,st,?_,pr⟩⟩
  ·have key : ThrP m 88 (Thr.new fn 0 e.b (-1) e.id) H2 K := v2.addThr (Thr.new fn 0 e.b (-1) e.id) rfl (by decide) (by rw [(keepE s _).threads]; omega) fun H3 sl3 v3 => k H3 ⟨sl3, F, _, (by
    unfold VS.admit2; rw [if_neg (by rw [e1]; simp),if_pos eb]; exact v3),pr⟩
   exact ⟨_,rfl,key,key⟩
  ·unfold VS.admit2; rw [if_neg (by rw [e1]; simp),if_neg (by rw [eb]; simp)]; exact v2
theorem t116 (okp : Okp p) (h : VMX G H m pf po sl F ex st s) (pr : HasP (dif F G) pf.A pf.n po.A po.n p) (iv : Inv p s) (rm : Room s) (e : Ev) :
    Tr Tryz.prog 116 #[.pointer (some ⟨m,0,none⟩),e.val] H fun v H'=>v=.tuple #[]∧VMP p G H' m pf po ex (s.admits p e):=by
  have hc:=iv.c0
  have hmd:=iv.made
  have hfu:=iv.fuel
  have pH:=(pr.sub dif_sub).sub h.fh
  have em : ∀ {s : VS} {H : Heap} {sl : Nat → SlH} (h : VMX G H m pf po sl F ex st s) (iv : Inv p s) (ev : Ev) {Q : Heap → Prop}, (∀ H', VMP p G H' m pf po ex (s.emit ev).2 → Q H') →
      Tr Tryz.prog 141 #[.pointer (some ⟨m,0,none⟩),ev.val] H fun v H'=>∃(x:Int) (b:Bool),v=.tuple #[.int .i64 x,.bool b]∧Q H':=fun h iv ev Q k=>by
    have hc:=iv.c0
    have hmd:=iv.made
    exact (t141 h ev hc.1 (by omega) (by omega)).mono fun v H2 ⟨hv,sl2,v2⟩=>⟨_,_,hv,k H2 ⟨sl2,F,st,v2,pr⟩⟩
  apply v116; unfold F116
  refine ⟨_,rfl,_,_,_,_,_,_,h.c01,_,t125 pH 3 e.a,fun e1=>?_,fun e1=>⟨_,rfl,_,_,_,_,_,_,h.c01,_,t125 pH 4 e.a,fun e2=>?_,fun e2=>?_⟩⟩
  · have hd:s.admits p e=(s.emit (evM 13 e.id 50 0)).2:=by unfold VS.admits; rw [if_pos e1]
    rw [hd]
    exact em h iv (evM 13 e.id 50 0) fun H' w=>⟨rfl,w⟩
  · obtain ⟨j,f,hj,hf,hk,-⟩:=find_found (p:=p) (kind:=4) (name:=e.a) (by have:=of_decide_eq_true e2; omega)
    have hfl:s.fuel=(s.fuel.toNat:Int):=by omega
    have hl:=purelyG_left p (p.find 4 e.a) s.fuel.toNat ⟨s,⟨p.find 4 e.a,0,0,[],e.b,0,0,0,0⟩,false⟩
    have hl:(s.purely p (p.find 4 e.a) e.b s.fuel.toNat).2.2≤s.fuel.toNat:=hl
    have hd : s.admits p e = (let q := s.purely p (p.find 4 e.a) e.b s.fuel.toNat
       let s1:VS:={ s with fuel:=(q.2.2:Int) }
       if (q.2.1==3)=true then s1.fails (-1) else
       if (q.2.1 != 0||(if (q.2.1==2)=true then (-2:Int) else q.1) != 0)=true then (s1.emit (evM 13 e.id (if (q.2.1==2)=true then (-2:Int) else q.1) 0)).2 else s1.admit2 (p.find 3 e.a) e):=by
      unfold VS.admits; rw [if_neg (by rw [e1]; simp),if_pos e2]
    simp only at hd
    have pu:=t126 h pr okp hf (.inr hk) e.b s.fuel.toNat (by omega)
    rw [hj] at hd hl ⊢
    rw [hfl.symm] at pu
    have st1:FStep p true s { s with fuel:=((s.purely p j e.b s.fuel.toNat).2.2:Int) }:=.fuel s _ rfl ⟨by omega,by omega⟩
    have iv1:=st1.inv iv rm
    have hc1:=iv1.1.c0
    have hmd1:=iv1.1.made
    refine ⟨_,rfl,_,h.c31,_,_,_,pu,_,rfl,?_⟩
    refine h.wr (k:=31) (by decide) { s with fuel:=((s.purely p j e.b s.fuel.toNat).2.2:Int) } rfl rfl rfl rfl rfl rfl rfl rfl h.vars h.attrs fun H2 v2=>?_
    refine ⟨fun e3=>?_,fun e3=>⟨fun e4=>⟨fun e5=>?_,fun e5=>?_⟩,fun e4=>⟨fun e5=>?_,fun e5=>?_⟩⟩⟩
    · rw [hd,if_pos e3]
      exact (t142 v2 (-1) hc1.1 (by omega) (by omega)).mono fun v H3 ⟨hv,sl3,v3⟩=>⟨hv,rfl,sl3,F,st,v3,pr⟩
    · have hd2 : s.admits p e = (({ s with fuel := ((s.purely p j e.b s.fuel.toNat).2.2 : Int) } : VS).emit (evM 13 e.id (-2) 0)).2 := by
        rw [hd]; simp only [e3,e4,if_true,if_false,Bool.false_eq_true]; rw [if_pos e5]
      rw [hd2]
      exact em v2 iv1.1 (evM 13 e.id (-2) 0) fun H' w=>⟨rfl,w⟩
    · exact absurd e5 (by simp)
    · have hd2 : s.admits p e = (({ s with fuel := ((s.purely p j e.b s.fuel.toNat).2.2 : Int) } : VS).emit (evM 13 e.id (s.purely p j e.b s.fuel.toNat).1 0)).2 := by
        rw [hd]; simp only [e3,e4,if_false,Bool.false_eq_true]; rw [if_pos e5]
      rw [hd2]
      exact em v2 iv1.1 (evM 13 e.id (s.purely p j e.b s.fuel.toNat).1 0) fun H' w=>⟨rfl,w⟩
    · have hd2 : s.admits p e = ({ s with fuel := ((s.purely p j e.b s.fuel.toNat).2.2 : Int) } : VS).admit2 (p.find 3 e.a) e := by
        rw [hd]; simp only [e3,e4,if_false,Bool.false_eq_true]; rw [if_neg (by rw [e5]; simp)]
      rw [hd2]
      exact v2.admit2 pr iv1.1 (p.find 3 e.a) e (K:=fun H'=>Value.tuple #[]=.tuple #[]∧VMP p G H' m pf po ex (({ s with fuel:=((s.purely p j e.b s.fuel.toNat).2.2:Int) }:VS).admit2 (p.find 3 e.a) e)) fun H' w=>⟨rfl,w⟩
  · have hd:s.admits p e=s.admit2 (p.find 3 e.a) e:=by unfold VS.admits; rw [if_neg (by rw [e1]; simp),if_neg (by rw [e2]; simp)]
    rw [hd]
    exact h.admit2 pr iv (p.find 3 e.a) e (K:=fun H'=>Value.tuple #[]=.tuple #[]∧VMP p G H' m pf po ex (s.admit2 (p.find 3 e.a) e)) fun H' w=>⟨rfl,w⟩
end
set_option linter.unusedVariables false
def LoopsP (m:Option Addr) (A:Option Addr) (n:Nat) (H:Heap) (K:Value→Heap→Prop):Prop :=
 ∃(Rel:Int→Heap→Prop),
 ∃(mu:Int→Heap→Nat),
 Rel (0:Int) H ∧
 ∀(x3:Int) (H1:Heap),
 Rel x3 H1 →
 (decide (x3<(↑n:Int))=true →
 ∃(a11:Addr),
 (A=some a11∧(0:Int)≤x3∧x3<(↑n:Int)) ∧
 ∃(x4:Int),
 ∃(x5:Int),
 ∃(x6:Int),
 ∃(x7:Int),
 ∃(x8:Int),
 ∃(x9:Int),
 ∃(x10:Int),
 ∃(x11:Int),
 ∃(x12:Int),
 At H1 (a11.add (x3.toNat*9)) [Value.int IntKind.i64 x4,Value.int IntKind.i64 x5,Value.int IntKind.i64 x6,Value.int IntKind.i64 x7,Value.int IntKind.i64 x8,Value.int IntKind.i64 x9,Value.int IntKind.i64 x10,Value.int IntKind.i64 x11,Value.int IntKind.i64 x12] ∧
 ∃(a12:Addr),
 m=some a12 ∧
 ∃(b2:Bool),
 At H1 ((a12.add 2).add 25) [Value.bool b2] ∧
 ((!b2)=true →
 Tr Tryz.prog 116 #[Value.pointer m,Value.agg #[Value.int IntKind.i64 x4,Value.int IntKind.i64 x5,Value.int IntKind.i64 x6,Value.int IntKind.i64 x7,Value.int IntKind.i64 x8,Value.int IntKind.i64 x9,Value.int IntKind.i64 x10,Value.int IntKind.i64 x11,Value.int IntKind.i64 x12]] H1 fun (v1:Value) (H_1:Heap) =>
 v1=Value.tuple #[]∧Rel (IntKind.i64.wrap (x3+(1:Int))) H_1∧mu (IntKind.i64.wrap (x3+(1:Int))) H_1<mu x3 H1) ∧
 ((!b2)=false→Rel (IntKind.i64.wrap (x3+(1:Int))) H1∧mu (IntKind.i64.wrap (x3+(1:Int))) H1<mu x3 H1)) ∧
 (decide (x3<(↑n:Int))=false →
 ∃(Rel1:Heap→Prop),
 ∃(mu1:Heap→Nat),
 Rel1 H1 ∧
 ∀(H2:Heap),
 Rel1 H2 →
 ∃(Rel2:Bool→Int→Heap→Prop),
 ∃(mu2:Bool→Int→Heap→Nat),
 Rel2 false (0:Int) H2 ∧
 ∀(b3:Bool) (x13:Int) (H3:Heap),
 Rel2 b3 x13 H3 →
 ∃(a13:Addr),
 m=some a13 ∧
 ∃(A1:Option Addr),
 ∃(n1:Nat),
 ∃(c7:Nat),
 At H3 ((a13.add 2).add 21) [Value.slice A1 n1 c7] ∧
 (decide (x13<(↑n1:Int))=true →
 ∃(a14:Addr),
 m=some a14 ∧
 ∃(b4:Bool),
 At H3 ((a14.add 2).add 25) [Value.bool b4] ∧
 (b4=true→K (Value.tuple #[]) H3) ∧
 (b4=false →
 ∃(a15:Addr),
 m=some a15 ∧
 ∃(A2:Option Addr),
 ∃(n2:Nat),
 ∃(c8:Nat),
 At H3 ((a15.add 2).add 21) [Value.slice A2 n2 c8] ∧
 ∃(a16:Addr),
 (A2=some a16∧(0:Int)≤x13∧x13<(↑n2:Int)) ∧
 ∃(x14:Int),
 ∃(x15:Int),
 ∃(x16:Int),
 ∃(A3:Option Addr),
 ∃(n3:Nat),
 ∃(c9:Nat),
 ∃(x17:Int),
 ∃(x18:Int),
 ∃(x19:Int),
 ∃(x20:Int),
 ∃(x21:Int),
 At H3 (a16.add (x13.toNat*9)) [Value.int IntKind.i64 x14,Value.int IntKind.i64 x15,Value.int IntKind.i64 x16,Value.slice A3 n3 c9,Value.int IntKind.i64 x17,Value.int IntKind.i64 x18,Value.int IntKind.i64 x19,Value.int IntKind.i64 x20,Value.int IntKind.i64 x21] ∧
 ∃(b5:Bool),
 (Tr Tryz.prog 117 #[Value.pointer m,Value.agg #[Value.int IntKind.i64 x14,Value.int IntKind.i64 x15,Value.int IntKind.i64 x16,Value.slice A3 n3 c9,Value.int IntKind.i64 x17,Value.int IntKind.i64 x18,Value.int IntKind.i64 x19,Value.int IntKind.i64 x20,Value.int IntKind.i64 x21]] H3
 fun (v2:Value) (H_2:Heap)=>v2=Value.bool b5∧Ax.Sub H3 H_2) ∧
 ((!b5)=true→Rel2 b3 (IntKind.i64.wrap (x13+(1:Int))) H3∧mu2 b3 (IntKind.i64.wrap (x13+(1:Int))) H3<mu2 b3 x13 H3) ∧
 ((!b5)=false →
 Tr Tryz.prog 118 #[Value.pointer m,Value.int IntKind.i64 x13] H3 fun (v3:Value) (H_3:Heap) =>
 ∃(x22:Int),
 v3=Value.int IntKind.i64 x22 ∧
 ∃(a17:Addr),
 ((x22==(2:Int))=true→m=some a17) ∧
 ∃(b6:Bool),
 ((x22==(2:Int))=true→At H_3 ((a17.add 2).add 25) [Value.bool b6]) ∧
 ((x22==(2:Int)&&!b6)=true →
 ∃(a18:Addr),
 m=some a18 ∧
 ∃(a19:Addr),
 m=some a19 ∧
 (∃(A4:Option Addr),
 ∃(n4:Nat),
 ∃(c10:Nat),
 At H_3 ((a18.add 2).add 21) [Value.slice A4 n4 c10] ∧
 ((0:Int)≤x13∧x13≤(↑c10:Int)∧(0:Int)≤x13∧x13≤x13) ∧
 ∃(A5:Option Addr),
 ∃(n5:Nat),
 ∃(c11:Nat),
 At H_3 ((a19.add 2).add 21) [Value.slice A5 n5 c11] ∧
 ((0:Int)≤IntKind.i64.wrap (x13+(1:Int))∧IntKind.i64.wrap (x13+(1:Int))≤(↑n5:Int)) ∧
 appS 153 9 88 H_3 (if x13.toNat=(0:Nat) then A4 else Option.map (fun (x:Addr)=>x.add ((0:Nat)*9)) A4) (x13.toNat-(0:Nat)) (x13.toNat-(0:Nat))
 (if c11=(IntKind.i64.wrap (x13+(1:Int))).toNat then A5 else Option.map (fun (x:Addr)=>x.add ((IntKind.i64.wrap (x13+(1:Int))).toNat*9)) A5) (n5-(IntKind.i64.wrap (x13+(1:Int))).toNat) fun (A':Option Addr) (n' c':Nat) (H_4:Heap) =>
 ∃(a20:Addr),
 m=some a20 ∧
 ∃(c12:Array Value),
 ∃(T6:TypeId),
 H_4 ((a20.add 2).add 21).block=some (Obj.cells c12 T6) ∧
 ((a20.add 2).add 21).spot=none ∧
 ((a20.add 2).add 21).off+[Value.slice A' n' c'].length≤c12.size ∧
 ∀(H17:Heap),
 H17=H_4.upd ((a20.add 2).add 21).block (Obj.cells (splice c12 ((a20.add 2).add 21).off [Value.slice A' n' c']) T6) →
 Rel2 true (IntKind.i64.wrap (IntKind.i64.wrap (x13-(1:Int))+(1:Int))) H17∧mu2 true (IntKind.i64.wrap (IntKind.i64.wrap (x13-(1:Int))+(1:Int))) H17<mu2 b3 x13 H3) ∧
 ∃(A6:Option Addr),
 ∃(n6:Nat),
 ∃(c13:Nat),
 At H_3 ((a19.add 2).add 21) [Value.slice A6 n6 c13] ∧
 ((0:Int)≤IntKind.i64.wrap (x13+(1:Int))∧IntKind.i64.wrap (x13+(1:Int))≤(↑n6:Int)) ∧
 ∃(A7:Option Addr),
 ∃(n7:Nat),
 ∃(c14:Nat),
 At H_3 ((a18.add 2).add 21) [Value.slice A7 n7 c14] ∧
 ((0:Int)≤x13∧x13≤(↑c14:Int)∧(0:Int)≤x13∧x13≤x13) ∧
 appS 153 9 88 H_3 (if x13.toNat=(0:Nat) then A7 else Option.map (fun (x:Addr)=>x.add ((0:Nat)*9)) A7) (x13.toNat-(0:Nat)) (x13.toNat-(0:Nat))
 (if c13=(IntKind.i64.wrap (x13+(1:Int))).toNat then A6 else Option.map (fun (x:Addr)=>x.add ((IntKind.i64.wrap (x13+(1:Int))).toNat*9)) A6) (n6-(IntKind.i64.wrap (x13+(1:Int))).toNat) fun (A'1:Option Addr) (n'1 c'1:Nat) (H_5:Heap) =>
 ∃(a21:Addr),
 m=some a21 ∧
 ∃(c15:Array Value),
 ∃(T7:TypeId),
 H_5 ((a21.add 2).add 21).block=some (Obj.cells c15 T7) ∧
 ((a21.add 2).add 21).spot=none ∧
 ((a21.add 2).add 21).off+[Value.slice A'1 n'1 c'1].length≤c15.size ∧
 ∀(H18:Heap),
 H18=H_5.upd ((a21.add 2).add 21).block (Obj.cells (splice c15 ((a21.add 2).add 21).off [Value.slice A'1 n'1 c'1]) T7) →
 Rel2 true (IntKind.i64.wrap (IntKind.i64.wrap (x13-(1:Int))+(1:Int))) H18∧mu2 true (IntKind.i64.wrap (IntKind.i64.wrap (x13-(1:Int))+(1:Int))) H18<mu2 b3 x13 H3) ∧
 ((x22==(2:Int)&&!b6)=false→Rel2 true (IntKind.i64.wrap (x13+(1:Int))) H_3∧mu2 true (IntKind.i64.wrap (x13+(1:Int))) H_3<mu2 b3 x13 H3)))) ∧
 (decide (x13<(↑n1:Int))=false→((!b3)=true→K (Value.tuple #[]) H3)∧((!b3)=false→Rel1 H3∧mu1 H3<mu1 H2)))
section
variable {p:Prg} {G H:Heap} {m:Nat} {pf po:SlH} {sl:Nat→SlH} {F:Heap} {ex:Value} {st:List SlH} {s:VS}
theorem zip_erase {α β:Type}:∀(l:List α) (k:List β) (i:Nat),l.length=k.length→i<l.length→(l.eraseIdx i).zip (k.eraseIdx i)=(l.zip k).take i++(l.zip k).drop (i+1)
 | [],_,_,_,h=>by simp at h
 | _::_,[],_,h,_=>by simp at h
 | a::l,b::k,0,_,_=>by simp
 | a::l,b::k,i+1,h,hi=>by
  simp only [List.eraseIdx_cons_succ,List.zip_cons_cons,List.take_succ_cons,List.drop_succ_cons,List.cons_append]
  rw [zip_erase l k i (by simpa using h) (by simpa using hi)]
theorem flat_take {α:Type} {cells:α→List Value} {sz:Nat} (hsz:∀x,(cells x).length=sz):∀(l:List α) (i:Nat),(l.take i).flatMap cells=(l.flatMap cells).take (i*sz)
 | [],i=>by simp
 | x::l,0=>by simp
 | x::l,i+1=>by
  rw [List.take_succ_cons,List.flatMap_cons,List.flatMap_cons,flat_take hsz l i]
  have:(i+1)*sz=(cells x).length+i*sz:=by rw [hsz,Nat.add_mul]; omega
  rw [this,List.take_length_add_append]
theorem flat_drop {α:Type} {cells:α→List Value} {sz:Nat} (hsz:∀x,(cells x).length=sz):∀(l:List α) (i:Nat),(l.drop i).flatMap cells=(l.flatMap cells).drop (i*sz)
 | [],i=>by simp
 | x::l,0=>by simp
 | x::l,i+1=>by
  rw [List.drop_succ_cons,List.flatMap_cons,flat_drop hsz l i]
  have:(i+1)*sz=(cells x).length+i*sz:=by rw [hsz,Nat.add_mul]; omega
  rw [this,List.drop_length_add_append]
theorem add_nil (a:Addr):a.add (0*9)=a:=by unfold Addr.add; cases a with|mk b o s=>cases s<;>simp
theorem VMX.erase (h : VMX G H m pf po sl F ex st s) {i : Nat} (hi : i<s.threads.length) (h16 : s.threads.length≤1000) {A1 A2 : Option Addr} (e1 : A1=if (i : Int).toNat=0 then (sl 0).A else Option.map (fun x : Addr => x.add (0*9)) (sl 0).A)
  (e2:A2=if (sl 0).c=i+1 then (sl 0).A else Option.map (fun x:Addr=>x.add ((i+1)*9)) (sl 0).A) {K:Option Addr→Nat→Nat→Heap→Prop}
  (k:∀A' n' c' H',VMX G H' m pf po sl F ex st s→Ready F H' m sl ex 0 ⟨A',n',c'⟩ (((s.threads.eraseIdx i).zip (st.eraseIdx i)).flatMap thrC)→K A' n' c' H') :
  appS 153 9 88 H A1 (i-0) (i-0) A2 ((sl 0).n-(i+1)) K:=by
 have ok:=h.ok 0 (by decide)
 have hc0:contC sl st s 0=(s.threads.zip st).flatMap thrC:=rfl
 have hn:=h.thrLen
 have hlen:=ok.len
 have z9:szC 0=9:=rfl
 rw [hc0,z9,hn] at hlen
 have eA1:A1=(sl 0).A:=by
  rw [e1]; split
  ·rfl
  ·cases (sl 0).A with
   | none=>rfl
   | some a=>rw [Option.map_some,add_nil]
 have hcells:((s.threads.eraseIdx i).zip (st.eraseIdx i)).flatMap thrC=((s.threads.zip st).flatMap thrC).take (i*9)++((s.threads.zip st).flatMap thrC).drop ((i+1)*9):=by
  rw [zip_erase _ _ _ h.stl.symm hi,List.flatMap_append,flat_take (cells:=thrC) (sz:=9) (fun _=>rfl),flat_drop (cells:=thrC) (sz:=9) (fun _=>rfl)]
 rw [hcells] at k
 rcases ok.at_ with ⟨a1,a2,a3⟩|⟨b,off,cur,T,a1,a2,a3,a4⟩
 ·omega
 ·rw [z9] at a3
  have hcap:=ok.cap
  have hsrc:At H ⟨b,off,none⟩ ((s.threads.zip st).flatMap thrC):=⟨⟨cur,T,(0,0),a2,rfl,fun j v hv=>a4 j v (by rw [hc0]; exact hv)⟩⟩
  have hB:Src H A2 (((s.threads.zip st).flatMap thrC).drop ((i+1)*9)):=by
   by_cases hl:(sl 0).c=i+1
   ·left
    rw [List.drop_eq_nil_iff,hlen]; omega
   ·right
    rw [e2,if_neg hl,a1]
    exact ⟨_,rfl,at_drop _ hsrc⟩
  have hsz2:(i*9)≤s.threads.length*9:=Nat.mul_le_mul_right _ (by omega)
  have hnl:(((s.threads.zip st).flatMap thrC).drop ((i+1)*9)).length=((sl 0).n-(i+1))*9:=by rw [List.length_drop,hlen,hn,Nat.sub_mul]
  have htl:(((s.threads.zip st).flatMap thrC).take (i*9)).length=i*9:=by rw [List.length_take,hlen]; omega
  refine ⟨⟨_,hB,hnl,⟨⟨((s.threads.zip st).flatMap thrC).take (i*9),?_,by rw [htl]; rfl,hnl,?_,?_,by omega,fun hcap2=>.inl ⟨?_,?_⟩,fun hcap2 b' cap rest hbn hle hr=>?_⟩⟩⟩⟩
  ·rw [eA1,a1]; exact .inr ⟨_,rfl,at_take _ hsrc⟩
  ·have : ∀(l : List (Thr×SlH)), allOne (l.flatMap thrC)=true := fun l => by
    induction l with
    | nil=>rfl
    | cons x l ih=>rw [List.flatMap_cons]; exact ih
   rw [←flat_drop (cells:=thrC) (sz:=9) (fun _=>rfl)]
   exact this _
  ·exact Nat.le_trans (Nat.mul_le_mul_right 88 (show i-0+((sl 0).n-(i+1))≤1000 by omega)) (by decide)
  ·rw [List.drop_eq_nil_iff,hlen]; omega
  ·have hz:(sl 0).n-(i+1)=0:=by omega
   have hd:((s.threads.zip st).flatMap thrC).drop ((i+1)*9)=[]:=by rw [List.drop_eq_nil_iff,hlen]; omega
   refine k _ _ _ _ h ⟨⟨?_,by omega,.inr ⟨b,off,cur,T,by rw [eA1]; exact a1,a2,?_,fun j v hv=>?_⟩⟩,fun b' hb'=>?_⟩
   ·rw [hd,List.append_nil,htl,z9]; show i*9=(i-0+((sl 0).n-(i+1)))*9; rw [hz]; rfl
   ·rw [z9]; show off+(i-0)*9≤cur.size
    have:i*9≤(sl 0).c*9:=Nat.mul_le_mul_right _ (by omega)
    show off+i*9≤cur.size
    omega
   ·rw [hd,List.append_nil,List.getElem?_take] at hv
    split at hv
    ·exact a4 j v (by rw [hc0]; exact hv)
    ·cases hv
   ·refine h.free_own (by decide) ?_
    unfold SlH.blk at hb' ⊢
    simp only at hb'
    rw [eA1] at hb'; exact hb'
  ·refine k _ _ _ _ (h.grow (Sub.upd_new hbn)) ⟨⟨?_,hle,.inr ⟨b',0,_,153,rfl,Heap.upd_same,?_,fun j v hv=>?_⟩⟩,fun b2 hb2=>?_⟩
   ·rw [List.length_append,htl,hnl,z9]; show i*9+((sl 0).n-(i+1))*9=(i-0+((sl 0).n-(i+1)))*9; rw [Nat.add_mul]; rfl
   ·rw [z9]
    simp only [List.size_toArray,List.length_append,htl,hnl,hr,Nat.zero_add]
    rw [←Nat.add_mul,←Nat.add_mul]
    have:i+((sl 0).n-(i+1))+(cap-(i-0+((sl 0).n-(i+1))))=cap:=by omega
    rw [this]; exact Nat.le_refl _
   ·have hj:=get_lt hv
    simp only [List.getElem?_toArray,Nat.zero_add]
    rw [List.getElem?_append_left hj]; exact hv
   ·unfold SlH.blk at hb2; simp only at hb2; cases hb2
    have fr:=h.free_new (c:=0) hbn
    exact ⟨fr.f,fr.m,fr.sl,fr.x⟩
theorem VMX.adopt (h : VMX G H m pf po sl F ex st s) {b : Nat} {o : Obj} (hb : H b=some o) (hF : F b=none) (hm : b≠m) (hs : ∀c, c<14→(sl c).blk≠some b) (hx : ∀xb : Nat, ex=.func (.func 112) #[] #[.pointer (some ⟨xb, 0, none⟩)]→xb≠b) :
  VMX (G.upd b o) H m pf po sl (F.upd b o) ex st s:=by
 have d:=dif_ext (G:=G) hF o
 refine ⟨⟨fun i x hi=>?_⟩,⟨fun i x hi=>?_⟩,by rw [Heap.upd_other (Ne.symm hm)]; exact h.fm,h.hm,fun c hc b' hb'=>⟨by rw [Heap.upd_other (fun e=>hs c hc (by rw [←e]; exact hb'))]; exact (h.own c hc b' hb').1,(h.own c hc b' hb').2⟩,h.inj,h.ok,h.stl,fun j t q h1 h2=>(h.stk j t q h1 h2).sub d,h.vars,h.attrs,h.sigs,h.exp.none_,fun l hl=>?_⟩
 ·by_cases e:i=b
  ·subst e; rw [Heap.upd_same] at hi ⊢; exact hi
  ·rw [Heap.upd_other e] at hi ⊢; exact h.gf.sub i x hi
 ·by_cases e:i=b
  ·subst e; rw [Heap.upd_same] at hi; cases hi; exact hb
  ·rw [Heap.upd_other e] at hi; exact h.fh.sub i x hi
 ·obtain ⟨xb,A,n,c,T,q1,q2,q3,q4,q5,q6,q7⟩:=h.exp.some_ l hl
  exact ⟨xb,A,n,c,T,q1,q2,by rw [Heap.upd_other (hx xb q1)]; exact q3,q4,q5,q6,src_sub q7 d⟩
end
theorem FStep.fuel_le {p:Prg} {b:Bool} {s s':VS} (q:FStep p b s s'):s'.fuel≤s.fuel:=by
 cases q with
 | emit e ho hc=>rw [(keepE s e).fuel]; exact Int.le_refl _
 | fails c ho=>rw [(keepF s c).fuel]; exact Int.le_refl _
 | done i v k=>rcases setDone_cases s i v k with e|⟨f,_,_,_,e⟩<;>rw [e]<;>exact Int.le_refl _
 | mark i=>rcases mark_cases s i with e|⟨c,hc,e⟩<;>rw [e]<;>exact Int.le_refl _
 | fuel n hb h=>exact h.2
 | _=>exact Int.le_refl _
theorem FSteps.fuel_le {p:Prg} {b:Bool} {s s':VS} (q:FSteps p b s s'):s'.fuel≤s.fuel:=by
 induction q with
 | refl=>exact Int.le_refl _
 | tail _ k _ ih=>exact Int.le_trans k.fuel_le ih
 | two _ k1 k2 _ ih=>exact Int.le_trans k2.fuel_le (Int.le_trans k1.fuel_le ih)
def VS.left (s:VS):Nat:=s.fuel.toNat+if s.over=true then 0 else 1
theorem stepsG_left {p:Prg} (ok:Okp p) (i:Nat):∀(n:Nat) (s:VS),s.fuel=n→Inv p s→Room s→i<s.threads.length→s.over=false→(VS.stepsG p i n s).2.fuel<s.fuel∨(VS.stepsG p i n s).2.over=true
 | 0,s,hf,iv,rm,hi,ho=>by
  rw [stepsG_eq,if_neg (by rw [ho]; simp)]
  exact .inr (overF s (-1))
 | n+1,s,hf,iv,rm,hi,ho=>by
  left
  rw [stepsG_eq,if_neg (by rw [ho]; simp)]
  obtain ⟨st,iv1,rm1,sk⟩:=fuel_step iv rm hf
  obtain ⟨t,ht⟩:=get_some hi
  have ht1:(s.fuelAt n).threads[i]?=some t:=ht
  have fl:=instr_fuel ok ht1 iv1 rm1 ho sk
  have fl:((s.fuelAt n).instruction p i).2.fuel=n:=fl
  have iv2:=(instr_steps ok ht1 iv1 rm1 ho sk).inv iv1 rm1
  have tl:=instr_threads ok ht1 iv1 rm1 ho sk
  have tl:s.threads.length≤((s.fuelAt n).instruction p i).2.threads.length:=tl
  simp only
  split
  ·omega
  ·have:=(stepsG_steps ok i n _ fl iv2.1 iv2.2 (by omega)).1.fuel_le
   omega
theorem steps_left {p:Prg} (ok:Okp p) {i:Nat} {s:VS} (iv:Inv p s) (rm:Room s) (hi:i<s.threads.length) (ho:s.over=false):(s.steps p i).2.left<s.left:=by
 have hf:=iv.fuel
 have st:=steps_steps ok iv rm hi
 have h1:=st.1.fuel_le
 have hf2:=(st.1.inv iv rm).1.fuel
 have h2:(s.steps p i).2.fuel<s.fuel∨(s.steps p i).2.over=true:=stepsG_left ok i s.fuel.toNat s (by omega) iv rm hi ho
 have e1:s.left=s.fuel.toNat+1:=by unfold VS.left; rw [ho]; rfl
 rw [e1]
 unfold VS.left
 rcases h2 with h|h
 ·split<;>omega
 ·rw [if_pos h]; omega
def passM (s:VS) (k:Nat) (went:Bool):Nat:=40*s.left+(if went=true then 20 else 0)+(17-k)
def leftAt (m:Nat) (H:Heap):Nat:=fuelIn m H+match H m with
 | some (.cells c _ _)=>(match c[27]? with|some (Value.bool true)=>0|_=>1)
 | _=>0
section
variable {p:Prg} {G H:Heap} {m:Nat} {pf po:SlH} {sl:Nat→SlH} {F:Heap} {ex:Value} {st:List SlH} {s:VS}
theorem VMX.leftAt (h:VMX G H m pf po sl F ex st s):Go.Proofs.YtkofafcgcnciaaaGreatDoor.leftAt m H=s.left:=by
 have e:Go.Proofs.YtkofafcgcnciaaaGreatDoor.leftAt m H=s.fuel.toNat+(match some (Value.bool s.over) with|some (Value.bool true)=>0|_=>1):=by
  unfold Go.Proofs.YtkofafcgcnciaaaGreatDoor.leftAt; rw [h.fuelIn,h.hm]; rfl
 rw [e]; unfold VS.left
 cases s.over<;>rfl
structure RAdm (p:Prg) (G:Heap) (m:Nat) (pf po:SlH) (ex:Value) (ups:List Ev) (s1:VS) (x:Int) (H1:Heap):Prop where
 out:∃(k:Nat) (s:VS),x=k∧k≤ups.length∧VMP p G H1 m pf po ex s∧Inv p s∧Room s∧admitAll p (ups.drop k) s=admitAll p ups s1
structure RPass (p:Prg) (G:Heap) (m:Nat) (pf po:SlH) (ex:Value) (tgt:VS) (H1:Heap):Prop where
 out:∃(g:Nat) (s:VS),VMP p G H1 m pf po ex s∧Inv p s∧Room s∧passG p g s 0 false=tgt∧passM s 0 false<g
structure RIn (p:Prg) (G:Heap) (m:Nat) (pf po:SlH) (ex:Value) (tgt:VS) (H2:Heap) (went:Bool) (x:Int) (H1:Heap):Prop where
 out:∃(g k:Nat) (s:VS),x=k∧k≤s.threads.length∧VMP p G H1 m pf po ex s∧Inv p s∧Room s∧passG p g s k went=tgt∧passM s k went<g∧s.left+(if went=true then 1 else 0)≤leftAt m H2
theorem pass_some {p : Prg} {g : Nat} {s : VS} {i : Nat} {went : Bool} {t : Thr} (ht : s.threads[i]?=some t) : passG p (g+1) s i went=if s.over=true then s else
    if (!s.ready t)=true then passG p g s (i+1) went else
    if ((s.steps p i).1==2&&!(s.steps p i).2.over)=true then passG p g { (s.steps p i).2 with threads:=(s.steps p i).2.threads.eraseIdx i } i true else passG p g (s.steps p i).2 (i+1) true:=by
 rw [passG,ht]
theorem pass_none {p:Prg} {g:Nat} {s:VS} {i:Nat} {went:Bool} (ht:s.threads[i]?=none):passG p (g+1) s i went=if (!went)=true then s else passG p g s 0 false:=by
 rw [passG,ht]
theorem loops {A : Option Addr} {n : Nat} {ups : List Ev} (okp : Okp p) (h : VMP p G H m pf po ex s) (iv : Inv p s) (rm : Room s) (hs : Src G A (ups.flatMap Ev.cells)) (hn : n = ups.length) (hid : ∀ u ∈ ups, 0 ≤ u.id) (hlen : ups.length ≤ 1000) {K : Value → Heap → Prop}
    (k:∀H',VMP p G H' m pf po ex (passG p passGas (admitAll p ups s) 0 false)→K (.tuple #[]) H'):LoopsP (some ⟨m,0,none⟩) A n H K:=by
  subst hn
  refine ⟨RAdm p G m pf po ex ups s,fun x _=>((ups.length:Int)-x).toNat,⟨0,s,rfl,Nat.zero_le _,h,iv,rm,rfl⟩,fun x H1 r=>?_⟩
  obtain ⟨j,s1,rfl,hj,h1,iv1,rm1,he1⟩:=r.out
  obtain ⟨sl1,F1,st1,v1,pr1⟩:=h1.out
  have hw1:IntKind.i64.wrap ((j:Int)+1)=((j+1:Nat):Int):=by rw [wrapi (by omega) (by omega)]; rfl
  rw [hw1]
  refine ⟨fun hlt=>?_,fun hge=>?_⟩
  · have hlt:(j:Int)<(ups.length:Int):=of_decide_eq_true hlt
    obtain ⟨e,he⟩:=get_some (l:=ups) (i:=j) (by omega)
    obtain ⟨a,ha,hat⟩:=src_elem (cells:=Ev.cells) (sz:=9) (fun _=>rfl) (by decide) (src_sub hs (v1.gf.trans v1.fh)) j e he
    have hdrop:ups.drop j=e::ups.drop (j+1):=(List.drop_eq_getElem_cons (get_lt he)).trans (by rw [List.getElem?_eq_getElem (get_lt he)] at he; injection he with he; rw [he])
    have dec:((ups.length:Int)-((j+1:Nat):Int)).toNat<((ups.length:Int)-(j:Int)).toNat:=by omega
    rw [hdrop,admitAll] at he1
    refine ⟨a,⟨ha,by omega,hlt⟩,_,_,_,_,_,_,_,_,_,hat,_,rfl,_,v1.c27,fun ho=>?_,fun ho=>⟨⟨j+1,s1,rfl,by omega,h1,iv1,rm1,?_⟩,dec⟩⟩
    · rw [if_pos ho] at he1
      have ho:s1.over=false:=by simpa using ho
      have iv2:=(admits_steps okp iv1 rm1 ho (hid e (List.mem_of_getElem? he))).inv iv1 rm1
      exact (t116 okp v1 pr1 iv1 rm1 e).mono fun v H2 ⟨hv,h2⟩=>⟨hv,⟨j+1,_,rfl,by omega,h2,iv2.1,iv2.2,he1⟩,dec⟩
    · rw [if_neg (by rw [ho]; simp)] at he1; exact he1
  · have hge:¬(j:Int)<(ups.length:Int):=of_decide_eq_false hge
    have hd:ups.drop j=[]:=List.drop_eq_nil_of_le (by omega)
    rw [hd] at he1
    have he1:s1=admitAll p ups s:=he1
    rw [←he1] at k
    have hf1:=iv1.fuel
    refine ⟨RPass p G m pf po ex (passG p passGas s1 0 false),fun H'=>leftAt m H',⟨passGas,s1,h1,iv1,rm1,rfl,?_⟩,fun H2 r2=>?_⟩
    · have hg:passGas=100000:=rfl
      have hl1:s1.left≤1001:=by unfold VS.left; split<;>omega
      rw [hg]
      show 40*s1.left+0+17<100000
      omega
    obtain ⟨g0,s2,h2,iv2,rm2,he2,hm2⟩:=r2.out
    have hl2:s2.left=leftAt m H2:=by obtain ⟨_,_,_,v2,_⟩:=h2.out; exact v2.leftAt.symm
    refine ⟨RIn p G m pf po ex (passG p passGas s1 0 false) H2,fun went x H'=>40*leftAt m H'+(if went=true then 20 else 0)+(17-x.toNat),⟨g0,0,s2,rfl,Nat.zero_le _,h2,iv2,rm2,he2,hm2,by rw [hl2]; simp⟩,fun went x H3 r3=>?_⟩
    obtain ⟨g,i,s3,rfl,hi,h3,iv3,rm3,he3,hm3,hw3⟩:=r3.out
    obtain ⟨sl3,F3,st3,v3,pr3⟩:=h3.out
    obtain ⟨g,rfl⟩:∃g',g=g'+1:=⟨g-1,by omega⟩
    have h16:=iv3.t16
    have hn3:=v3.thrLen
    have hwi:IntKind.i64.wrap ((i:Int)+1)=((i+1:Nat):Int):=by rw [wrapi (by omega) (by omega)]; rfl
    have hwd:IntKind.i64.wrap (IntKind.i64.wrap ((i:Int)-1)+1)=(i:Int):=by rw [wrapi (x:=(i:Int)-1) (by omega) (by omega),wrapi (by omega) (by omega)]; omega
    rw [hwi,hwd]
    refine ⟨_,rfl,_,_,_,v3.c23,fun hlt=>?_,fun hge=>?_⟩
    · have hlt:(i:Int)<((sl3 0).n:Int):=of_decide_eq_true hlt
      obtain ⟨t,ht⟩:=get_some (l:=s3.threads) (i:=i) (by omega)
      obtain ⟨a,q,ha,hq,-,hat⟩:=v3.thr ht
      have hT:=iv3.thr t (List.mem_of_getElem? ht)
      rw [pass_some ht] at he3
      refine ⟨_,rfl,_,v3.c27,fun ho=>?_,fun ho=>⟨_,rfl,_,_,_,v3.c23,a,⟨ha,by omega,by omega⟩,_,_,_,_,_,_,_,_,_,_,_,hat,_,t117 v3 t q hT.waits hT.signal,fun e=>?_,fun e=>?_⟩⟩
      · rw [if_pos ho] at he3
        rw [←he3] at k
        exact k H3 h3
      · rw [if_neg (by rw [ho]; simp),if_pos e] at he3
        refine ⟨⟨g,i+1,s3,rfl,by omega,h3,iv3,rm3,he3,?_,hw3⟩,?_⟩
        · unfold passM at hm3 ⊢; omega
        · show 40*leftAt m H3+_+(17-(i+1))<40*leftAt m H3+_+(17-i); omega
      · rw [if_neg (by rw [ho]; simp),if_neg (by rw [e]; simp)] at he3
        have hi':i<s3.threads.length:=by omega
        have ss:=steps_steps okp iv3 rm3 hi'
        have iv4:=ss.1.inv iv3 rm3
        have hl4:=steps_left okp iv3 rm3 hi' ho
        have hlen4:=ss.2.1
        have h164:=iv4.1.t16
        refine (t118 okp h3 iv3 rm3 hi').mono fun v H4 ⟨hv,h4⟩=>?_
        obtain ⟨sl4,F4,st4,v4,pr4⟩:=h4.out
        have hli3:=v3.leftAt
        have hli4:=v4.leftAt
        have hdec:40*leftAt m H4+20+17<40*leftAt m H3+(if went=true then 20 else 0)+(17-i):=by
          rw [hli3,hli4]; omega
        have hmm:∀j,passM (s3.steps p i).2 j true+1≤g:=fun j=>by
          unfold passM at hm3 ⊢
          rw [if_pos rfl]
          omega
        have hw4:(s3.steps p i).2.left+(if true=true then 1 else 0)≤leftAt m H2:=by
          rw [if_pos rfl]
          have:s3.left≤leftAt m H2:=Nat.le_trans (Nat.le_add_right _ _) hw3
          omega
        refine ⟨_,hv,_,fun _=>rfl,_,fun _=>v4.c27,fun e2=>?_,fun e2=>⟨⟨g,i+1,_,rfl,by omega,h4,iv4.1,iv4.2,?_,hmm _,hw4⟩,?_⟩⟩
        · rw [if_pos e2] at he3
          have hn4:=v4.thrLen
          have hc4:=(v4.ok 0 (by decide)).cap
          have he4:=(FStep.erase (p:=p) (b:=true) (s3.steps p i).2 i rfl).inv iv4.1 iv4.2
          have hel:i≤((s3.steps p i).2.threads.eraseIdx i).length:=by
            have:=List.length_eraseIdx_of_lt (l:=(s3.steps p i).2.threads) (i:=i) hlen4
            omega
          have hwt:((i+1:Nat):Int).toNat=i+1:=by omega
          have hti:(i:Int).toNat=i:=by omega
          have key : appS 153 9 88 H4 (if (i : Int).toNat = 0 then (sl4 0).A else Option.map (fun x : Addr => x.add (0 * 9)) (sl4 0).A) (i - 0) (i - 0) (if (sl4 0).c = i + 1 then (sl4 0).A else Option.map (fun x : Addr => x.add ((i + 1) * 9)) (sl4 0).A) ((sl4 0).n - (i + 1)) fun A' n' c' H5 => ∃ a20 : Addr, some (⟨m, 0, none⟩ : Addr) = some a20 ∧ Wr H5 ((a20.add 2).add 21) (.slice A' n' c') fun H6 =>
              RIn p G m pf po ex (passG p passGas s1 0 false) H2 true (i:Int) H6∧40*leftAt m H6+(if true=true then 20 else 0)+(17-(i:Int).toNat)<40*leftAt m H3+(if went=true then 20 else 0)+(17-(i:Int).toNat):=by
            refine v4.erase hlen4 (by omega) rfl rfl fun A' n' c' H5 v5 rd=>⟨_,rfl,?_⟩
            have hs6:∀k,setH sl4 0 ⟨A',n',c'⟩ (6+k)=sl4 (6+k):=fun k=>if_neg (by omega)
            refine v5.wrSl (c:=0) (by decide) rd (k:=23) (by decide) { (s3.steps p i).2 with threads:=(s3.steps p i).2.threads.eraseIdx i } (st4.eraseIdx i) rfl rfl (fun c2 hc2 hne=>?_) rfl v5.vars v5.attrs v5.sigs ?_ (fun j u z hu hz=>?_) fun H6 v6=>⟨⟨g,i,_,rfl,hel,⟨_,F4,_,v6,pr4⟩,he4.1,he4.2,he3,hmm i,hw4⟩,?_⟩
            · simp only [contC,hs6,if_neg hne]
            · show (st4.eraseIdx i).length=((s3.steps p i).2.threads.eraseIdx i).length
              rw [List.length_eraseIdx_of_lt (by rw [v5.stl]; exact hlen4),List.length_eraseIdx_of_lt hlen4,v5.stl]
            · have hu:((s3.steps p i).2.threads.eraseIdx i)[j]?=some u:=hu
              rw [List.getElem?_eraseIdx] at hu hz
              split at hu
              · rename_i hj; rw [if_pos hj] at hz; exact v5.stk _ u z hu hz
              · rename_i hj; rw [if_neg hj] at hz; exact v5.stk _ u z hu hz
            · have hli6:leftAt m H6=(s3.steps p i).2.left:=v6.leftAt
              rw [hli6]
              rw [hli4] at hdec
              rw [if_pos rfl]
              omega
          rw [hwt]
          exact ⟨_,rfl,_,rfl,⟨_,_,_,v4.c23,⟨by omega,by omega,by omega,by omega⟩,_,_,_,v4.c23,⟨by omega,by omega⟩,key⟩,_,_,_,v4.c23,⟨by omega,by omega⟩,_,_,_,v4.c23,⟨by omega,by omega,by omega,by omega⟩,key⟩
        · rw [if_neg (by rw [e2]; simp)] at he3; exact he3
        · show 40*leftAt m H4+(if true=true then 20 else 0)+(17-(i+1))<40*leftAt m H3+_+(17-i)
          rw [if_pos rfl]; omega
    · have hge:¬(i:Int)<((sl3 0).n:Int):=of_decide_eq_false hge
      have ht:s3.threads[i]?=none:=List.getElem?_eq_none (by omega)
      rw [pass_none ht] at he3
      refine ⟨fun e=>?_,fun e=>?_⟩
      · rw [if_pos e] at he3
        rw [←he3] at k
        exact k H3 h3
      · rw [if_neg (by rw [e]; simp)] at he3
        have e:went=true:=by simpa using e
        subst e
        have hli3:=v3.leftAt
        rw [if_pos rfl] at hw3
        refine ⟨⟨g,s3,h3,iv3,rm3,he3,?_⟩,?_⟩
        · unfold passM at hm3 ⊢
          rw [if_pos rfl] at hm3
          rw [if_neg (by simp)]
          omega
        · show leftAt m H3<leftAt m H2
          omega
end
structure Tasks (s:VS):Prop where
 ho:s.over=false
 c:s.count≤255
 live:s.expect=none→s.count≤254
 rep:∀l,s.expect=some l→s.count+1+l.length≤256
theorem begin_inv {p:Prg} {s:VS} (iv:Inv p s) (tk:Tasks s) (now:Int):Inv p (s.begin_ now)∧Room (s.begin_ now):=by
 have hm:=iv.many
 have hf:=iv.fuel
 have hc:=iv.c0
 have h1:=tk.c
 refine ⟨⟨iv.scp,iv.scn,iv.sc32,iv.t16,fun t ht=>(iv.thr t ht).mono (Nat.le_refl _) (Nat.le_refl _),iv.futs,⟨by show (0:Int)≤1000; decide,by show (1000:Int)≤1000; decide⟩,?_,⟨by show 0≤s.count+1; omega,by show s.count+1≤256; omega⟩,tk.rep,?_,fun l hl=>?_,iv.sg8,?_,fun u hu=>(by cases hu),iv.v16,iv.a4⟩,fun hx _=>?_⟩
 ·show (s.futures.length:Int)+1000≤1000*(s.count+1); omega
 ·show ((1:Nat):Int)≤s.count+1; omega
 ·have:=iv.sig l hl; show (l.length:Int)≤s.count+1; omega
 ·show ((0:Nat):Int)≤s.count+1; omega
 ·have:=tk.live hx; show s.count+1≤255; omega
theorem admitAll_steps {p:Prg} (ok:Okp p):∀(l:List Ev) (s:VS),Inv p s→Room s→(∀u∈l,0≤u.id)→FSteps p true s (admitAll p l s)
 | [],s,_,_,_=>.refl s
 | e::l,s,iv,rm,h=>by
  rw [admitAll]
  split
  ·rename_i ho
   have st:=admits_steps ok iv rm (show s.over=false by simpa using ho) (h e (List.mem_cons_self ..))
   have iv1:=st.inv iv rm
   exact st.trans (admitAll_steps ok l _ iv1.1 iv1.2 fun u hu=>h u (List.mem_cons_of_mem _ hu))
  ·exact admitAll_steps ok l s iv rm fun u hu=>h u (List.mem_cons_of_mem _ hu)
theorem pass_steps {p:Prg} (ok:Okp p):∀(g:Nat) (s:VS) (i:Nat) (went:Bool),Inv p s→Room s→FSteps p true s (passG p g s i went)
 | 0,s,_,_,_,_=>.refl s
 | g+1,s,i,went,iv,rm=>by
  cases ht:s.threads[i]? with
  | none =>
   rw [pass_none ht]
   split
   ·exact .refl s
   ·exact pass_steps ok g s 0 false iv rm
  | some t =>
   rw [pass_some ht]
   split
   ·exact .refl s
   ·rename_i ho
    split
    ·exact pass_steps ok g s (i+1) went iv rm
    ·have ss:=steps_steps ok iv rm (get_lt ht)
     have iv1:=ss.1.inv iv rm
     split
     ·have st:=ss.1.tail (.erase _ i rfl) (Cv.erase _ _)
      have iv2:=st.inv iv rm
      exact st.trans (pass_steps ok g _ i true iv2.1 iv2.2)
     ·exact ss.1.trans (pass_steps ok g _ (i+1) true iv1.1 iv1.2)
def VS.opened (s:VS) (now:Int):VS:=if s.cancel=true then (s.begin_ now).cancels 0 else s.begin_ now
theorem opened_steps {p:Prg} {s:VS} (ho:s.over=false) (now:Int):FSteps p true (s.begin_ now) (s.opened now):=by
 unfold VS.opened; split
 ·exact cancels_steps 0 ho
 ·exact .refl _
theorem task_eq (s:VS) (p:Prg) (now:Int):s.task p now=passG p passGas (admitAll p s.updates (s.opened now)) 0 false:=rfl
theorem task_steps {p:Prg} (ok:Okp p) {s:VS} (iv:Inv p s) (tk:Tasks s) (now:Int):FSteps p true (s.begin_ now) (s.task p now):=by
 have h0:=begin_inv iv tk now
 have s1:=opened_steps (p:=p) tk.ho now
 have h1:=s1.inv h0.1 h0.2
 have s2:=admitAll_steps ok s.updates _ h1.1 h1.2 iv.updI
 have h2:=s2.inv h1.1 h1.2
 exact (s1.trans s2).trans (pass_steps ok passGas _ 0 false h2.1 h2.2)
section
variable {p:Prg} {G H:Heap} {m:Nat} {pf po:SlH} {sl:Nat→SlH} {F:Heap} {ex:Value} {st:List SlH} {s:VS}
theorem VMX.c28 (h:VMX G H m pf po sl F ex st s):At H ((⟨m,0,none⟩:Addr).add 28) [(sl 4).v]:=h.cell rfl
theorem VMX.c29 (h:VMX G H m pf po sl F ex st s):At H ((⟨m,0,none⟩:Addr).add 29) [.bool s.cancel]:=h.cell rfl
theorem VMX.updLen (h:VMX G H m pf po sl F ex st s):(sl 4).n=s.updates.length:=by
 have:=(h.ok 4 (by decide)).len
 have e:contC sl st s 4=s.updates.flatMap Ev.cells:=rfl
 rw [e,flat_size (cells:=Ev.cells) (sz:=9) (fun _=>rfl)] at this
 have z:szC 4=9:=rfl
 rw [z] at this; omega
theorem VMX.letUpd (h : VMX G H m pf po sl F ex st s) (pr : HasP (dif F G) pf.A pf.n po.A po.n p) {Q : Heap→Prop} (q : ∀G' F' H', VMX G' H' m pf po (setH sl 4 ⟨none, 0, 0⟩) F' ex st { s with updates := [] }→Sub G G'→HasP (dif F' G') pf.A pf.n po.A po.n p→Src G' (sl 4).A (s.updates.flatMap Ev.cells)→Q H') :
  Wr H ((⟨m,0,none⟩:Addr).add 28) (.slice none 0 0) Q:=by
 have hs6:∀k,setH sl 4 ⟨none,0,0⟩ (6+k)=sl (6+k):=fun k=>if_neg (by omega)
 have rd:Ready F H m sl ex 4 ⟨none,0,0⟩ []:=⟨⟨by simp,Nat.le_refl _,.inl ⟨rfl,rfl,rfl⟩⟩,fun b hb=>by cases hb⟩
 have v:=h.setSl (c:=4) (by decide) rd { s with updates:=[] } st rfl (fun c2 hc2 hne=>by simp only [contC,hs6,if_neg hne]) rfl h.vars h.attrs h.sigs h.stl h.stk
 refine wr_cells h.hm (k:=28) (by rw [mCells_len]; decide) ?_
 have em:(mCells pf po sl ex s).set 28 (.slice none 0 0)=mCells pf po (setH sl 4 ⟨none,0,0⟩) ex { s with updates:=[] }:=rfl
 rw [em]
 have ok:=h.ok 4 (by decide)
 have e4:contC sl st s 4=s.updates.flatMap Ev.cells:=rfl
 rw [e4] at ok
 rcases ok.at_ with ⟨a1,a2,a3⟩|⟨b,off,cur,T,a1,a2,a3,a4⟩
 ·refine q G F _ v (Sub.refl _) pr (.inl ?_)
  have:=ok.len
  rw [a2,Nat.zero_mul] at this
  exact List.length_eq_zero_iff.1 this
 ·have hblk:(sl 4).blk=some b:=by unfold SlH.blk; rw [a1]; rfl
  have fr:=h.free_own (by decide:4<14) hblk
  have hb:(H.upd m (.cells ⟨mCells pf po (setH sl 4 ⟨none,0,0⟩) ex { s with updates:=[] }⟩ 149 (0,0))) b=some (.cells cur T (0,0)):=by rw [Heap.upd_other fr.m]; exact a2
  have hG:=none_below h.gf fr.f
  refine q _ _ _ (v.adopt hb fr.f fr.m (fun c hc hcb=>?_) fr.x) (Sub.upd_new hG) (pr.sub (dif_ext fr.f _)) (.inr ⟨_,a1,⟨⟨cur,T,(0,0),Heap.upd_same,rfl,a4⟩⟩⟩)
  by_cases h4:c=4
  ·subst h4
   have:(setH sl 4 ⟨none,0,0⟩ 4).blk=none:=rfl
   rw [this] at hcb; cases hcb
  ·have:setH sl 4 ⟨none,0,0⟩ c=sl c:=if_neg h4
   rw [this] at hcb
   exact h4 (fr.sl c hc hcb)
theorem t68 (okp : Okp p) (h : VMX G H m pf po sl F ex st s) (pr : HasP (dif F G) pf.A pf.n po.A po.n p) (iv : Inv p s) (tk : Tasks s) (now : Int) :
  Tr Tryz.prog 68 #[.pointer (some ⟨m,0,none⟩),.int .i64 now] H fun v H'=>v=.tuple #[]∧VMP p G H' m pf po ex (s.task p now):=by
 have hc:=iv.c0
 have hcc:=tk.c
 have hup:=iv.upd
 have hw:IntKind.i64.wrap (s.count+1)=s.count+1:=wrapi (by omega) (by omega)
 have h0:=begin_inv iv tk now
 apply v68; unfold F68
 refine ⟨_,rfl,?_⟩
 refine h.wr (k:=31) (by decide) (s.fuelAt 1000) rfl rfl rfl rfl rfl rfl rfl rfl h.vars h.attrs fun H1 v1=>?_
 refine ⟨_,rfl,_,rfl,⟨s.count,v1.c30,s.count,v1.c30,?_⟩,s.count,v1.c30,s.count,v1.c30,?_⟩
 all_goals
  rw [hw]
  intro b hb H2 e2
  have v2:=v1.grow (Sub.upd_new (o:=.cells ⟨Ev.cells ⟨s.count+1,now,2,s.count,0,0,0,0,0⟩⟩ 47 (0,0)) hb)
  have fr:=v1.free_new (c:=5) hb
  have e2':H2=H1.upd b (.cells ⟨Ev.cells ⟨s.count+1,now,2,s.count,0,0,0,0,0⟩⟩ 47 (0,0)):=e2
  rw [←e2'] at v2
  have rd:Ready F H2 m sl ex 5 ⟨some ⟨b,0,none⟩,1,1⟩ (Ev.cells ⟨s.count+1,now,2,s.count,0,0,0,0,0⟩) :=
   ⟨⟨rfl,Nat.le_refl _,.inr ⟨b,0,_,_,rfl,by rw [e2']; exact Heap.upd_same,Nat.le_refl _,fun j v hv=>by simpa using hv⟩⟩,fun b' hb'=>by
    have:b=b':=by unfold SlH.blk at hb'; simpa using hb'
    subst this
    exact ⟨fr.f,fr.m,fr.sl,fr.x⟩⟩
  have hs6:∀k,setH sl 5 ⟨some ⟨b,0,none⟩,1,1⟩ (6+k)=sl (6+k):=fun k=>if_neg (by omega)
  refine ⟨_,rfl,?_⟩
  refine v2.wrSl (c:=5) (by decide) rd (k:=32) (by decide) { s with fuel:=1000,made:=[⟨s.count+1,now,2,s.count,0,0,0,0,0⟩] } st rfl (List.append_nil _) (fun c2 hc2 hne=>by simp only [contC,hs6,if_neg hne]; rfl) rfl h.vars h.attrs h.sigs h.stl h.stk fun H3 v3=>?_
  refine ⟨_,rfl,?_⟩
  refine v3.wr (k:=22) (by decide) { s with fuel:=1000,made:=[⟨s.count+1,now,2,s.count,0,0,0,0,0⟩],now:=now } rfl rfl rfl rfl rfl rfl rfl rfl h.vars h.attrs fun H4 v4=>?_
  refine ⟨_,rfl,s.count,v4.c30,_,rfl,?_⟩
  rw [hw]
  refine v4.wr (k:=30) (by decide) { s with fuel:=1000,made:=[⟨s.count+1,now,2,s.count,0,0,0,0,0⟩],now:=now,count:=s.count+1 } rfl rfl rfl rfl rfl rfl rfl rfl h.vars h.attrs fun H5 v5=>?_
  refine ⟨_,rfl,s.cancel,v5.c29,_,rfl,_,_,_,v5.c28,_,rfl,?_⟩
  have hul:(setH sl 5 ⟨some ⟨b,0,none⟩,1,1⟩ 4).n=s.updates.length:=v5.updLen
  refine v5.wr (k:=29) (by decide) { s with fuel:=1000,made:=[⟨s.count+1,now,2,s.count,0,0,0,0,0⟩],now:=now,count:=s.count+1,cancel:=false } rfl rfl rfl rfl rfl rfl rfl rfl h.vars h.attrs fun H6 v6=>?_
  refine ⟨_,rfl,?_⟩
  refine v6.letUpd pr fun G7 F7 H7 v7 sg pr7 hsrc=>?_
  have v7:VMX G7 H7 m pf po _ F7 ex st (s.begin_ now):=v7
  refine ⟨fun ec=>?_,fun ec=>?_⟩
  ·have ho:s.opened now=(s.begin_ now).cancels 0:=by unfold VS.opened; rw [if_pos ec]
   have st1:=opened_steps (p:=p) tk.ho now
   have h1:=st1.inv h0.1 h0.2
   rw [ho] at h1
   have hsn:=iv.scn
   refine (t115 v7 h0.1 h0.2 tk.ho 0 ⟨Int.le_refl _,by show (0:Int)<s.scopes.length; omega⟩).mono fun v H8 ⟨hv,sl8,F8,k8,v8⟩=>⟨hv,?_⟩
   refine loops (ups:=s.updates) (K:=fun v H'=>v=.tuple #[]∧VMP p G H' m pf po ex (s.task p now)) okp ⟨sl8,F8,st,v8,pr7.sub (dif_more k8)⟩ h1.1 h1.2 hsrc hul iv.updI (by omega) fun H9 w=>⟨rfl,?_⟩
   rw [task_eq,ho]
   obtain ⟨sl9,F9,st9,v9,pr9⟩:=w.out
   exact ⟨sl9,F9,st9,v9.weaken sg,pr9.sub (dif_low sg)⟩
  ·have ho:s.opened now=s.begin_ now:=by unfold VS.opened; rw [if_neg (by rw [ec]; simp)]
   refine loops (ups:=s.updates) (K:=fun v H'=>v=.tuple #[]∧VMP p G H' m pf po ex (s.task p now)) okp ⟨_,F7,st,v7,pr7⟩ h0.1 h0.2 hsrc hul iv.updI (by omega) fun H9 w=>⟨rfl,?_⟩
   rw [task_eq,ho]
   obtain ⟨sl9,F9,st9,v9,pr9⟩:=w.out
   exact ⟨sl9,F9,st9,v9.weaken sg,pr9.sub (dif_low sg)⟩
end
theorem valid_head {e:Ev} (h:validM e=true):1≤e.id∧e.id≤256∧0≤e.time∧e.time≤1099511627776∧0≤fieldsM e.kind:=by
 unfold validM headOk at h
 rw [Bool.and_eq_true] at h
 have:=h.1
 simp at this
 omega
theorem valid_19 {e:Ev} (h:validM e=true) (k:e.kind=19):0≤e.a∧e.a<8:=by
 unfold validM at h
 rw [Bool.and_eq_true] at h
 have h:=h.2
 rw [k] at h
 simp only [Bool.and_eq_true] at h
 have h0:=h.1.1.1.1.1
 have e1:numOk 19 0 e.a=(decide ((spanM 19 0).1≤e.a)&&decide (e.a≤(spanM 19 0).2)):=rfl
 rw [e1] at h0
 have e2:(spanM 19 0)=(0,7):=rfl
 rw [e2] at h0
 simp at h0
 omega
def VS.counted (s:VS):VS:={ s with count:=s.count+1 }
theorem signal_eq {s:VS} {k:Nat} {l:List Int} (h:s.signals[k]?=some l) (v:Int):s.signal k v={ s with signals:=s.signals.set k (l++[v]) }:=by
 unfold VS.signal
 rw [Int.toNat_natCast]
 congr 1
 apply List.ext_getElem?
 intro i
 rw [List.getElem?_modify,List.getElem?_set]
 by_cases hi:k=i
 ·subst hi
  have e:s.signals[k]'(get_lt h)=l:=by have:=h; rw [List.getElem?_eq_getElem (get_lt h)] at this; injection this
  simp [get_lt h,e]
 ·simp [hi]
theorem bne_not (a b:Bool):(!a==b)=(a != b):=by cases a<;>cases b<;>rfl
structure Taken (s:VS) (e:Ev):Prop where
 valid:validM e=true
 id:e.id=s.count+1
 out:outsideM e=true
 first:(e.kind==1)=(s.count==0)
theorem taken {s:VS} {e:Ev} (h:s.refuses e=false):Taken s e:=by
 unfold VS.refuses at h
 simp only [Bool.or_eq_false_iff,bne_eq_false_iff_eq] at h
 obtain ⟨⟨⟨h1,h2⟩,h3⟩,h4⟩:=h
 exact ⟨by simpa using h1,h2,by simpa using h3,h4⟩
theorem counted_inv {p:Prg} {s:VS} (iv:Inv p s) (hx:s.expect=none) (hc:s.count≤255):Inv p s.counted:=by
 have hm:=iv.many
 have h0:=iv.c0
 refine ⟨iv.scp,iv.scn,iv.sc32,iv.t16,fun t ht=>(iv.thr t ht).mono (Nat.le_refl _) (Nat.le_refl _),iv.futs,iv.fuel,?_,⟨by show 0≤s.count+1; omega,by show s.count+1≤256; omega⟩,fun l hl=>?_,?_,fun l hl=>?_,iv.sg8,?_,iv.updI,iv.v16,iv.a4⟩
 ·show (s.futures.length:Int)+s.fuel≤1000*(s.count+1); omega
 ·rw [show s.counted.expect=s.expect from rfl,hx] at hl; cases hl
 ·have:=iv.made; show (s.made.length:Int)≤s.count+1; omega
 ·have:=iv.sig l hl; show (l.length:Int)≤s.count+1; omega
 ·have:=iv.upd; show (s.updates.length:Int)≤s.count+1; omega
theorem done_inv {p:Prg} {s:VS} (iv:Inv p s) (i v k:Int):Inv p (s.setDone i v k):=by
 rcases setDone_cases s i v k with e|⟨f,hf,h0,hd,e⟩
 ·rw [e]; exact iv
 ·rw [e]
  have hl:(s.futures.set i.toNat (f.end_ v k)).length=s.futures.length:=List.length_set
  refine ⟨iv.scp,iv.scn,iv.sc32,iv.t16,fun t ht=>(iv.thr t ht).mono (Nat.le_refl _) (by show _≤(s.futures.set _ _).length; rw [hl]; exact Nat.le_refl _),fun g hg=>?_,iv.fuel,by show ((s.futures.set i.toNat (f.end_ v k)).length:Int)+_≤_; rw [hl]; exact iv.many,iv.c0,iv.c3,iv.made,iv.sig,iv.sg8,iv.upd,iv.updI,iv.v16,iv.a4⟩
  rcases mem_set hg with hg|hg
  ·exact iv.futs g hg
  ·subst hg; exact iv.futs f (List.mem_of_getElem? hf)
theorem over_inv {p:Prg} {s:VS} (iv:Inv p s):Inv p { s with over:=true }:=⟨iv.scp,iv.scn,iv.sc32,iv.t16,fun t ht=>(iv.thr t ht).mono (Nat.le_refl _) (Nat.le_refl _),iv.futs,iv.fuel,iv.many,iv.c0,iv.c3,iv.made,iv.sig,iv.sg8,iv.upd,iv.updI,iv.v16,iv.a4⟩
theorem apply_inv {p:Prg} (ok:Okp p) {s:VS} (iv:Inv p s) (hx:s.expect=none) {e:Ev}:Inv p (s.apply e).2:=by
 unfold VS.apply
 split
 ·exact iv
 ·split
  ·exact iv
  ·rename_i hr
   have tk:=taken (by simpa using hr)
   have hh:=valid_head tk.valid
   have hid:=tk.id
   have ic:=counted_inv iv hx (by omega)
   show Inv p (s.counted.applied e)
   unfold VS.applied
   split
   ·obtain ⟨f,hf⟩:=get_some (l:=p.funcs) (i:=0) (by have:=ok.n1; omega)
    have hlen:=(ok.len hf).1
    have hn:=iv.scn
    refine ⟨ic.scp,ic.scn,ic.sc32,by show 1≤16; decide,fun t ht=>?_,ic.futs,ic.fuel,ic.many,ic.c0,ic.c3,ic.made,ic.sig,ic.sg8,ic.upd,ic.updI,ic.v16,ic.a4⟩
    have:t=Thr.new 0 0 e.b (-1) 0:=by simpa using ht
    subst this
    exact ⟨⟨f,hf,by show (0:Int)<f.ops.length; omega⟩,Int.le_refl _,Int.le_refl _,Nat.zero_le _,⟨Int.le_refl _,by show (0:Int)<s.scopes.length; omega⟩,⟨Int.le_refl _,by show (-1:Int)<_; omega⟩,Int.le_refl _,by show (-1:Int)<_; omega,by show (-1:Int)<8; decide⟩
   ·split
    ·rename_i h19
     have ha:=valid_19 tk.valid h19
     obtain ⟨l,hl⟩:=get_some (l:=s.counted.signals) (i:=e.a.toNat) (by have:=iv.sg8; show e.a.toNat<s.signals.length; omega)
     have hea:e.a=(e.a.toNat:Int):=by omega
     rw [hea,signal_eq hl]
     refine ⟨ic.scp,ic.scn,ic.sc32,ic.t16,fun t ht=>(ic.thr t ht).mono (Nat.le_refl _) (Nat.le_refl _),ic.futs,ic.fuel,ic.many,ic.c0,ic.c3,ic.made,fun z hz=>?_,by show (s.counted.signals.set _ _).length=8; rw [List.length_set]; exact ic.sg8,ic.upd,ic.updI,ic.v16,ic.a4⟩
     rcases mem_set hz with hz|hz
     ·exact ic.sig z hz
     ·subst hz
      have:=iv.sig l (List.mem_of_getElem? hl)
      rw [List.length_append]
      show ((l.length+1:Nat):Int)≤s.count+1
      omega
    ·split
     ·exact ⟨ic.scp,ic.scn,ic.sc32,ic.t16,fun t ht=>(ic.thr t ht).mono (Nat.le_refl _) (Nat.le_refl _),ic.futs,ic.fuel,ic.many,ic.c0,ic.c3,ic.made,ic.sig,ic.sg8,ic.upd,ic.updI,ic.v16,ic.a4⟩
     ·split
      ·refine ⟨ic.scp,ic.scn,ic.sc32,ic.t16,fun t ht=>(ic.thr t ht).mono (Nat.le_refl _) (Nat.le_refl _),ic.futs,ic.fuel,ic.many,ic.c0,ic.c3,ic.made,ic.sig,ic.sg8,?_,fun u hu=>?_,ic.v16,ic.a4⟩
       ·have:=iv.upd
        show ((s.updates++[e]).length:Int)≤s.count+1
        rw [List.length_append,List.length_singleton]; omega
       ·rcases List.mem_append.1 hu with hu|hu
        ·exact iv.updI u hu
        ·rw [List.mem_singleton] at hu; subst hu; omega
      ·split
       ·exact done_inv ic _ _ _
       ·split
        ·exact done_inv ic _ _ _
        ·split
         ·exact done_inv ic _ _ _
         ·split
          ·exact done_inv ic _ _ _
          ·split
           ·exact done_inv ic _ _ _
           ·split
            ·exact over_inv ic
            ·exact ic
section
variable {p:Prg} {G H:Heap} {m:Nat} {pf po:SlH} {sl:Nat→SlH} {F:Heap} {ex:Value} {st:List SlH} {s:VS}
theorem VMX.addSig (h : VMX G H m pf po sl F ex st s) (pr : HasP (dif F G) pf.A pf.n po.A po.n p) {k : Nat} (hk : k < 8) {l : List Int} (hl : s.signals[k]? = some l) (hlen : l.length ≤ 1000) (x : Int) {K : Heap → Prop} (q : ∀ H', VMP p G H' m pf po ex (s.signal k x) → K H') :
    ∃a8:Addr,((sl 3).A=some a8∧(0:Int)≤(k:Int)∧(k:Int)<((sl 3).n:Int))∧At H (a8.add ((k:Int).toNat*1)) [(sl (6+k)).v]∧appC 2 1 8 H (sl (6+k)).A (sl (6+k)).n (sl (6+k)).c [.int .i64 x] 1 fun A' n' c' H2=>Sub (onlyB m (.cells ⟨mCells pf po sl ex s⟩ 149 (0,0))) H2 ∧
      ∃a9:Addr,((sl 3).A=some a9∧(0:Int)≤(k:Int)∧(k:Int)<((sl 3).n:Int))∧Wr H2 (a9.add ((k:Int).toNat*1)) (.slice A' n' c') fun H3=>Sub (onlyB m (.cells ⟨mCells pf po sl ex s⟩ 149 (0,0))) H3∧K H3:=by
  obtain ⟨a,ha,hat⟩:=h.sig hk
  have hn:=h.sigN hk
  have h3:=h.sigLen
  have hgl:s.signals[k]?.getD []=l:=by rw [hl]; rfl
  have z:szC (6+k)=1:=by unfold szC; rw [if_neg (by omega),if_neg (by omega),if_neg (by omega),if_neg (by omega),if_neg (by omega),if_neg (by omega)]
  have e6:contC sl st s (6+k)=intsC l:=by
    unfold contC
    rw [if_neg (by omega),if_neg (by omega),if_neg (by omega),if_neg (by omega),if_neg (by omega),if_neg (by omega)]
    have:6+k-6=k:=by omega
    rw [this,hgl]
  rw [hgl] at hn
  have hkt:(k:Int).toNat=k:=by omega
  rw [hkt]
  have bd:(sl 3).A=some a∧(0:Int)≤(k:Int)∧(k:Int)<((sl 3).n:Int):=⟨ha,by omega,by omega⟩
  have key : appC 2 (szC (6 + k)) 8 H (sl (6 + k)).A (sl (6 + k)).n (sl (6 + k)).c [.int .i64 x] 1 fun A' n' c' H2 => Sub (onlyB m (.cells ⟨mCells pf po sl ex s⟩ 149 (0, 0))) H2 ∧
      ∃a9:Addr,((sl 3).A=some a9∧(0:Int)≤(k:Int)∧(k:Int)<((sl 3).n:Int))∧Wr H2 (a9.add (k*1)) (.slice A' n' c') fun H3=>Sub (onlyB m (.cells ⟨mCells pf po sl ex s⟩ 149 (0,0))) H3∧K H3 :=
    h.app (c:=6+k) (by omega) (new:=[.int .i64 x]) (k:=1) (by rw [z]; rfl) rfl (by omega) (by omega) fun A' c' H2 v2 rd=>⟨onlyB_sub v2.hm,a,bd,by
      rw [e6] at rd
      have rd2:Ready F H2 m sl ex (6+k) ⟨A',(sl (6+k)).n+1,c'⟩ (intsC (l++[x])):=by rw [intsC_app]; exact rd
      refine v2.setSig hk rd2 ha fun H3 v3=>?_
      have e:mCells pf po (setH sl (6+k) ⟨A',(sl (6+k)).n+1,c'⟩) ex { s with signals:=s.signals.set k (l++[x]) }=mCells pf po sl ex s:=by
        unfold mCells setH
        rw [if_neg (by omega),if_neg (by omega),if_neg (by omega),if_neg (by omega),if_neg (by omega),if_neg (by omega)]
      have hm3:=v3.hm
      rw [e] at hm3
      rw [←signal_eq hl] at v3
      exact ⟨onlyB_sub hm3,q H3 ⟨_,F,st,v3,pr⟩⟩⟩
  rw [z] at key
  exact ⟨a,bd,hat,key⟩
theorem VMX.addUpd (h : VMX G H m pf po sl F ex st s) (e : Ev) (hl : s.updates.length≤1000) {Q : Heap→Prop} (q : ∀H' sl', VMX G H' m pf po sl' F ex st { s with updates := s.updates++[e] }→Q H') :
  ∃(A:Option Addr) (n c:Nat),At H ((⟨m,0,none⟩:Addr).add 28) [.slice A n c]∧appC 47 9 72 H A n c e.cells 1 fun A' n' c' H4=>∃a9:Addr,some (⟨m,0,none⟩:Addr)=some a9∧Wr H4 (a9.add 28) (.slice A' n' c') Q:=by
 have hn:=h.updLen
 refine ⟨_,_,_,h.c28,h.app (c:=4) (by decide) (new:=e.cells) (k:=1) rfl (ev_one e) (by omega) (by omega) fun A' c' H4 h4 r=>⟨_,rfl,?_⟩⟩
 have hs6:∀k,setH sl 4 ⟨A',(sl 4).n+1,c'⟩ (6+k)=sl (6+k):=fun k=>if_neg (by omega)
 refine h4.wrSl (c:=4) (by decide) r (k:=28) (by decide) { s with updates:=s.updates++[e] } st rfl ?_ (fun c2 hc2 hne=>?_) rfl h.vars h.attrs h.sigs h.stl h.stk fun H13 h13=>q _ _ h13
 ·show (s.updates++[e]).flatMap Ev.cells=s.updates.flatMap Ev.cells++e.cells
  rw [List.flatMap_append]; simp
 ·simp only [contC,hs6,if_neg hne]
theorem VMX.firstThr (h : VMX G H m pf po sl F ex st s) (t : Thr) (ht : t.stack=[]) {b : Nat} (hb : H b=none) {H1 : Heap} (e : H1=H.upd b (.cells ⟨thrC (t, ⟨none, 0, 0⟩)⟩ 153 (0, 0))) {Q : Heap→Prop} (q : ∀H' sl' st', VMX G H' m pf po sl' F ex st' { s with threads := [t] }→Q H') :
  Wr H1 (((⟨m,0,none⟩:Addr).add 2).add 21) (.slice (some ⟨b,0,none⟩) 1 1) Q:=by
 have v2:=h.grow (Sub.upd_new (o:=.cells ⟨thrC (t,⟨none,0,0⟩)⟩ 153 (0,0)) hb)
 have fr:=h.free_new (c:=0) hb
 rw [←e] at v2
 have rd:Ready F H1 m sl ex 0 ⟨some ⟨b,0,none⟩,1,1⟩ (thrC (t,⟨none,0,0⟩)) :=
  ⟨⟨rfl,Nat.le_refl _,.inr ⟨b,0,_,_,rfl,by rw [e]; exact Heap.upd_same,Nat.le_refl _,fun j v hv=>by simpa using hv⟩⟩,fun b' hb'=>by
   have:b=b':=by unfold SlH.blk at hb'; simpa using hb'
   subst this
   exact ⟨fr.f,fr.m,fr.sl,fr.x⟩⟩
 have hs6:∀k,setH sl 0 ⟨some ⟨b,0,none⟩,1,1⟩ (6+k)=sl (6+k):=fun k=>if_neg (by omega)
 refine v2.wrSl (c:=0) (by decide) rd (k:=23) (by decide) { s with threads:=[t] } [⟨none,0,0⟩] rfl (List.append_nil _) (fun c2 hc2 hne=>by simp only [contC,hs6,if_neg hne]) rfl h.vars h.attrs h.sigs rfl (fun j u z hu hz=>?_) fun H' v'=>q H' _ _ v'
 have hu:[t][j]?=some u:=hu
 cases j with
 | zero=>simp at hu hz; subst hu; subst hz; rw [ht]; exact HasL.nil _ _
 | succ j=>simp at hu
theorem t64 (okp : Okp p) (h : VMX G H m pf po sl F ex st s) (pr : HasP (dif F G) pf.A pf.n po.A po.n p) (iv : Inv p s) (e : Ev) :
  Tr Tryz.prog 64 #[.pointer (some ⟨m,0,none⟩),e.val] H fun v H'=>v=.int .i64 (s.apply e).1∧VMP p G H' m pf po ex (s.apply e).2:=by
 have hc:=iv.c0
 have hm:=iv.many
 have hfu:=iv.fuel
 have hup:=iv.upd
 have hw:IntKind.i64.wrap (s.count+1)=s.count+1:=wrapi (by omega) (by omega)
 have nf:∀{k:Int},(e.kind==k)=false→¬e.kind=k:=fun e e2=>by rw [e2] at e; simp at e
 have yf:∀{k:Int},(e.kind==k)=true→e.kind=k:=fun e=>by simpa using e
 apply v64; unfold F64
 refine ⟨fun e=>absurd e (by simp),fun _=>⟨_,rfl,_,h.c27,fun ho=>⟨?_,?_⟩,fun ho=>?_⟩⟩
 ·unfold VS.apply; rw [if_pos ho]
 ·unfold VS.apply; rw [if_pos ho]; exact ⟨sl,F,st,h,pr⟩
 have hap:s.apply e=if s.refuses e=true then (54,s) else (0,s.counted.applied e):=by unfold VS.apply; rw [if_neg (by rw [ho]; simp)]; rfl
 have hrf:(!validM e||e.id != IntKind.i64.wrap (s.count+1)||!outsideM e||!(e.kind==1)==(s.count==0))=s.refuses e:=by rw [hw,bne_not]; rfl
 refine ⟨_,t109 e H,_,fun _=>rfl,s.count,fun _=>h.c30,_,fun _=>t69 e H,_,fun _=>rfl,s.count,fun _=>h.c30,?_⟩
 rw [hrf]
 refine ⟨fun hr=>⟨?_,?_⟩,fun hr=>⟨_,rfl,s.count,h.c30,_,rfl,?_⟩⟩
 ·rw [hap,if_pos hr]
 ·rw [hap,if_pos hr]; exact ⟨sl,F,st,h,pr⟩
 rw [hw]
 rw [if_neg (by rw [hr]; simp)] at hap
 rw [hap]
 have tk:=taken hr
 refine h.wr (k:=30) (by decide) s.counted rfl rfl rfl rfl rfl rfl rfl rfl h.vars h.attrs fun H1 v1=>?_
 have dn:∀(v k:Int),s.counted.applied e=s.counted.setDone (s.counted.future e.a) v k→∃x:Int,(Tr Tryz.prog 111 #[.pointer (some ⟨m,0,none⟩),.int .i64 e.a] H1 fun v2 H7=>v2=.int .i64 x∧Sub H1 H7)∧Tr Tryz.prog 110 #[.pointer (some ⟨m,0,none⟩),.int .i64 x,.int .i64 v,.int .i64 k] H1 fun v3 H8=>v3=.tuple #[]∧Value.int .i64 0=.int .i64 0∧VMP p G H8 m pf po ex (s.counted.applied e):=fun v k he=>by
  have hlt:s.counted.future e.a<s.counted.futures.length:=by
   unfold VS.future
   split
   ·rename_i j hj
    obtain ⟨i,hi,hi2⟩:=scan_ex hj
    unfold VS.futHit at hi2
    split at hi2
    ·split at hi2
     ·cases hi2; omega
     ·cases hi2
    ·cases hi2
   ·omega
  refine ⟨_,t111 v1 (by show s.futures.length≤1000000; omega) e.a,(t110 v1 _ v k hlt).mono fun x H8 ⟨hx,v8⟩=>⟨hx,rfl,sl,F,st,?_,pr⟩⟩
  rw [he]; exact v8
 have ov:s.counted.applied e={ s.counted with over:=true }→Wr H1 (((⟨m,0,none⟩:Addr).add 2).add 25) (.bool true) fun H'=>Value.int .i64 0=.int .i64 0∧VMP p G H' m pf po ex (s.counted.applied e):=fun he=>by
  refine v1.wr (k:=27) (by decide) { s.counted with over:=true } rfl rfl rfl rfl rfl rfl rfl rfl h.vars h.attrs fun H2 v2=>⟨rfl,sl,F,st,?_,pr⟩
  rw [he]; exact v2
 refine ⟨fun e1 b hb H2 e2=>⟨_,rfl,?_⟩,fun e1=>⟨fun e19=>?_,fun e19=>⟨fun e20=>⟨_,rfl,?_⟩,fun e20=>⟨fun e21=>⟨_,rfl,?_⟩,fun e21=>⟨fun e22=>dn _ _ ?_,fun e22=>⟨fun e23=>dn _ _ ?_,fun e23=>⟨fun e27=>dn _ _ ?_,fun e27=>⟨fun e24=>dn _ _ ?_,fun e24=>⟨fun e25=>dn _ _ ?_,fun e25=>⟨fun e28=>dn _ _ ?_,fun e28=>⟨fun e16=>⟨_,rfl,ov ?_⟩,fun e16=>⟨fun e30=>⟨_,rfl,ov ?_⟩,fun e30=>⟨fun e31=>⟨_,rfl,ov ?_⟩,fun e31=>⟨rfl,sl,F,st,?_,pr⟩⟩⟩⟩⟩⟩⟩⟩⟩⟩⟩⟩⟩⟩
 ·have he:s.counted.applied e={ s.counted with threads:=[Thr.new 0 0 e.b (-1) 0] }:=by unfold VS.applied; rw [if_pos (yf e1)]
  rw [he]
  exact v1.firstThr (Thr.new 0 0 e.b (-1) 0) rfl hb e2 fun H3 sl3 st3 v3=>⟨rfl,sl3,F,st3,v3,pr⟩
 ·have h19:=yf e19
  have he:s.counted.applied e=s.counted.signal e.a e.b:=by unfold VS.applied; rw [if_neg (nf e1),if_pos h19]
  have ha:=valid_19 tk.valid h19
  obtain ⟨l,hl⟩:=get_some (l:=s.counted.signals) (i:=e.a.toNat) (by have:=iv.sg8; show e.a.toNat<s.signals.length; omega)
  have hsl:=iv.sig l (List.mem_of_getElem? hl)
  have hea:e.a=(e.a.toNat:Int):=by omega
  rw [he,hea]
  obtain ⟨a8,b8,at8,key⟩:=v1.addSig pr (k:=e.a.toNat) (by omega) hl (by omega) e.b (K:=fun H'=>Value.int .i64 0=.int .i64 0∧VMP p G H' m pf po ex (s.counted.signal (e.a.toNat:Int) e.b)) fun H' w=>⟨rfl,w⟩
  have s0:=onlyB_sub v1.hm
  have c0:At (onlyB m (.cells ⟨mCells pf po sl ex s.counted⟩ 149 (0,0))) (((⟨m,0,none⟩:Addr).add 2).add 24) [(sl 3).v]:=at_cells (k:=26) onlyB_at rfl
  exact ⟨_,s0,_,rfl,_,rfl,_,_,_,c0,⟨_,_,_,v1.c26,s0,a8,b8,⟨_,_,_,at8,s0,s0,key⟩,s0,_,_,_,at8,s0,key⟩,s0,_,_,_,v1.c26,s0,a8,b8,_,_,_,at8,s0,key⟩
 ·have he:s.counted.applied e={ s.counted with cancel:=true }:=by unfold VS.applied; rw [if_neg (nf e1),if_neg (nf e19),if_pos (yf e20)]
  refine v1.wr (k:=29) (by decide) { s.counted with cancel:=true } rfl rfl rfl rfl rfl rfl rfl rfl h.vars h.attrs fun H2 v2=>⟨rfl,sl,F,st,?_,pr⟩
  rw [he]; exact v2
 ·have he:s.counted.applied e={ s.counted with updates:=s.counted.updates++[e] }:=by unfold VS.applied; rw [if_neg (nf e1),if_neg (nf e19),if_neg (nf e20),if_pos (yf e21)]
  have key:=v1.addUpd e (by show s.updates.length≤1000; omega) (Q:=fun H'=>Value.int .i64 0=.int .i64 0∧VMP p G H' m pf po ex (s.counted.applied e)) fun H' sl' v'=>⟨rfl,sl',F,st,by rw [he]; exact v',pr⟩
  exact ⟨key,key⟩
 ·unfold VS.applied; rw [if_neg (nf e1),if_neg (nf e19),if_neg (nf e20),if_neg (nf e21),if_pos (yf e22)]
 ·unfold VS.applied; rw [if_neg (nf e1),if_neg (nf e19),if_neg (nf e20),if_neg (nf e21),if_neg (nf e22),if_pos (.inl (yf e23))]
 ·unfold VS.applied; rw [if_neg (nf e1),if_neg (nf e19),if_neg (nf e20),if_neg (nf e21),if_neg (nf e22),if_pos (.inr (yf e27))]
 ·unfold VS.applied; rw [if_neg (nf e1),if_neg (nf e19),if_neg (nf e20),if_neg (nf e21),if_neg (nf e22),if_neg (by rintro (q|q); exact nf e23 q; exact nf e27 q),if_pos (yf e24)]
 ·unfold VS.applied; rw [if_neg (nf e1),if_neg (nf e19),if_neg (nf e20),if_neg (nf e21),if_neg (nf e22),if_neg (by rintro (q|q); exact nf e23 q; exact nf e27 q),if_neg (nf e24),if_pos (yf e25)]
 ·unfold VS.applied; rw [if_neg (nf e1),if_neg (nf e19),if_neg (nf e20),if_neg (nf e21),if_neg (nf e22),if_neg (by rintro (q|q); exact nf e23 q; exact nf e27 q),if_neg (nf e24),if_neg (nf e25),if_pos (yf e28)]
 ·unfold VS.applied; rw [if_neg (nf e1),if_neg (nf e19),if_neg (nf e20),if_neg (nf e21),if_neg (nf e22),if_neg (by rintro (q|q); exact nf e23 q; exact nf e27 q),if_neg (nf e24),if_neg (nf e25),if_neg (nf e28),if_pos (.inl (yf e16))]
 ·unfold VS.applied; rw [if_neg (nf e1),if_neg (nf e19),if_neg (nf e20),if_neg (nf e21),if_neg (nf e22),if_neg (by rintro (q|q); exact nf e23 q; exact nf e27 q),if_neg (nf e24),if_neg (nf e25),if_neg (nf e28),if_pos (.inr (.inl (yf e30)))]
 ·unfold VS.applied; rw [if_neg (nf e1),if_neg (nf e19),if_neg (nf e20),if_neg (nf e21),if_neg (nf e22),if_neg (by rintro (q|q); exact nf e23 q; exact nf e27 q),if_neg (nf e24),if_neg (nf e25),if_neg (nf e28),if_pos (.inr (.inr (yf e31)))]
 ·have he : s.counted.applied e=s.counted := by
   unfold VS.applied; rw [if_neg (nf e1),if_neg (nf e19),if_neg (nf e20),if_neg (nf e21),if_neg (nf e22),if_neg (by rintro (q|q); exact nf e23 q; exact nf e27 q),if_neg (nf e24),if_neg (nf e25),if_neg (nf e28),if_neg (by rintro (q|q|q); exact nf e16 q; exact nf e30 q; exact nf e31 q)]
  rw [he]; exact v1
end
end Go.Proofs.YtkofafcgcnciaaaGreatDoor
set_option maxRecDepth 100000
namespace Go.Proofs.YtkofafcgcnciaaaGreatDoor
open Go.Ax Go.RowKit
theorem keeps_new {H:Heap} {w:World} (h:Holds H w) (o:Obj):Keeps H w (H.upd w.heap.size o) (w.alloc o):=by
 refine ⟨fun b o' e=>?_,fun b hb e=>?_,by simp,rfl,rfl,rfl⟩
 ·by_cases hb:b=w.heap.size
  ·subst hb; rw [Heap.upd_same] at e; injection e with e; subst e; exact heap_alloc_new w _
  ·rw [Heap.upd_other hb] at e
   exact (Below.heap_alloc w _ b (heap_lt (h b o' e))).trans (h b o' e)
 ·exact ⟨Below.heap_alloc w _ b hb,by rw [Heap.upd_other (by omega)]; exact e⟩
theorem none_size {H:Heap} {w:World} (h:Holds H w):H w.heap.size=none:=by
 cases hh:H w.heap.size with
 | none=>rfl
 | some o'=>have:=heap_lt (h _ _ hh); omega
theorem sm_make {T e : TypeId} {sz by_ : Nat} (hu : Tryz.prog.underlying T=some (.slice e)) (hi : ((Tryz.prog.info? e).map fun i => (i.size, i.bytes, i.zero.isSome))=some (sz, by_, true)) (n : Nat) (hn : by_*n≤281474976710656) (hn2 : n≤9223372036854775807) (H : Heap) :
  Sm Tryz.prog (Instr.makeSlice T (.int .i64 n) (.int .i64 n)) H (fun v H'=>∃b z,(Tryz.prog.info? e).bind (·.zero)=some z∧v=.slice (some ⟨b,0,none⟩) n n∧H b=none∧H'=H.upd b (.cells (madeCells z.cells (n*sz)) e (0,0))):=by
 refine ⟨fun w hw=>?_⟩
 cases hq:Tryz.prog.info? e with
 | none=>rw [hq] at hi; cases hi
 | some i =>
  rw [hq] at hi
  simp only [Option.map_some,Option.some.injEq,Prod.mk.injEq] at hi
  obtain ⟨h1,h2,h3⟩:=hi
  obtain ⟨z,hz⟩:=Option.isSome_iff_exists.1 h3
  have hb:(i.bytes:Int)*(n:Int)≤281474976710656:=by
   have:((i.bytes*n:Nat):Int)≤281474976710656:=by rw [h2]; omega
   rwa [Int.natCast_mul] at this
  have hr:=run_make (P:=Tryz.prog) w T e i z hu hq hz .i64 .i64 n n (by omega) (Int.le_refl _) hb (by omega)
  simp only [Int.toNat_natCast] at hr
  rw [h1] at hr
  exact ⟨_,_,_,hr,keeps_new hw _,w.heap.size,z,by simp [hz],rfl,none_size hw,rfl⟩
theorem sm_table (H:Heap):Sm Tryz.prog (Instr.makeSlice 73 (.int .i64 8) (.int .i64 8)) H fun v H'=>∃b,v=.slice (some ⟨b,0,none⟩) 8 8∧H b=none∧H'=H.upd b (.cells ⟨List.replicate 8 (.slice none 0 0)⟩ 134 (0,0)):=by
 have hu:Tryz.prog.underlying 73=some (.slice 134):=by kernel_rfl
 have hi:((Tryz.prog.info? 134).map fun i=>(i.size,i.bytes,i.zero.isSome))=some (1,24,true):=by kernel_rfl
 have hz:(Tryz.prog.info? 134).bind (·.zero)=some (.slice none 0 0):=by kernel_rfl
 refine (sm_make hu hi 8 (by decide) (by decide) H).mono fun v H' ⟨b,z,h1,h2,h3,h4⟩=>⟨b,h2,h3,?_⟩
 rw [hz] at h1
 cases h1
 have e:madeCells (Value.slice none 0 0).cells (8*1)=⟨List.replicate 8 (.slice none 0 0)⟩:=by kernel_rfl
 rw [h4,e]
theorem _root_.Go.Ax.OwnS.out {X F H1:Heap} {A:Option Addr} {n c sz:Nat} {cs:List Value} (o:OwnS F H1 A n c sz cs) (h:Sub X F):Src (dif H1 X) A cs:=by
 rcases o.src with e|⟨a,ha,hat⟩
 ·exact .inl e
 ·rcases o.at_ with ⟨a1,a2,a3⟩|⟨b,cur,T,a1,a2,a3,a4,a5⟩
  ·rw [a1] at ha; cases ha
  ·refine .inr ⟨_,a1,⟨⟨cur,T,(0,0),dif_at a3 (none_below h a2),rfl,fun j v hv=>by simpa using a5 j v hv⟩⟩⟩
theorem src_out {X F B1:Heap} {B:Option Addr} {cs:List Value} (h:Src F B cs) (k:∀r,(B1 r).isSome=true→Src (Ax.del F r) B cs) (hx:Sub X B1):Src (dif F X) B cs:=by
 by_cases h0:cs=[]
 ·exact .inl h0
 rcases h with e|⟨a,ha,hat⟩
 ·exact .inl e
 ·right
  refine ⟨a,ha,?_⟩
  obtain ⟨cur,T,fz,a2,a3,a4⟩:=hat.out
  refine ⟨⟨cur,T,fz,?_,a3,a4⟩⟩
  cases hX:X a.block with
  | none=>exact dif_at a2 hX
  | some o =>
   rcases k a.block (by rw [hx.sub _ _ hX]; rfl) with e|⟨a',ha',hat'⟩
   ·exact absurd e h0
   ·rw [ha] at ha'; cases ha'
    obtain ⟨cur',T',fz',b2,-⟩:=hat'.out
    unfold Ax.del at b2
    rw [if_pos rfl] at b2; cases b2
theorem _root_.Go.Ax.HasOps.more {F F' X:Heap} {A:Option Addr} {n:Nat} {l:List (Int×Int)} (h:HasOps (dif F X) A n l) (k:Sub F F'):HasOps (dif F' X) A n l:=h.sub (dif_more k)
theorem t108 {H : Heap} {fA oA : Option Addr} {fn fc on oc : Nat} {p : Prg} (h : HasP H fA fn oA on p) (z : p.Sz) :
  Tr Tryz.prog 108 #[.agg #[.slice fA fn fc,.slice oA on oc]] H (fun v H'=>∃A n c A1 n1 c1,v=.agg #[.slice A n c,.slice A1 n1 c1]∧HasP (dif H' H) A n A1 n1 p∧Sub H H'):=by
 have hl:=h.fns.len; have hb:=h.fns.big; have hol:=h.opts.len; have hob:=h.opts.big
 have z1:=z.fns; have z2:=z.opts
 apply v108; unfold F108
 refine ⟨⟨p.opts.flatMap O.cells,h.opts.src,by rw [flat_size (cells:=O.cells) (sz:=11) (fun _=>rfl),hol],own_app (OwnS.nil H 11) (by rw [flat_size (cells:=O.cells) (sz:=11) (fun _=>rfl),hol]) (cells_one_o _) (show (0+on)*88≤140737488355328 by omega) (by omega) fun A' c' H' o'=>?_⟩⟩
 have hopts:HasOpts (dif H' H) A' (0+on) p.opts:=hasOpts_of (by simpa using o'.out (Sub.refl _)) (by omega) (by omega)
 refine ⟨fun x A n c H1=>∃(k:Nat) (hs:List FnH) (F:Heap),x=k∧k≤fn∧n=k∧Sub H' F∧OwnS F H1 A n c 3 (hs.flatMap fnC)∧hs.map (·.1)=p.funcs.take k∧∀z∈hs,HasOps (dif F H) z.2.1 z.2.2.1 z.1.ops,fun x _ _ _ _=>((fn:Int)-x).toNat,
  ⟨0,[],H',rfl,by omega,rfl,Sub.refl _,OwnS.nil H' 3,rfl,by simp⟩,?_⟩
 rintro x A n c H1 ⟨k,hs,F,rfl,hk,rfl,hF,o1,e1,hops⟩
 have s1:Sub H H1:=o'.sub.trans (hF.trans o1.sub)
 refine ⟨fun hlt=>?_,fun hge=>?_⟩
 ·have hlt:(n:Int)<fn:=of_decide_eq_true hlt
  obtain ⟨f,hf⟩:=get_some (l:=p.funcs) (i:=n) (by omega)
  obtain ⟨a,B,m,d,ha,hat0,ho0⟩:=h.fns.at_ n f hf
  have hat:=hat0.sub s1
  have ho:=ho0.sub s1
  have hm:=ho.len; have zm:=z.ops f (List.mem_of_getElem? hf)
  refine ⟨a,⟨ha,by omega,hlt⟩,_,_,_,_,_,hat,?_⟩
  refine ⟨⟨f.ops.flatMap opC,ho.src,by rw [flat_size (cells:=opC) (sz:=2) (fun _=>rfl),hm],own_app (OwnS.nil H1 2) (by rw [flat_size (cells:=opC) (sz:=2) (fun _=>rfl),hm]) (cells_one_op _) (show (0+m)*16≤140737488355328 by omega) (by omega) fun A2 c2 H2 o2=>?_⟩⟩
  obtain ⟨F2,f1,f2,f3,f4⟩:=o1.absorb o2
  refine own_app f2 rfl rfl (show (n+1)*40≤140737488355328 by omega) (by omega) fun A3 c3 H3 o3=>?_
  rw [wrapi (x:=(n:Int)+1) (by omega) (by omega)]
  refine ⟨⟨n+1,hs++[(f,A2,0+m,c2)],F2,by omega,by omega,rfl,hF.trans f1,by rw [List.flatMap_append]; exact o3,?_,fun z hz=>?_⟩,by show ((fn:Int)-((n:Int)+1)).toNat<((fn:Int)-(n:Int)).toNat; omega⟩
  ·rw [List.map_append,e1,List.take_add_one,hf]; rfl
  ·rcases List.mem_append.1 hz with hz|hz
   ·exact (hops z hz).more f1
   ·simp at hz; subst hz
    exact hasOps_of (by simpa using src_out f3 f4 s1) (by simp only; omega) (by simp only; omega)
 ·have hge:¬(n:Int)<fn:=of_decide_eq_false hge
  refine ⟨_,_,_,_,_,_,rfl,⟨?_,hopts.sub (dif_more (hF.trans o1.sub))⟩,s1⟩
  rw [List.take_of_length_le (by omega)] at e1
  rw [←e1]
  refine hasFns_of (o1.out (o'.sub.trans hF)) ?_ (by omega) fun z hz=>(hops z hz).more o1.sub
  have:=congrArg List.length e1
  rw [List.length_map] at this; omega
theorem _root_.Go.Ax.Okp.sz {p:Prg} (ok:Okp p):p.Sz:=by
 have h2:=ok.n2
 have h3:=ok.n3
 refine ⟨by omega,by omega,fun f hf=>?_⟩
 obtain ⟨i,hi,e⟩:=List.mem_iff_getElem.1 hf
 have:=(ok.len (i:=i) (f:=f) (by rw [List.getElem?_eq_getElem hi,e])).2
 omega
theorem init_inv (p:Prg):Inv p VS.init:=by
 refine ⟨fun i c h=>?_,by decide,by decide,by decide,fun t h=>(by cases h),fun f h=>(by cases h),by decide,by decide,by decide,fun l h=>(by cases h),by decide,fun l hl=>?_,rfl,by decide,fun u h=>(by cases h),rfl,rfl⟩
 ·have hi:=get_lt h
  have:i=0:=by
   have e:(VS.init.scopes).length=1:=rfl
   omega
  subst this
  cases h
  show (-1:Int)<0; decide
 ·have:l=[]:=List.eq_of_mem_replicate hl
  subst this
  show ((0:Nat):Int)≤0
  decide
theorem t63 {H : Heap} {fA oA : Option Addr} {fn fc on oc : Nat} {p : Prg} (h : HasP H fA fn oA on p) :
  Tr Tryz.prog 63 #[.agg #[.slice fA fn fc,.slice oA on oc]] H (fun v H'=>(p.check.1≠0∧v=.tuple #[.pointer none,.int .i64 p.check.1]∧Sub H H')∨(Okp p∧∃m pf po,v=.tuple #[.pointer (some ⟨m,0,none⟩),.int .i64 0]∧Sub H H'∧VMP p H H' m pf po .nilFunc VS.init)):=by
 apply v63; unfold F63
 refine ⟨_,_,_,t107 h,fun e=>.inl ⟨by simpa using e,rfl,Sub.refl _⟩,fun e=>?_⟩
 obtain ⟨e1,ok⟩:=check_ok (p:=p) (by simpa using e)
 refine (t108 h ok.sz).mono fun v H1 ⟨A,n,c,A1,n1,c1,hv,hp,s1⟩=>⟨A,n,c,A1,n1,c1,hv,fun b hb H2 e2 b1 hb1 H3 e3=>?_⟩
 have hne:b1≠b:=fun q=>by rw [q,e2,Heap.upd_same] at hb1; cases hb1
 have hb1':H1 b1=none:=by rw [e2,Heap.upd_other hne] at hb1; exact hb1
 have m2:H2=H1.upd b (.cells ⟨mCells ⟨A,n,c⟩ ⟨A1,n1,c1⟩ (fun _=>⟨none,0,0⟩) .nilFunc VS.init⟩ 149 (0,0)):=e2
 refine ⟨_,rfl,?_⟩
 refine wr_cells (cs:=mCells ⟨A,n,c⟩ ⟨A1,n1,c1⟩ (fun _=>⟨none,0,0⟩) .nilFunc VS.init) (T:=149) (m:=b) (k:=25) (by rw [e3,Heap.upd_other hne.symm,m2]; exact Heap.upd_same) (by rw [mCells_len]; decide) ?_
 refine (sm_table _).mono fun v2 H5 ⟨b2,hv2,hb2,e5⟩=>⟨_,_,_,hv2,_,rfl,?_⟩
 have hne2:b2≠b:=fun q=>by rw [q,Heap.upd_same] at hb2; cases hb2
 have hb2':H3 b2=none:=by rw [Heap.upd_other hne2] at hb2; exact hb2
 have hne3:b2≠b1:=fun q=>by rw [q,e3,Heap.upd_same] at hb2'; cases hb2'
 have hb2'':H1 b2=none:=by rw [e3,Heap.upd_other hne3,m2,Heap.upd_other hne2] at hb2'; exact hb2'
 let sl:Nat→SlH:=fun i=>if i=2 then ⟨some ⟨b1,0,none⟩,1,1⟩ else if i=3 then ⟨some ⟨b2,0,none⟩,8,8⟩ else ⟨none,0,0⟩
 refine wr_cells (m:=b) (k:=26) (by rw [e5,Heap.upd_other hne2.symm]; exact Heap.upd_same) (by rw [List.length_set,mCells_len]; decide) ?_
 have ec:((mCells ⟨A,n,c⟩ ⟨A1,n1,c1⟩ (fun _=>⟨none,0,0⟩) .nilFunc VS.init).set 25 (.slice (some ⟨b1,0,none⟩) 1 1)).set 26 (.slice (some ⟨b2,0,none⟩) 8 8)=mCells ⟨A,n,c⟩ ⟨A1,n1,c1⟩ sl .nilFunc VS.init:=rfl
 rw [ec]
 generalize hH6:H5.upd b (.cells ⟨mCells ⟨A,n,c⟩ ⟨A1,n1,c1⟩ sl .nilFunc VS.init⟩ 149 (0,0))=H6
 have g0:H6 b=some (.cells ⟨mCells ⟨A,n,c⟩ ⟨A1,n1,c1⟩ sl .nilFunc VS.init⟩ 149 (0,0)):=by rw [←hH6]; exact Heap.upd_same
 have g1:H6 b1=some (.cells #[.int .i64 (-1),.bool false] 199 (0,0)):=by rw [←hH6,Heap.upd_other hne,e5,Heap.upd_other hne3.symm,Heap.upd_other hne,e3]; exact Heap.upd_same
 have g2:H6 b2=some (.cells ⟨List.replicate 8 (.slice none 0 0)⟩ 134 (0,0)):=by rw [←hH6,Heap.upd_other hne2,e5]; exact Heap.upd_same
 have gs:Sub H1 H6:=⟨fun i o hi=>by
  have i0:i≠b:=fun q=>by subst q; rw [hb] at hi; cases hi
  have i1:i≠b1:=fun q=>by subst q; rw [hb1'] at hi; cases hi
  have i2:i≠b2:=fun q=>by subst q; rw [hb2''] at hi; cases hi
  rw [←hH6,Heap.upd_other i0,e5,Heap.upd_other i2,Heap.upd_other i0,e3,Heap.upd_other i1,m2,Heap.upd_other i0]; exact hi⟩
 have blk:∀c b',(sl c).blk=some b'→(c=2∧b'=b1)∨(c=3∧b'=b2):=fun c b' hb'=>by
  by_cases h2:c=2
  ·subst h2; have:some b1=some b':=hb'; cases this; exact .inl ⟨rfl,rfl⟩
  ·by_cases h3:c=3
   ·subst h3; have:some b2=some b':=hb'; cases this; exact .inr ⟨rfl,rfl⟩
   ·have:sl c=⟨none,0,0⟩:=by show (if c=2 then _ else if c=3 then _ else _)=_; rw [if_neg h2,if_neg h3]
    rw [this] at hb'; cases hb'
 refine .inr ⟨ok,b,⟨A,n,c⟩,⟨A1,n1,c1⟩,rfl,s1.trans gs,sl,H1,[],⟨s1,gs,hb,g0,fun c hc b' hb'=>?_,fun c c' b' hc hc' h1 h2=>?_,fun c hc=>?_,rfl,fun j t q h1=>(by cases h1),rfl,rfl,rfl,fun _=>rfl,fun l hl=>(by cases hl)⟩,hp⟩
 ·rcases blk c b' hb' with ⟨-,rfl⟩|⟨-,rfl⟩
  ·exact ⟨hb1',hne⟩
  ·exact ⟨hb2'',hne2⟩
 ·rcases blk c b' h1 with ⟨rfl,rfl⟩|⟨rfl,rfl⟩
  ·rcases blk c' _ h2 with ⟨rfl,-⟩|⟨rfl,e⟩
   ·rfl
   ·exact absurd e.symm hne3
  ·rcases blk c' _ h2 with ⟨rfl,e⟩|⟨rfl,-⟩
   ·exact absurd e hne3
   ·rfl
 ·by_cases h2:c=2
  ·subst h2
   have hc2:contC sl [] VS.init 2=[.int .i64 (-1),.bool false]:=rfl
   rw [hc2]
   exact ⟨rfl,Nat.le_refl _,.inr ⟨b1,0,_,_,rfl,g1,by show 0+1*2≤2; decide,fun j v hv=>by simpa using hv⟩⟩
  ·by_cases h3:c=3
   ·subst h3
    have hc3:contC sl [] VS.init 3=List.replicate 8 (.slice none 0 0):=rfl
    rw [hc3]
    exact ⟨rfl,Nat.le_refl _,.inr ⟨b2,0,_,_,rfl,g2,by show 0+8*1≤8; decide,fun j v hv=>by simpa using hv⟩⟩
   ·have e0:sl c=⟨none,0,0⟩:=by show (if c=2 then _ else if c=3 then _ else _)=_; rw [if_neg h2,if_neg h3]
    have e1:contC sl [] VS.init c=[]:=by
     unfold contC
     rw [if_neg h2,if_neg h3]
     have:c=0∨c=1∨c=4∨c=5∨6≤c:=by omega
     rcases this with rfl|rfl|rfl|rfl|h6
     ·rfl
     ·rfl
     ·rfl
     ·rfl
     ·rw [if_neg (by omega),if_neg (by omega),if_neg (by omega),if_neg (by omega)]
      have:VS.init.signals[c-6]?.getD []=[]:=by
       show (List.replicate 8 ([]:List Int))[c-6]?.getD []=[]
       rw [List.getElem?_replicate]; split<;>rfl
      rw [this]; rfl
    rw [e0,e1]
    exact ⟨by simp,Nat.le_refl _,.inl ⟨rfl,rfl,rfl⟩⟩
theorem evs_one:∀l:List Ev,allOne (l.flatMap Ev.cells)=true
 | []=>rfl
 | x::l=>by rw [List.flatMap_cons]; exact evs_one l
theorem taskE_ok {s:VS} {now:Int} (h:s.taskE now=0):s.over=false∧s.count≠0∧s.count≤254∧0≤now∧now≤1099511627776:=by
 unfold VS.taskE at h
 split at h
 ·split at h<;>cases h
 ·rename_i h1
  split at h
  ·cases h
  ·rename_i h2
   split at h
   ·cases h
   ·rename_i h3
    split at h
    ·cases h
    ·rename_i h4
     simp at h1 h2 h3 h4
     exact ⟨h2,h3,h4,by omega,by omega⟩
def VS.ready_ (s:VS) (draw:Int):VS:={ s with draws:=IntKind.u64.wrap draw,expect:=none }
theorem ready_inv {p:Prg} {s:VS} (iv:Inv p s) (draw:Int):Inv p (s.ready_ draw) :=
 ⟨iv.scp,iv.scn,iv.sc32,iv.t16,fun t ht=>(iv.thr t ht).mono (Nat.le_refl _) (Nat.le_refl _),iv.futs,iv.fuel,iv.many,iv.c0,fun l hl=>(by cases hl),iv.made,iv.sig,iv.sg8,iv.upd,iv.updI,iv.v16,iv.a4⟩
theorem Task_eq (s:VS) (p:Prg) (now draw:Int):s.Task p now draw=if s.taskE now≠0 then (([],s.taskE now),s) else ((((s.ready_ draw).task p now).made,0),(s.ready_ draw).task p now):=rfl
theorem ready_tasks {s:VS} {now:Int} (h:s.taskE now=0) (draw:Int):Tasks (s.ready_ draw):=by
 obtain ⟨h1,h2,h3,-⟩:=taskE_ok h
 exact ⟨h1,by show s.count≤255; omega,fun _=>h3,fun l hl=>by cases hl⟩
theorem Task_inv {p:Prg} (ok:Okp p) {s:VS} (iv:Inv p s) (now draw:Int):Inv p (s.Task p now draw).2:=by
 rw [Task_eq]
 split
 ·exact iv
 ·rename_i h
  have tk:=ready_tasks (Decidable.not_not.1 h) draw
  have h0:=begin_inv (ready_inv iv draw) tk now
  exact ((task_steps ok (ready_inv iv draw) tk now).inv h0.1 h0.2).1
section
variable {p:Prg} {G H:Heap} {m:Nat} {pf po:SlH} {sl:Nat→SlH} {F:Heap} {ex:Value} {st:List SlH} {s:VS}
theorem VMX.exNil (h:VMX G H m pf po sl F ex st s) (hx:s.expect=none):ex=.nilFunc:=h.exp.none_ hx
end
theorem FStep.calmX {p:Prg} {b:Bool} {s s':VS} (k:FStep p b s s') (ih:s.expect=none):s'.expect=none:=by
 have k0:∀(s:VS) (e:Ev),s.expect=none→(s.emit0 e).2.expect=none:=fun s e h=>by
  unfold VS.emit0; rw [h]; exact h
 have kF:∀(s:VS) (c:Int),s.expect=none→(s.fails c).expect=none:=fun s c h=>k0 s _ h
 cases k with
 | emit e ho hc =>
  unfold VS.emit; split
  ·exact kF _ _ ih
  ·exact k0 _ _ ih
 | fails c ho=>exact kF _ _ ih
 | done i v k=>rcases setDone_cases _ i v k with e|⟨f,_,_,_,e⟩<;>rw [e]<;>exact ih
 | mark i=>rcases mark_cases _ i with e|⟨c,hc,e⟩<;>rw [e]<;>exact ih
 | _=>exact ih
theorem task_expect {p:Prg} {b:Bool} {s s':VS} (q:FSteps p b s s') (hx:s.expect=none):s'.expect=none:=by
 induction q with
 | refl=>exact hx
 | tail _ k _ ih=>exact k.calmX ih
 | two _ k1 k2 _ ih=>exact k2.calmX (k1.calmX ih)
theorem Task_expect {p:Prg} (ok:Okp p) {s:VS} (iv:Inv p s) (hx:s.expect=none) (now draw:Int):(s.Task p now draw).2.expect=none:=by
 rw [Task_eq]
 split
 ·exact hx
 ·rename_i h
  exact task_expect (task_steps ok (ready_inv iv draw) (ready_tasks (Decidable.not_not.1 h) draw) now) rfl
section
variable {G0 F0 G H:Heap} {m:Nat} {pf po:SlH} {sl:Nat→SlH} {F:Heap} {ex:Value} {st:List SlH} {s:VS}
theorem VMX.copyIn (h : VMX G H m pf po sl F ex st s) {q : SlH} {sz : Nat} {cs : List Value} (d : Side G0 F0 G F q sz cs) {e : TypeId} {sz2 bytes : Nat} {B : Option Addr} {new : List Value} {k : Nat} (hs : Src H B new) (hk : new.length=k*sz2) (h1 : allOne new=true) (hb : (0+k)*bytes≤140737488355328) (hl : 0+k≤9223372036854775807)
  {K:Option Addr→Nat→Nat→Heap→Prop} (r:∀A' c' G0' F0' G' F' H',VMX G' H' m pf po sl F' ex st s→Side G0' F0' G' F' q sz cs→Sub G0 G0'→Sub F0 F0'→Sub (dif F0 G0) (dif F0' G0')→SlOk G0' ⟨A',0+k,c'⟩ sz2 new→K A' (0+k) c' H'):appS e sz2 bytes H none 0 0 B k K:=by
 refine ⟨⟨new,hs,hk,⟨⟨[],.inl rfl,by simp,hk,h1,hb,hl,fun hcap=>.inl ?_,fun hcap b cap rest hbn hle hr=>?_⟩⟩⟩⟩
 ·have k0:k=0:=by omega
  subst k0
  have hn:new=[]:=List.length_eq_zero_iff.1 (by omega)
  subst hn
  exact ⟨rfl,r _ _ _ _ _ _ _ h d (Sub.refl _) (Sub.refl _) (Sub.refl _) ⟨by simp,Nat.le_refl _,.inl ⟨rfl,rfl,rfl⟩⟩⟩
 ·have gh:Sub G H:=h.gf.trans h.fh
  have hG:=none_below gh hbn
  have hF:=none_below h.fh hbn
  have hF0:=none_below d.f hF
  have hG0:=none_below d.gf hF0
  have up:∀{X Y:Heap} (o:Obj),Sub X Y→Sub (X.upd b o) (Y.upd b o):=fun o k=>⟨fun i x hx=>by
   by_cases e:i=b
   ·subst e; rw [Heap.upd_same] at hx ⊢; exact hx
   ·rw [Heap.upd_other e] at hx ⊢; exact k.sub i x hx⟩
  have nb:∀b',q.blk=some b'→b'≠b:=fun b' hb' e=>by
   rcases d.sl.at_ with ⟨a1,_⟩|⟨b2,off,cur,T,a1,a2,_⟩
   ·unfold SlH.blk at hb'; rw [a1] at hb'; cases hb'
   ·unfold SlH.blk at hb'; rw [a1] at hb'; cases hb'
    have e:b2=b:=e
    rw [e,hG] at a2; cases a2
  refine r _ _ _ _ _ _ _ (h.ext hbn (.cells ⟨[]++new++rest⟩ e (0,0))) ⟨up _ d.g,up _ d.f,up _ d.gf,⟨fun i o hi=>?_⟩,d.sl.mono fun b' hb'=>Heap.upd_other (nb b' hb'),fun b' hb'=>by rw [Heap.upd_other (nb b' hb')]; exact d.free b' hb'⟩ (Sub.upd_new hG0) (Sub.upd_new hF0) (dif_ext hF0 _) ⟨by rw [hk]; show _=(0+k)*sz2; rw [Nat.zero_add],hle,.inr ⟨b,0,_,e,rfl,Heap.upd_same,?_,fun j v hv=>?_⟩⟩
  ·have e' : i≠b := fun e => by
    subst e
    unfold dif at hi
    rw [Heap.upd_same] at hi
    simp at hi
   unfold dif at hi
   rw [Heap.upd_other e',Heap.upd_other e'] at hi
   have:=d.d.sub i o (by unfold dif; exact hi)
   unfold dif at this ⊢
   rw [Heap.upd_other e',Heap.upd_other e']; exact this
  ·simp only [List.nil_append,List.size_toArray,List.length_append,hk,hr,Nat.zero_add]
   rw [←Nat.add_mul]
   have:k+(cap-k)=cap:=by omega
   rw [this]; exact Nat.le_refl _
  ·have hj:=get_lt hv
   simp only [List.nil_append,List.getElem?_toArray,Nat.zero_add]
   rw [List.getElem?_append_left hj]; exact hv
theorem VMX.anew (h:VMX G H m pf po sl F ex st s) (sz:Nat):Side G F G F ⟨none,0,0⟩ sz []:=Side.nil h.gf sz
end
structure LookAt (G:Heap) (s:VS) (tA fA cA gA:Option Addr) (tn fn cn gn:Nat):Prop where
 thr:∃ths:List (Thr×SlH),ths.map (·.1)=(if s.over=true then [] else s.threads)∧tn=ths.length∧Src G tA (ths.flatMap thrC)∧∀z∈ths,HasL G z.2 z.1.stack
 fut:fn=s.futures.length∧Src G fA (s.futures.flatMap futC)
 scp:cn=s.scopes.length∧Src G cA (s.scopes.flatMap scpC)
 sig:gn=s.signals.length∧∃hs:List SlH,hs.length=s.signals.length∧Src G gA (hs.map SlH.v)∧∀(k:Nat) (h:SlH) (l:List Int),hs[k]?=some h→s.signals[k]?=some l→HasL G h l
def lookV (s:VS) (t f c g:Value):Value:=.agg ⟨cellsV 16 s.vars++cellsV 4 s.attrs++[.int .i64 s.now,t,f,c,g,.bool s.over]⟩
theorem futs_one:∀l:List Fut,allOne (l.flatMap futC)=true
 | []=>rfl
 | x::l=>by rw [List.flatMap_cons]; exact futs_one l
theorem scps_one:∀l:List Scp,allOne (l.flatMap scpC)=true
 | []=>rfl
 | x::l=>by rw [List.flatMap_cons]; exact scps_one l
section
variable {p:Prg} {G H:Heap} {m:Nat} {pf po:SlH} {sl:Nat→SlH} {F:Heap} {ex:Value} {st:List SlH} {s:VS}
structure RLkT (G F:Heap) (m:Nat) (pf po:SlH) (sl:Nat→SlH) (ex:Value) (st:List SlH) (s:VS) (x:Int) (A:Option Addr) (n c:Nat) (H1:Heap):Prop where
 out:∃(k:Nat) (G0 F0 G1 F1:Heap) (ths:List (Thr×SlH)),x=k∧k≤s.threads.length∧(k≠0→s.over=false)∧VMX G1 H1 m pf po sl F1 ex st s∧Side G0 F0 G1 F1 ⟨A,n,c⟩ 9 (ths.flatMap thrC)∧Sub G G0∧Sub (dif F G) (dif F0 G0)∧ths.map (·.1)=s.threads.take k∧∀z∈ths,HasL G0 z.2 z.1.stack
structure RLkS (G F:Heap) (m:Nat) (pf po:SlH) (sl:Nat→SlH) (ex:Value) (st:List SlH) (s:VS) (x:Int) (A:Option Addr) (n c:Nat) (H1:Heap):Prop where
 out:∃(k:Nat) (G0 F0 G1 F1:Heap) (hs:List SlH),x=k∧k≤8∧hs.length=k∧VMX G1 H1 m pf po sl F1 ex st s∧Side G0 F0 G1 F1 ⟨A,n,c⟩ 1 (hs.map SlH.v)∧Sub G G0∧Sub (dif F G) (dif F0 G0)∧∀(k:Nat) (h:SlH) (l:List Int),hs[k]?=some h→s.signals[k]?=some l→HasL G0 h l
def LookP (m:Nat) (H:Heap) (K:Option Addr→Nat→Nat→Option Addr→Nat→Nat→Option Addr→Nat→Nat→Heap→Prop):Prop :=
 ∃a8:Addr,some (⟨m,0,none⟩:Addr)=some a8∧∃(A12:Option Addr) (n12 c12:Nat),At H ((a8.add 2).add 22) [.slice A12 n12 c12]∧appS 81 6 48 H none 0 0 A12 n12 fun fA fn fc H1 =>
  ∃a9:Addr,some (⟨m,0,none⟩:Addr)=some a9∧∃(A13:Option Addr) (n13 c13:Nat),At H1 ((a9.add 2).add 23) [.slice A13 n13 c13]∧appS 199 2 16 H1 none 0 0 A13 n13 fun cA cn cc H2 =>
   ∃a10:Addr,some (⟨m,0,none⟩:Addr)=some a10∧∃(A14:Option Addr) (n14 c14:Nat),At H2 ((a10.add 2).add 24) [.slice A14 n14 c14] ∧
    ∃(Rel:Int→Option Addr→Nat→Nat→Heap→Prop) (mu:Int→Option Addr→Nat→Nat→Heap→Nat),Rel 0 none 0 0 H2∧∀(x:Int) (A15:Option Addr) (n15 c15:Nat) (H3:Heap),Rel x A15 n15 c15 H3 →
     (decide (x<(n14:Int))=true→∃a11:Addr,(A14=some a11∧(0:Int)≤x∧x<(n14:Int))∧∃(A16:Option Addr) (n16 c16:Nat),At H3 (a11.add (x.toNat*1)) [.slice A16 n16 c16] ∧
      (appS 2 1 8 H3 none 0 0 A16 n16 fun A' n' c' H4=>appC 134 1 24 H4 A15 n15 c15 [.slice A' n' c'] 1 fun A2 n2 c2 H5=>Rel (IntKind.i64.wrap (x+1)) A2 n2 c2 H5∧mu (IntKind.i64.wrap (x+1)) A2 n2 c2 H5<mu x A15 n15 c15 H3) ∧
      appS 2 1 8 H3 none 0 0 A16 n16 fun A' n' c' H4=>(appC 134 1 24 H4 A15 n15 c15 [.slice A' n' c'] 1 fun A2 n2 c2 H5=>Rel (IntKind.i64.wrap (x+1)) A2 n2 c2 H5∧mu (IntKind.i64.wrap (x+1)) A2 n2 c2 H5<mu x A15 n15 c15 H3) ∧
       appC 134 1 24 H4 A15 n15 c15 [.slice A' n' c'] 1 fun A2 n2 c2 H5=>Rel (IntKind.i64.wrap (x+1)) A2 n2 c2 H5∧mu (IntKind.i64.wrap (x+1)) A2 n2 c2 H5<mu x A15 n15 c15 H3) ∧
     (decide (x<(n14:Int))=false→K fA fn fc cA cn cc A15 n15 c15 H3)
theorem VMX.lookP (h : VMX G H m pf po sl F ex st s) (iv : Inv p s) {K : Option Addr → Nat → Nat → Option Addr → Nat → Nat → Option Addr → Nat → Nat → Heap → Prop}
    (q:∀fA fn fc cA cn cc gA gn gc G' F' H',VMX G' H' m pf po sl F' ex st s→Sub G G'→Sub (dif F G) (dif F' G')→fn=s.futures.length→Src G' fA (s.futures.flatMap futC)→cn=s.scopes.length→Src G' cA (s.scopes.flatMap scpC) →
      (gn=s.signals.length∧∃hs:List SlH,hs.length=s.signals.length∧Src G' gA (hs.map SlH.v)∧∀(k:Nat) (h:SlH) (l:List Int),hs[k]?=some h→s.signals[k]?=some l→HasL G' h l)→K fA fn fc cA cn cc gA gn gc H'):LookP m H K:=by
  have hm:=iv.many
  have hc:=iv.c0
  have hf:=iv.fuel
  have h32:=iv.sc32
  have hfl:=h.futLen
  have hsl:=h.scpLen
  have okf:=h.ok 1 (by decide)
  refine ⟨_,rfl,_,_,_,h.c24,⟨⟨_,okf.src,okf.len,?_⟩⟩⟩
  refine h.side (h.anew 6) (k:=(sl 1).n) okf.len (futs_one _) (by show (0+(sl 1).n)*48≤_; omega) (by show 0+(sl 1).n≤_; omega) fun A1 c1 G1 F1 H1 h1 d1=>?_
  have oks:=h1.ok 2 (by decide)
  refine ⟨_,rfl,_,_,_,h1.c25,⟨⟨_,oks.src,oks.len,?_⟩⟩⟩
  refine h1.side (h1.anew 2) (k:=(sl 2).n) oks.len (scps_one _) (by show (0+(sl 2).n)*16≤_; omega) (by show 0+(sl 2).n≤_; omega) fun A2 c2 G2 F2 H2 h2 d2=>?_
  refine ⟨_,rfl,_,_,_,h2.c26,RLkS G2 F2 m pf po sl ex st s,fun x _ _ _ _=>(8-x).toNat,⟨0,G2,F2,G2,F2,[],rfl,Nat.zero_le _,rfl,h2,h2.anew 1,Sub.refl _,Sub.refl _,fun k h l e=>by cases e⟩,fun x A n c H3 r=>?_⟩
  obtain ⟨k,G0,F0,G3,F3,hs,rfl,hk,hlen,h3,d3,g0,dd,hst⟩:=r.out
  have h8:=h3.sigLen
  have hdl:=d3.sl.len
  rw [List.length_map,hlen,Nat.mul_one] at hdl
  have hdl:k=n:=hdl
  subst hdl
  have hw:IntKind.i64.wrap ((k:Int)+1)=((k+1:Nat):Int):=by rw [wrapi (by omega) (by omega)]; rfl
  refine ⟨fun hlt=>?_,fun hge=>?_⟩
  · have hlt:(k:Int)<((sl 3).n:Int):=of_decide_eq_true hlt
    have hk8:k<8:=by omega
    obtain ⟨a,ha,hat⟩:=h3.sig hk8
    have oki:=h3.sigOk hk8
    have hn:=h3.sigN hk8
    obtain ⟨l,hl⟩:=get_some (l:=s.signals) (i:=k) (by rw [iv.sg8]; exact hk8)
    have hgl:s.signals[k]?.getD []=l:=by rw [hl]; rfl
    rw [hgl] at oki hn
    have hsig:=iv.sig l (List.mem_of_getElem? hl)
    rw [hw]
    have step : ∀ (A' : Option Addr) (c' : Nat) (G4 F4 G5 F5 : Heap) (H5 : Heap), VMX G5 H5 m pf po sl F5 ex st s → Side G4 F4 G5 F5 ⟨A, k, c⟩ 1 (hs.map SlH.v) → Sub G0 G4 → Sub (dif F0 G0) (dif F4 G4) → SlOk G4 ⟨A', 0 + (sl (6 + k)).n, c'⟩ 1 (intsC l) →
        appC 134 1 24 H5 A k c [.slice A' (0+(sl (6+k)).n) c'] 1 fun A2 n2 c2 H6=>RLkS G2 F2 m pf po sl ex st s ((k+1:Nat):Int) A2 n2 c2 H6∧(8-((k+1:Nat):Int)).toNat<(8-(k:Int)).toNat:=fun A' c' G4 F4 G5 F5 H5 h5 d5 g4 dd4 so=>by
      refine h5.side d5 (new:=[.slice A' (0+(sl (6+k)).n) c']) (k:=1) rfl rfl (by show (k+1)*24≤_; omega) (by show k+1≤_; omega) fun A2 c2 G6 F6 H6 h6 d6=>⟨⟨k+1,G4,F4,G6,F6,hs++[⟨A',0+(sl (6+k)).n,c'⟩],rfl,by omega,by simp [hlen],h6,by rw [List.map_append]; exact d6,g0.trans g4,dd.trans dd4,fun j q l' hj hl'=>?_⟩,by omega⟩
      by_cases hjk:j<k
      · rw [List.getElem?_append_left (by omega)] at hj
        exact (hst j q l' hj hl').sub g4
      · have hjl:=get_lt hj
        rw [List.length_append,List.length_singleton] at hjl
        have:j=k:=by omega
        subst this
        rw [List.getElem?_append_right (by omega),hlen,Nat.sub_self] at hj
        rw [hl] at hl'
        cases hj; cases hl'
        exact so.has
    have hlc:(intsC l).length=(sl (6+k)).n*1:=oki.len
    refine ⟨a,⟨ha,by omega,hlt⟩,_,_,_,hat,?_,?_⟩
    · exact h3.copyIn d3 oki.src hlc (intsC_one l) (by omega) (by omega) fun A' c' G4 F4 G5 F5 H5 h5 d5 g4 f4 dd4 so=>step A' c' G4 F4 G5 F5 H5 h5 d5 g4 dd4 so
    · exact h3.copyIn d3 oki.src hlc (intsC_one l) (by omega) (by omega) fun A' c' G4 F4 G5 F5 H5 h5 d5 g4 f4 dd4 so=>⟨step A' c' G4 F4 G5 F5 H5 h5 d5 g4 dd4 so,step A' c' G4 F4 G5 F5 H5 h5 d5 g4 dd4 so⟩
  · have hge:¬(k:Int)<((sl 3).n:Int):=of_decide_eq_false hge
    have hk8:k=8:=by omega
    have s2:Sub G2 G3:=g0.trans d3.g
    exact q _ _ _ _ _ _ _ _ _ _ _ _ h3 (d1.g.trans (d2.g.trans s2)) (d1.d.trans (d2.d.trans (dd.trans d3.d))) (by show 0+(sl 1).n=_; omega) (src_sub d1.sl.src (d2.g.trans s2)) (by show 0+(sl 2).n=_; omega) (src_sub d2.sl.src s2)
      ⟨by rw [iv.sg8]; exact hk8,hs,by rw [iv.sg8,hlen]; exact hk8,d3.sl.src,fun j q l a b=>(hst j q l a b).sub d3.g⟩
structure LookR (p:Prg) (G:Heap) (m:Nat) (pf po:SlH) (ex:Value) (s:VS) (v:Value) (H':Heap):Prop where
 out:∃tA tn tc fA fn fc cA cn cc gA gn gc G',v=lookV s (.slice tA tn tc) (.slice fA fn fc) (.slice cA cn cc) (.slice gA gn gc)∧Sub G G'∧LookAt G' s tA fA cA gA tn fn cn gn∧VMP p G' H' m pf po ex s
theorem VMX.look (h:VMX G H m pf po sl F ex st s):At H ((⟨m,0,none⟩:Addr).add 2) (cellsV 16 s.vars++cellsV 4 s.attrs++[.int .i64 s.now,(sl 0).v,(sl 1).v,(sl 2).v,(sl 3).v,.bool s.over]):=by
 have:At H (⟨m,0,none⟩:Addr) (mCells pf po sl ex s):=⟨⟨_,_,_,h.hm,rfl,fun j v hv=>by simpa using hv⟩⟩
 exact at_take 26 (at_drop 2 this)
theorem t24 (h : VMX G H m pf po sl F ex st s) (pr : HasP (dif F G) pf.A pf.n po.A po.n p) (iv : Inv p s) :
  Tr Tryz.prog 24 #[.pointer (some ⟨m,0,none⟩)] H fun v H'=>LookR p G m pf po ex s v H':=by
 have h16:=iv.t16
 have hn:=h.thrLen
 apply v24; unfold F24
 refine ⟨fun e=>absurd e (by simp),fun _=>⟨_,rfl,_,_,_,_,_,_,_,_,_,_,_,_,_,_,_,_,_,_,_,_,_,_,_,_,_,_,_,_,_,_,_,_,_,s.over,h.look,_,rfl,_,_,_,h.c23,RLkT G F m pf po sl ex st s,fun x _ _ _ _=>((s.threads.length:Int)-x).toNat,⟨0,G,F,G,F,[],rfl,Nat.zero_le _,fun e=>absurd rfl e,h,h.anew 9,Sub.refl _,Sub.refl _,rfl,fun z hz=>by cases hz⟩,fun x A n c H1 r=>?_⟩⟩
 obtain ⟨k,G0,F0,G1,F1,ths,rfl,hk,hov,h1,d1,g0,dd,hth,hst⟩:=r.out
 have hw:IntKind.i64.wrap ((k:Int)+1)=((k+1:Nat):Int):=by rw [wrapi (by omega) (by omega)]; rfl
 have hlen:ths.length=k:=by
  have:=congrArg List.length hth
  rw [List.length_map,List.length_take] at this; omega
 have hdl:=d1.sl.len
 rw [flat_size (cells:=thrC) (sz:=9) (fun _=>rfl),hlen] at hdl
 have hdl:k*9=n*9:=hdl
 have hkn:k=n:=by omega
 subst hkn
 have fin:(if s.over=true then [] else s.threads)=s.threads.take k→∀{K:Value→Heap→Prop},(∀v H',LookR p G m pf po ex s v H'→K v H')→LookP m H1 fun fA fn fc cA cn cc gA gn gc H'=>K (lookV s (.slice A k c) (.slice fA fn fc) (.slice cA cn cc) (.slice gA gn gc)) H':=fun e K kk =>
  h1.lookP iv fun fA fn fc cA cn cc gA gn gc G2 F2 H2 h2 g2 dd2 e1 s1 e2 s2 sg=>kk _ _ ⟨A,k,c,fA,fn,fc,cA,cn,cc,gA,gn,gc,G2,rfl,g0.trans (d1.g.trans g2),⟨⟨ths,by rw [hth,e],hlen.symm,src_sub d1.sl.src g2,fun z hz=>(hst z hz).sub (d1.g.trans g2)⟩,⟨e1,s1⟩,⟨e2,s2⟩,sg⟩,sl,F2,st,h2,pr.sub (dd.trans (d1.d.trans dd2))⟩
 refine ⟨fun hlt=>?_,fun hge=>?_⟩
 ·have hlt:(k:Int)<((sl 0).n:Int):=of_decide_eq_true hlt
  obtain ⟨t,ht⟩:=get_some (l:=s.threads) (i:=k) (by omega)
  obtain ⟨a,q,ha,hq,hqs,hat⟩:=h1.thr ht
  have hT:=iv.thr t (List.mem_of_getElem? ht)
  have hql:=hqs.len
  have hstk:=hT.stack
  refine ⟨a,⟨ha,by omega,hlt⟩,_,_,_,_,_,_,_,_,_,_,_,hat,_,rfl,s.over,h1.c27,fun ho=>?_,fun ho=>?_⟩
  ·have hk0 : k=0 := by
    by_cases h0:k=0
    ·exact h0
    ·rw [hov h0] at ho; cases ho
   exact fin (by rw [if_pos ho,hk0]; rfl) fun v H' r=>r
  ·rw [hw]
   refine h1.copyIn d1 (src_sub hqs.src (dif_sub.trans h1.fh)) (by unfold intsC; rw [List.length_map,hql,Nat.mul_one]) (intsC_one _) (by show (0+q.n)*8≤_; omega) (by show 0+q.n≤_; omega) fun A' c' G2 F2 G3 F3 H3 h3 d3 g3 f3 dd3 so=>?_
   refine h3.side d3 (new:=thrC (t,⟨A',0+q.n,c'⟩)) (k:=1) rfl rfl (by show (k+1)*88≤_; omega) (by show k+1≤_; omega) fun A2 c2 G4 F4 H4 h4 d4=>⟨⟨k+1,G2,F2,G4,F4,ths++[(t,⟨A',0+q.n,c'⟩)],rfl,by omega,fun _=>ho,h4,by rw [List.flatMap_append,List.flatMap_singleton]; exact d4,g0.trans g3,dd.trans dd3,?_,fun z hz=>?_⟩,?_⟩
   ·rw [List.map_append,hth,List.take_add_one,ht]; rfl
   ·rcases List.mem_append.1 hz with hz|hz
    ·exact (hst z hz).sub g3
    ·rw [List.mem_singleton] at hz; subst hz; exact so.has
   ·show ((s.threads.length:Int)-((k+1:Nat):Int)).toNat<((s.threads.length:Int)-(k:Int)).toNat; omega
 ·have hge:¬(k:Int)<((sl 0).n:Int):=of_decide_eq_false hge
  have hkl:k=s.threads.length:=by omega
  refine fin ?_ fun v H' r=>r
  cases ho:s.over with
  | false=>rw [if_neg (by simp),hkl,List.take_length]
  | true =>
   rw [if_pos rfl]
   have:k=0:=by
    by_cases h0:k=0
    ·exact h0
    ·rw [hov h0] at ho; cases ho
   rw [this]; rfl
end
structure Hand (G0 G:Heap) (q:SlH) (sz:Nat) (cs:List Value):Prop where
 g:Sub G0 G
 sl:SlOk G q sz cs
 free:∀b,q.blk=some b→G0 b=none
theorem Hand.nil {G0 G:Heap} (g:Sub G0 G) (sz:Nat):Hand G0 G ⟨none,0,0⟩ sz []:=⟨g,⟨by simp,Nat.le_refl _,.inl ⟨rfl,rfl,rfl⟩⟩,fun b hb=>by cases hb⟩
theorem Hand.sub {G0 G G':Heap} {q:SlH} {sz:Nat} {cs:List Value} (h:Hand G0 G q sz cs) (k:Sub G G'):Hand G0 G' q sz cs:=⟨h.g.trans k,h.sl.sub k,h.free⟩
theorem Hand.len {G0 G:Heap} {q:SlH} {l:List Ev} (h:Hand G0 G q 9 (l.flatMap Ev.cells)):q.n=l.length:=by
 have:=h.sl.len
 rw [flat_size (cells:=Ev.cells) (sz:=9) (fun _=>rfl)] at this
 omega
section
variable {p:Prg} {G0 G H:Heap} {m:Nat} {pf po:SlH} {sl:Nat→SlH} {F:Heap} {ex:Value} {st:List SlH} {s:VS} {q:SlH} {sz:Nat} {cs:List Value}
theorem VMP.gh (w:VMP p G H m pf po ex s):Sub G H:=by
 obtain ⟨sl,F,st,h,pr⟩:=w.out
 exact h.gf.trans h.fh
theorem hand_evs {G:Heap} {l:List Ev} (h:SlOk G q 9 (l.flatMap Ev.cells)):HasEvs G q.A q.n l :=
 ⟨by have:=h.len; rw [flat_size (cells:=Ev.cells) (sz:=9) (fun _=>rfl)] at this; omega,fun i x hx=>src_elem (cells:=Ev.cells) (sz:=9) (fun _=>rfl) (by decide) h.src i x hx⟩
end
end Go.Proofs.YtkofafcgcnciaaaGreatDoor
set_option maxRecDepth 100000
namespace Go.Ax
theorem SlOk.blk_some {H:Heap} {h:SlH} {sz:Nat} {cs:List Value} (k:SlOk H h sz cs) {i:Nat} (hi:h.blk=some i):(H i).isSome=true:=by
 rcases k.at_ with a|⟨b',off,cur,T,a1,a2,_⟩
 ·unfold SlH.blk at hi; rw [a.1] at hi; cases hi
 ·unfold SlH.blk at hi; rw [a1] at hi; cases hi; rw [a2]; rfl
end Go.Ax
namespace Go.Proofs.YtkofafcgcnciaaaGreatDoor
open Go.Ax
def rCells (sl:Nat→SlH) (R:RS):List Value :=
 [.int .i64 R.number,.int .i64 R.type,.int .i64 R.status,.string R.id,.int .i64 R.begun,.int .i64 R.ended,.int .i64 R.deadline,.int .i64 R.parent,.int .i64 R.event,.int .i64 R.seen,.int .i64 R.value]++cellsV 4 R.attrs++[(sl 0).v,(sl 1).v,(sl 2).v,(sl 3).v,(sl 4).v]
def szR (c:Nat):Nat:=if c=0 then 9 else if c=1 then 10 else if c=2 then 2 else if c=3 then 5 else 4
def contR (R:RS) (c:Nat):List Value:=if c=0 then R.events.flatMap Ev.cells else if c=1 then R.acts.flatMap AcM.cells else if c=2 then R.timers.flatMap TmM.cells else if c=3 then R.kids.flatMap KdM.cells else R.updates.flatMap UpM.cells
structure RunX (G H:Heap) (b:Nat) (sl:Nat→SlH) (R:RS):Prop where
 gh:Sub G H
 gb:G b=none
 hb:H b=some (.cells ⟨rCells sl R⟩ 34 (0,0))
 own:∀c,c<5→∀i,(sl c).blk=some i→G i=none∧i≠b
 inj:∀c c' i,c<5→c'<5→(sl c).blk=some i→(sl c').blk=some i→c=c'
 ok:∀c,c<5→SlOk H (sl c) (szR c) (contR R c)
 attrs:R.attrs.length=4
section
variable {G G' H H':Heap} {b:Nat} {sl:Nat→SlH} {R:RS}
theorem RunX.frame (h:RunX G H b sl R) (gh:Sub G' H') (fn:∀i,G i=none→(H i).isSome=true→(i=b∨∃c,c<5∧(sl c).blk=some i)→G' i=none∧H' i=H i):RunX G' H' b sl R:=by
 have hm:=fn b h.gb (by rw [h.hb]; rfl) (.inl rfl)
 have slb:∀c,c<5→∀i,(sl c).blk=some i→G' i=none∧H' i=H i:=fun c hc i hi=>fn i (h.own c hc i hi).1 ((h.ok c hc).blk_some hi) (.inr ⟨c,hc,hi⟩)
 exact ⟨gh,hm.1,by rw [hm.2]; exact h.hb,fun c hc i hi=>⟨(slb c hc i hi).1,(h.own c hc i hi).2⟩,h.inj,fun c hc=>(h.ok c hc).mono fun i hi=>(slb c hc i hi).2,h.attrs⟩
theorem up_sub {X Y:Heap} (k:Sub X Y) (i:Nat) (y:Obj):Sub (X.upd i y) (Y.upd i y):=⟨fun j x hx=>by
 by_cases e:j=i
 ·subst e; rw [Heap.upd_same] at hx ⊢; exact hx
 ·rw [Heap.upd_other e] at hx ⊢; exact k.sub j x hx⟩
theorem RunX.turn (h:RunX G H b sl R) {i:Nat} {o:Obj} (hi:G i=some o) (y:Obj):RunX (G.upd i y) (H.upd i y) b sl R :=
 h.frame (up_sub h.gh i y) fun j hn _ _=>by
  have hne:j≠i:=fun e=>by subst e; rw [hi] at hn; cases hn
  exact ⟨by rw [Heap.upd_other hne]; exact hn,Heap.upd_other hne⟩
theorem RunX.ext (h:RunX G H b sl R) {i:Nat} (hi:H i=none) (o:Obj):RunX (G.upd i o) (H.upd i o) b sl R :=
 h.frame (up_sub h.gh i o) fun j hn hs _=>by
  have hne:j≠i:=fun e=>by subst e; rw [hi] at hs; cases hs
  exact ⟨by rw [Heap.upd_other hne]; exact hn,Heap.upd_other hne⟩
theorem RunX.weaken (h:RunX G H b sl R) {G0:Heap} (k:Sub G0 G):RunX G0 H b sl R:=h.frame (k.trans h.gh) fun _ hn _ _=>⟨none_below k hn,rfl⟩
theorem RunX.grow (h:RunX G H b sl R) (k:Sub H H'):RunX G H' b sl R:=h.frame (h.gh.trans k) fun _ hn hs _=>⟨hn,by
 obtain ⟨o,ho⟩:=Option.isSome_iff_exists.1 hs
 rw [ho,k.sub _ _ ho]⟩
theorem RunX.know (h:RunX G H b sl R) (gh:Sub G' H) (n:∀i,(G' i).isSome=true→(G i).isSome=true∨(i≠b∧∀c,c<5→(sl c).blk≠some i)):RunX G' H b sl R :=
 h.frame gh fun j hn hs hj=>⟨by
  cases e:G' j with
  | none=>rfl
  | some o =>
   rcases n j (by rw [e]; rfl) with q|⟨q1,q2⟩
   ·rw [hn] at q; cases q
   ·rcases hj with rfl|⟨c,hc,hb⟩
    ·exact absurd rfl q1
    ·exact absurd hb (q2 c hc),rfl⟩
theorem RunX.at (h:RunX G H b sl R):At H ⟨b,0,none⟩ (rCells sl R):=⟨⟨_,_,_,h.hb,rfl,fun j v hv=>by simpa using hv⟩⟩
theorem RunX.cell (h:RunX G H b sl R) {k:Nat} {v:Value} (hv:(rCells sl R)[k]?=some v):At H ((⟨b,0,none⟩:Addr).add k) [v]:=by
 refine ⟨⟨_,_,_,by rw [add_block]; exact h.hb,add_spot _ _,fun j u hj=>?_⟩⟩
 rw [add_off]
 cases j with
 | succ j=>simp at hj
 | zero=>simp at hj; subst hj; simpa using hv
theorem rCells_len:(rCells sl R).length=20:=rfl
theorem RunX.wr (h : RunX G H b sl R) {k : Nat} (hk : k<20) {v : Value} (R' : RS) (e : (rCells sl R).set k v=rCells sl R') (ec : ∀c, contR R' c=contR R c) (ea : R'.attrs.length=4)
  {Q:Heap→Prop} (q:∀H',RunX G H' b sl R'→Q H'):Wr H ((⟨b,0,none⟩:Addr).add k) v Q:=by
 refine wr_cells h.hb (by rw [rCells_len]; exact hk) (q _ ?_)
 rw [e]
 refine ⟨⟨fun i o ho=>?_⟩,h.gb,Heap.upd_same,h.own,h.inj,fun c hc=>?_,ea⟩
 ·rw [Heap.upd_other (fun e=>by subst e; rw [h.gb] at ho; cases ho)]; exact h.gh.sub _ _ ho
 ·rw [ec]; exact (h.ok c hc).mono fun i hi=>Heap.upd_other (h.own c hc i hi).2
structure RReady (G H:Heap) (b:Nat) (sl:Nat→SlH) (c:Nat) (hn:SlH) (cs:List Value):Prop where
 ok:SlOk H hn (szR c) cs
 free:∀i,hn.blk=some i→G i=none∧i≠b∧∀c',c'<5→(sl c').blk=some i→c'=c
theorem RunX.wrSl (h : RunX G H b sl R) {c : Nat} (hc : c<5) {hn : SlH} {cs : List Value} (r : RReady G H b sl c hn cs) {k : Nat} (hk : k<20) (R' : RS) (e : (rCells sl R).set k hn.v=rCells (setH sl c hn) R')
  (e0:contR R' c=cs) (ec:∀c',c'<5→c'≠c→contR R' c'=contR R c') (ea:R'.attrs.length=4) {Q:Heap→Prop} (q:∀H',RunX G H' b (setH sl c hn) R'→Q H'):Wr H ((⟨b,0,none⟩:Addr).add k) hn.v Q:=by
 have get:∀c',setH sl c hn c'=if c'=c then hn else sl c':=fun _=>rfl
 refine wr_cells h.hb (by rw [rCells_len]; exact hk) (q _ ?_)
 rw [e]
 refine ⟨⟨fun i o ho=>?_⟩,h.gb,Heap.upd_same,fun c' hc' i hi=>?_,fun c1 c2 i hc1 hc2 h1 h2=>?_,fun c' hc'=>?_,ea⟩
 ·rw [Heap.upd_other (fun e=>by subst e; rw [h.gb] at ho; cases ho)]; exact h.gh.sub _ _ ho
 ·rw [get] at hi
  split at hi
  ·exact ⟨(r.free i hi).1,(r.free i hi).2.1⟩
  ·exact h.own c' hc' i hi
 ·rw [get] at h1 h2
  split at h1
  ·rename_i q1
   split at h2
   ·rename_i q2; rw [q1,q2]
   ·rw [q1]; exact ((r.free i h1).2.2 c2 hc2 h2).symm
  ·split at h2
   ·rename_i q2; rw [q2]; exact (r.free i h2).2.2 c1 hc1 h1
   ·exact h.inj c1 c2 i hc1 hc2 h1 h2
 ·by_cases hcc:c'=c
  ·subst hcc
   rw [e0,get,if_pos rfl]
   exact r.ok.mono fun i hi=>Heap.upd_other (r.free i hi).2.1
  ·rw [ec c' hc' hcc,get,if_neg hcc]
   exact (h.ok c' hc').mono fun i hi=>Heap.upd_other (h.own c' hc' i hi).2
theorem RunX.own_free (h:RunX G H b sl R) {c i:Nat} (hc:c<5) (hi:(sl c).blk=some i):G i=none∧i≠b∧∀c',c'<5→(sl c').blk=some i→c'=c:=⟨(h.own c hc i hi).1,(h.own c hc i hi).2,fun c' hc' q=>h.inj c' c i hc' hc q hi⟩
theorem RunX.new_free (h:RunX G H b sl R) {c i:Nat} (hi:H i=none):G i=none∧i≠b∧∀c',c'<5→(sl c').blk=some i→c'=c :=
 ⟨none_below h.gh hi,fun e=>(by subst e; rw [h.hb] at hi; cases hi),fun c' hc' hb'=>by have:=(h.ok c' hc').blk_some hb'; rw [hi] at this; cases this⟩
theorem RunX.app (h : RunX G H b sl R) {c : Nat} (hc : c<5) {e : TypeId} {bytes : Nat} {new : List Value} {k : Nat} (hk : new.length=k*szR c) (h1 : allOne new=true) (hb : ((sl c).n+k)*bytes≤140737488355328) (hl : (sl c).n+k≤9223372036854775807)
  {K:Option Addr→Nat→Nat→Heap→Prop} (q:∀A' c' H',RunX G H' b sl R→RReady G H' b sl c ⟨A',(sl c).n+k,c'⟩ (contR R c++new)→K A' ((sl c).n+k) c' H') :
  appC e (szR c) bytes H (sl c).A (sl c).n (sl c).c new k K:=by
 have ok:=h.ok c hc
 refine ⟨⟨contR R c,ok.src,ok.len,hk,h1,hb,hl,fun hcap=>?_,fun hcap i cap rest hbn hle hr=>?_⟩⟩
 ·rcases ok.at_ with ⟨a1,a2,a3⟩|⟨i,off,cur,T,a1,a2,a3,a4⟩
  ·left
   have k0:k=0:=by omega
   subst k0
   have hn:new=[]:=List.length_eq_zero_iff.1 (by omega)
   subst hn
   refine ⟨rfl,q _ _ _ h ⟨⟨by rw [List.append_nil]; simpa using ok.len,hcap,.inl ⟨a1,by simp only; omega,a3⟩⟩,fun i hi=>?_⟩⟩
   unfold SlH.blk at hi; simp only at hi; rw [a1] at hi; cases hi
  ·right
   have hsz:(off+(sl c).n*szR c)+new.length≤cur.size:=by
    have:((sl c).n+k)*szR c≤(sl c).c*szR c:=Nat.mul_le_mul_right _ hcap
    rw [Nat.add_mul] at this
    omega
   have hblk:(sl c).blk=some i:=by unfold SlH.blk; rw [a1]; rfl
   have fr:=h.own_free hc hblk
   have hlen:=ok.len
   have old:∀j v,(contR R c)[j]?=some v→(splice cur (off+(sl c).n*szR c) new)[off+j]?=some v:=fun j v hv=>by
    rw [splice_get hsz,if_pos (by have:=get_lt hv; omega)]; exact a4 j v hv
   refine ⟨⟨i,off,none⟩,cur,T,a1,rfl,a2,hsz,q _ _ _ ?_ ⟨⟨?_,hcap,.inr ⟨i,off,_,T,a1,Heap.upd_same,?_,fun j v hv=>?_⟩⟩,fun b' hb'=>?_⟩⟩
   ·refine ⟨⟨fun i' o ho=>?_⟩,h.gb,by rw [Heap.upd_other (fun e=>fr.2.1 e.symm)]; exact h.hb,h.own,h.inj,fun c' hc'=>?_,h.attrs⟩
    ·rw [Heap.upd_other (fun e=>by subst e; rw [fr.1] at ho; cases ho)]; exact h.gh.sub _ _ ho
    ·by_cases hcc:c'=c
     ·subst hcc
      exact ⟨ok.len,ok.cap,.inr ⟨i,off,_,T,a1,Heap.upd_same,by rw [splice_size hsz]; exact a3,old⟩⟩
     ·exact (h.ok c' hc').mono fun b' hb'=>Heap.upd_other fun e=>by subst e; exact hcc (fr.2.2 c' hc' hb')
   ·rw [List.length_append,hlen,hk,Nat.add_mul]
   ·rw [splice_size hsz]; exact a3
   ·by_cases hj:j<(sl c).n*szR c
    ·rw [List.getElem?_append_left (by omega)] at hv
     exact old j v hv
    ·have hlt:=get_lt hv
     rw [List.length_append] at hlt
     rw [List.getElem?_append_right (by omega),hlen] at hv
     rw [splice_get hsz,if_neg (by omega),if_pos (by omega)]
     rw [←hv]; congr 1; omega
   ·unfold SlH.blk at hb'; simp only at hb'; rw [a1] at hb'; cases hb'
    exact fr
 ·have h':=h.grow (Sub.upd_new (o:=.cells ⟨contR R c++new++rest⟩ e (0,0)) hbn)
  have fr:=h.new_free (c:=c) hbn
  refine q _ _ _ h' ⟨⟨by rw [List.length_append,ok.len,hk,Nat.add_mul],hle,.inr ⟨i,0,_,e,rfl,Heap.upd_same,?_,fun j v hv=>?_⟩⟩,fun b' hb'=>?_⟩
  ·simp only [List.size_toArray,List.length_append,ok.len,hk,hr]
   rw [←Nat.add_mul,←Nat.add_mul]
   have:(sl c).n+k+(cap-((sl c).n+k))=cap:=by omega
   rw [this]; simp
  ·have hj:=get_lt hv
   simp only [List.getElem?_toArray,Nat.zero_add]
   rw [List.getElem?_append_left hj]; exact hv
  ·unfold SlH.blk at hb'; simp only at hb'; cases hb'
   exact fr
theorem RunX.put (h : RunX G H b sl R) {c : Nat} (hc : c<5) {a : Addr} (ha : (sl c).A=some a) {k : Nat} {v : Value} (hk : k<(contR R c).length) (R' : RS) (e0 : contR R' c=(contR R c).set k v) (ec : ∀c', c'<5→c'≠c→contR R' c'=contR R c')
  (em:rCells sl R'=rCells sl R) (ea:R'.attrs.length=4) {Q:Heap→Prop} (q:∀H',RunX G H' b sl R'→Q H'):Wr H (a.add k) v Q:=by
 have ok:=h.ok c hc
 have hlen:=ok.len
 rcases ok.at_ with ⟨a1,_⟩|⟨i,off,cur,T,a1,a2,a3,a4⟩
 ·rw [a1] at ha; cases ha
 ·rw [a1] at ha; cases ha
  have b0:((⟨i,off,none⟩:Addr).add k).block=i:=by unfold Addr.add; split<;>rfl
  have o0:((⟨i,off,none⟩:Addr).add k).off=off+k:=by unfold Addr.add; split<;>simp_all
  have s0:((⟨i,off,none⟩:Addr).add k).spot=none:=by unfold Addr.add; split<;>rfl
  unfold Wr
  rw [b0,o0,s0]
  have hcap:(sl c).n*szR c≤(sl c).c*szR c:=Nat.mul_le_mul_right _ ok.cap
  have hsz:off+k+[v].length≤cur.size:=by show off+k+1≤_; omega
  have hblk:(sl c).blk=some i:=by unfold SlH.blk; rw [a1]; rfl
  have fr:=h.own_free hc hblk
  refine ⟨cur,T,a2,rfl,hsz,fun H1 e=>q H1 ?_⟩
  subst e
  refine ⟨⟨fun i' o ho=>?_⟩,h.gb,by rw [Heap.upd_other (fun e=>fr.2.1 e.symm),em]; exact h.hb,h.own,h.inj,fun c' hc'=>?_,ea⟩
  ·rw [Heap.upd_other (fun e=>by subst e; rw [fr.1] at ho; cases ho)]; exact h.gh.sub _ _ ho
  ·by_cases hcc:c'=c
   ·subst hcc
    rw [e0]
    refine ⟨by rw [List.length_set]; exact hlen,ok.cap,.inr ⟨i,off,_,T,a1,Heap.upd_same,by rw [splice_size hsz]; exact a3,fun j u hu=>?_⟩⟩
    rw [splice_get hsz]
    rw [List.getElem?_set] at hu
    by_cases hj:k=j
    ·subst hj
     rw [if_pos rfl,if_pos hk] at hu
     rw [if_neg (by omega),if_pos (by show off+k<off+k+1; omega)]
     have:off+k-(off+k)=0:=by omega
     rw [this]; exact hu
    ·rw [if_neg hj] at hu
     have:=a4 j u hu
     by_cases hlt:off+j<off+k
     ·rw [if_pos hlt]; exact this
     ·rw [if_neg hlt,if_neg (by show ¬off+j<off+k+1; omega)]; exact this
   ·rw [ec c' hc' hcc]
    exact (h.ok c' hc').mono fun b' hb'=>Heap.upd_other fun e=>by subst e; exact hcc (fr.2.2 c' hc' hb')
end
theorem newI {H H1:Heap} {b:Nat} {T:TypeId} (hn:H b=none) (l:List Int) (e:H1=H.upd b (.cells (l.map (Value.int .i64)).toArray T)):Sub H H1∧HasI H1 (some ⟨b,0,none⟩) l.length l:=by
 subst e; exact ⟨Sub.upd_new hn,hasI_new l⟩
theorem isP_some {pre:List Ev} {id kind:Int} (h:isP pre id kind=true):1≤id∧id≤pre.length∧∃x,pre[(id-1).toNat]?=some x∧x.kind=kind:=by
 unfold isP at h
 simp only [Bool.and_eq_true,decide_eq_true_eq] at h
 obtain ⟨⟨h1,h2⟩,h3⟩:=h
 refine ⟨h1,h2,?_⟩
 split at h3
 ·rename_i x hx; exact ⟨x,hx,by simpa using h3⟩
 ·cases h3
theorem len_take {l:List Ev} {k:Nat} (hk:k≤l.length):(l.take k).length=k:=by rw [List.length_take,Nat.min_eq_left hk]
def checkV (l:List Ev):Value:=if stand l<l.length then .tuple #[.int .i64 52,.int .i64 (stand l:Nat)] else .tuple #[.int .i64 0,.int .i64 0]
def overP (pre:List Ev):Bool:=match pre.getLast? with|some x=>closeM x.kind|none=>false
def marks:List Ev→List (Int×Int):=fun pre=>(pre.map fun x=>(x.kind,x.a)).reverse
theorem marks_snoc (pre:List Ev) (x:Ev):marks (pre++[x])=(x.kind,x.a)::marks pre:=by simp [marks]
theorem overP_snoc (pre:List Ev) (x:Ev):overP (pre++[x])=closeM x.kind:=by simp [overP]
theorem mem_marks {pre:List Ev} {k a:Int}:(k,a)∈marks pre↔∃x∈pre,x.kind=k∧x.a=a:=by simp [marks]
structure Book (H:Heap) (b:Nat) (pre:List Ev):Prop where
 out:∃(A:Option Addr) (n c m:Nat) (es:Array MapEntry) (cl:Nat),H b=some (.cells #[.slice A n c,.map (some m),.bool (overP pre)] 177 (0,0))∧HasEvs H A n pre∧H m=some (.map es cl)∧Marks es (marks pre)
theorem Book.sub {H H':Heap} {b:Nat} {pre:List Ev} (h:Book H b pre) (k:Sub H H'):Book H' b pre:=by
 obtain ⟨A,n,c,m,es,cl,h1,h2,h3,h4⟩:=h.out
 exact ⟨A,n,c,m,es,cl,k.sub _ _ h1,h2.sub k,k.sub _ _ h3,h4⟩
theorem at_fld {H:Heap} {b:Nat} {c:Array Value} {T:TypeId} {fz:Nat×Nat} (k:Nat) {v:Value} (h:H b=some (.cells c T fz)) (hv:c[k]?=some v):At H (({ block:=b,off:=0 }:Addr).add k) [v]:=by
 have he:({ block:=b,off:=0 }:Addr).add k=⟨b,k,none⟩:=by cases k<;>simp [Addr.add]
 rw [he]
 refine ⟨⟨c,T,fz,h,rfl,fun j u hj=>?_⟩⟩
 cases j with
 | succ j=>simp at hj
 | zero=>simp at hj; subst hj; exact hv
theorem smMono {P:Program} {s:Sem Value} {H:Heap} {K K':Value→Heap→Prop} (h:Sm P s H K) (k:∀v H',K v H'→K' v H'):Sm P s H K':=by
 refine ⟨fun w hw=>?_⟩
 obtain ⟨v,H',w',h1,h2,h3⟩:=h.run w hw
 exact ⟨v,H',w',h1,h2,k _ _ h3⟩
theorem t180 {pre : List Ev} (hb : pre.length≤100000000000000000) {H : Heap} {b : Nat} (h : Book H b pre) (id kind : Int) :
  Tr Tryz.prog 180 #[.pointer (some ⟨b,0,none⟩),.int .i64 id,.int .i64 kind] H (fun v H'=>v=.bool (isP pre id kind)∧Sub H H'):=by
 obtain ⟨A,n,c,m,es,cl,h1,h2,h3,h4⟩:=h.out
 have hn:=h2.len; subst hn
 apply v180; unfold F180
 refine ⟨_,fun _=>rfl,A,pre.length,c,fun _=>at_fld 0 h1 rfl,_,fun _=>rfl,A,pre.length,c,fun _=>at_fld 0 h1 rfl,?_⟩
 by_cases hid:1≤id∧id≤pre.length
 ·obtain ⟨x,hx⟩:=get_some (l:=pre) (i:=(id-1).toNat) (by omega)
  obtain ⟨a,ha,hat⟩:=h2.at_ _ x hx
  have hw:IntKind.i64.wrap (id-1)=id-1:=wrapi (by omega) (by omega)
  refine ⟨a,fun _=>⟨ha,by omega,by omega⟩,x.kind,fun _=>by rw [hw]; exact at_one 2 hat rfl,?_,Sub.refl _⟩
  unfold isP
  rw [hx]
 ·have hf : (decide (id≥1)&&decide (id≤(pre.length : Int)))=false := by
   cases hc:(decide (id≥1)&&decide (id≤(pre.length:Int))) with
   | false=>rfl
   | true=>simp at hc; omega
  refine ⟨⟨0,0,none⟩,fun e=>(by rw [hf] at e; cases e),0,fun e=>(by rw [hf] at e; cases e),?_,Sub.refl _⟩
  unfold isP
  rw [hf]; rfl
structure RNo (pre:List Ev) (id:Int) (ks:List Int) (H:Heap) (i:Int) (H1:Heap):Prop where
 heap:H1=H
 k:∃m:Nat,i=m∧m≤ks.length∧∀j,j<m→∀y,ks[j]?=some y→(y,id) ∉ marks pre
theorem any_marks {pre:List Ev} {id:Int} {ks:List Int}:anyP pre id ks=true↔∃y∈ks,(y,id)∈marks pre:=by
 unfold anyP
 rw [List.any_eq_true]
 constructor
 ·rintro ⟨x,hx,hq⟩
  simp only [Bool.and_eq_true,List.contains_iff_mem,beq_iff_eq] at hq
  exact ⟨x.kind,hq.1,mem_marks.2 ⟨x,hx,rfl,hq.2⟩⟩
 ·rintro ⟨y,hy,hm⟩
  obtain ⟨x,hx,h1,h2⟩:=mem_marks.1 hm
  refine ⟨x,hx,?_⟩
  simp only [Bool.and_eq_true,List.contains_iff_mem,beq_iff_eq]
  exact ⟨h1▸hy,h2⟩
theorem t85 {pre : List Ev} {H : Heap} {b : Nat} (h : Book H b pre) (id : Int) {ks : List Int} (hkb : ks.length≤9223372036854775807) {B : Option Addr} {n' c' : Nat} (hI : HasI H B n' ks) :
  Tr Tryz.prog 85 #[.pointer (some ⟨b,0,none⟩),.int .i64 id,.slice B n' c'] H (fun v H'=>v=.bool (!anyP pre id ks)∧Sub H H'):=by
 obtain ⟨A,n,c,m,es,cl,h1,h2,h3,h4⟩:=h.out
 have hn:=hI.len; subst hn
 apply v85; unfold F85
 refine ⟨RNo pre id ks H,fun i _=>(ks.length-i).toNat,⟨rfl,0,rfl,by omega,fun j hj=>absurd hj (by omega)⟩,fun i H1 r=>?_⟩
 have hH:=r.heap; subst hH
 obtain ⟨j,rfl,hj,hs⟩:=r.k
 refine ⟨fun hlt=>?_,fun hge=>⟨?_,Sub.refl _⟩⟩
 ·have hlt:=of_decide_eq_true hlt
  obtain ⟨y,hy⟩:=get_some (l:=ks) (i:=j) (by omega)
  obtain ⟨a,ha,hat⟩:=hI.at_ j y hy
  refine ⟨a,⟨ha,by omega,by omega⟩,y,hat,_,rfl,some m,at_fld 1 h1 rfl,smMono (sm_lookup h3 h4 y id) fun v H'=>?_⟩
  rintro ⟨rfl,rfl⟩
  refine ⟨_,rfl,fun ht=>⟨?_,Sub.refl _⟩,fun hf=>?_⟩
  ·have ht:=of_decide_eq_true ht
   have:anyP pre id ks=true:=any_marks.2 ⟨y,List.mem_of_getElem? hy,ht⟩
   rw [this]; rfl
  ·have hf:=of_decide_eq_false hf
   rw [wrapi (by omega) (by omega)]
   refine ⟨⟨rfl,j+1,by omega,by omega,fun i hi z hz=>?_⟩,?_⟩
   ·by_cases hij:i=j
    ·subst hij; rw [hy] at hz; cases hz; exact hf
    ·exact hs i (by omega) z hz
   ·show (ks.length-((j:Int)+1)).toNat<(ks.length-(j:Int)).toNat
    omega
 ·have hge:=of_decide_eq_false hge
  have:anyP pre id ks=false:=by
   cases hc:anyP pre id ks with
   | false=>rfl
   | true =>
    obtain ⟨y,hy,hm⟩:=any_marks.1 hc
    obtain ⟨i,hi,e⟩:=List.mem_iff_getElem.1 hy
    exact absurd hm (hs i (by omega) y (by rw [List.getElem?_eq_getElem hi,e]))
  rw [this]; rfl
theorem ng {pre : List Ev} (hb : pre.length≤100000000000000000) {H : Heap} {b : Nat} (h : Book H b pre) (id : Int) (ks : List Int) (hk : ks.length≤9223372036854775807) (kd : Int) (r : Bool) (hp : r=(isP pre id kd&&!anyP pre id ks)) :
  ∃b1:Bool,Tr Tryz.prog 180 #[.pointer (some ⟨b,0,none⟩),.int .i64 id,.int .i64 kd] H (fun v H'=>v=.bool b1∧Sub H H') ∧
  (b1=true→∀b2:Nat,H b2=none→∀H1:Heap,H1=H.upd b2 (.cells (ks.map (Value.int .i64)).toArray 3)→∃b3:Bool,
   Tr Tryz.prog 85 #[.pointer (some ⟨b,0,none⟩),.int .i64 id,.slice (some ⟨b2,0,none⟩) ks.length ks.length] H1 (fun v H'=>v=.bool b3∧Sub H1 H')∧(Value.bool b3=.bool r∧Sub H H1)) ∧
  (b1=false→Value.bool false=.bool r∧Sub H H):=by
 refine ⟨_,t180 hb h id kd,fun i1 b2 n2 H1 e1=>?_,fun i0=>⟨by rw [hp,i0]; rfl,Sub.refl _⟩⟩
 obtain ⟨s,i⟩:=newI n2 ks e1
 exact ⟨_,t85 (h.sub s) id hk i,by rw [hp,i1]; rfl,s⟩
theorem nb {pre : List Ev} (hb : pre.length≤100000000000000000) {H : Heap} {b : Nat} (h : Book H b pre) (id : Int) (k1 k2 : Int) (kd : Int) (r : Bool) (hp : r=(isP pre id kd&&anyP pre id [k1]&&!anyP pre id [k2])) :
  ∃b1:Bool,Tr Tryz.prog 180 #[.pointer (some ⟨b,0,none⟩),.int .i64 id,.int .i64 kd] H (fun v H'=>v=.bool b1∧Sub H H') ∧
  (b1=true→∀b2:Nat,H b2=none→∀H1:Heap,H1=H.upd b2 (.cells #[.int .i64 k1] 3)→∃b3:Bool,
   Tr Tryz.prog 85 #[.pointer (some ⟨b,0,none⟩),.int .i64 id,.slice (some ⟨b2,0,none⟩) 1 1] H1 (fun v H'=>v=.bool b3∧Sub H1 H') ∧
   ((!b3)=true→∀b4:Nat,H1 b4=none→∀H2:Heap,H2=H1.upd b4 (.cells #[.int .i64 k2] 3)→∃b5:Bool,
    Tr Tryz.prog 85 #[.pointer (some ⟨b,0,none⟩),.int .i64 id,.slice (some ⟨b4,0,none⟩) 1 1] H2 (fun v H'=>v=.bool b5∧Sub H2 H')∧(Value.bool b5=.bool r∧Sub H H2)) ∧
   ((!b3)=false→Value.bool false=.bool r∧Sub H H1)) ∧
  (b1=false→Value.bool false=.bool r∧Sub H H):=by
 refine ⟨_,t180 hb h id kd,fun i1 b2 n2 H1 e1=>?_,fun i0=>⟨by rw [hp,i0]; rfl,Sub.refl _⟩⟩
 obtain ⟨s,i⟩:=newI n2 [k1] e1
 refine ⟨_,t85 (h.sub s) id (by simp) i,fun i2 b4 n4 H2 e2=>?_,fun i2=>⟨?_,s⟩⟩
 ·obtain ⟨s2,j⟩:=newI n4 [k2] e2
  refine ⟨_,t85 (h.sub (s.trans s2)) id (by simp) j,?_,s.trans s2⟩
  have i2:anyP pre id [k1]=true:=by simpa using i2
  rw [hp,i1,i2]; rfl
 ·have i2:anyP pre id [k1]=false:=by simpa using i2
  rw [hp,i2]; simp
theorem t154 {pre : List Ev} (hb : pre.length≤100000000000000000) {H : Heap} {b : Nat} (h : Book H b pre) (e : Ev) :
  Tr Tryz.prog 154 #[.pointer (some ⟨b,0,none⟩),e.val] H (fun v H'=>v=.bool (namesP pre e)∧Sub H H'):=by
 apply v154; unfold F154
 refine ⟨fun q=>ng hb h e.a [6,22,23,24] (by decide) 3 _ (by have q:e.kind=6:=(by simpa using q); unfold namesP; rw [q]; rfl),fun m0=>?_⟩
 refine ⟨fun q=>ng hb h e.a [6,22,23,24] (by decide) 3 _ (by have q:e.kind=22:=(by simpa using q); unfold namesP; rw [q]; rfl),fun m1=>?_⟩
 refine ⟨fun q=>ng hb h e.a [6,22,23,24] (by decide) 3 _ (by have q:e.kind=23:=(by simpa using q); unfold namesP; rw [q]; rfl),fun m2=>?_⟩
 refine ⟨fun q=>ng hb h e.a [6,22,23,24] (by decide) 3 _ (by have q:e.kind=24:=(by simpa using q); unfold namesP; rw [q]; rfl),fun m3=>?_⟩
 refine ⟨fun q=>ng hb h e.a [7,25] (by decide) 4 _ (by have q:e.kind=7:=(by simpa using q); unfold namesP; rw [q]; rfl),fun m4=>?_⟩
 refine ⟨fun q=>?_,fun m5=>?_⟩
 ·have q:e.kind=25:=by simpa using q
  have hnp:namesP pre e=(isP pre e.a 4&&!anyP pre e.a [7,25]&&atTime pre e):=by unfold namesP; rw [q]; rfl
  have main : isP pre e.a 4=true→∀b2 : Nat, H b2=none→∀H1 : Heap, H1=H.upd b2 (Obj.cells #[Value.int .i64 7, Value.int .i64 25] 3)→Sub H H1∧∃b3 : Bool,
    Tr Tryz.prog 85 #[Value.pointer (some ⟨b,0,none⟩),Value.int .i64 e.a,Value.slice (some ⟨b2,0,none⟩) 2 2] H1 (fun v H'=>v=.bool b3∧Sub H1 H') ∧
    ∃a:Addr,(b3=true→some (⟨b,0,none⟩:Addr)=some a)∧∃A n c,(b3=true→At H1 (a.add 0) [Value.slice A n c])∧∃a1:Addr,
     (b3=true→A=some a1∧(0:Int)≤IntKind.i64.wrap (e.a-1)∧IntKind.i64.wrap (e.a-1)<(n:Int))∧∃x:Int,
     (b3=true→At H1 ((a1.add ((IntKind.i64.wrap (e.a-1)).toNat*9)).add 3) [Value.int .i64 x])∧(Value.bool (b3&&decide (e.time≥x))=.bool (namesP pre e)∧Sub H H1):=by
   intro i1 b2 n2 H1 e1
   obtain ⟨s,i⟩:=newI n2 [7,25] e1
   obtain ⟨A,n,c,m,es,cl,h1,h2,h3,h4⟩:=h.out
   have hn:=h2.len; subst hn
   obtain ⟨g1,g2,x,g3,g4⟩:=isP_some i1
   obtain ⟨a,ha,hat⟩:=h2.at_ _ x g3
   have hw:IntKind.i64.wrap (e.a-1)=e.a-1:=wrapi (by omega) (by omega)
   refine ⟨s,_,t85 (h.sub s) e.a (by decide) i,_,fun _=>rfl,A,pre.length,c,fun _=>(at_fld 0 h1 rfl).sub s,a,fun _=>⟨ha,by omega,by omega⟩,x.a,fun _=>by rw [hw]; exact (at_one 3 hat rfl).sub s,?_,s⟩
   have ht:atTime pre e=decide (e.time≥x.a):=by unfold atTime; rw [g3]
   rw [hnp,i1,ht]; rfl
  have no:isP pre e.a 4=false→Sub H H∧Value.bool false=.bool (namesP pre e)∧Sub H H:=fun i0=>⟨Sub.refl _,by rw [hnp,i0]; rfl,Sub.refl _⟩
  exact ⟨H,Sub.refl _,_,t180 hb h e.a 4,Sub.refl _,⟨Sub.refl _,main,no⟩,main,no⟩
 refine ⟨fun q=>ng hb h e.a [26,27] (by decide) 5 _ (by have q:e.kind=26:=(by simpa using q); unfold namesP; rw [q]; rfl),fun m6=>?_⟩
 refine ⟨fun q=>ng hb h e.a [26,27] (by decide) 5 _ (by have q:e.kind=27:=(by simpa using q); unfold namesP; rw [q]; rfl),fun m7=>?_⟩
 refine ⟨fun q=>nb hb h e.a 26 28 5 _ (by have q:e.kind=28:=(by simpa using q); unfold namesP; rw [q]; rfl),fun m8=>?_⟩
 refine ⟨fun q=>ng hb h e.a [8,27,28] (by decide) 5 _ (by have q:e.kind=8:=(by simpa using q); unfold namesP; rw [q]; rfl),fun m9=>?_⟩
 refine ⟨fun q=>⟨_,t180 hb h e.a 5,(by have q:e.kind=9:=(by simpa using q); unfold namesP; rw [q]; rfl),Sub.refl _⟩,fun m10=>?_⟩
 refine ⟨fun q=>ng hb h e.a [29] (by decide) 9 _ (by have q:e.kind=29:=(by simpa using q); unfold namesP; rw [q]; rfl),fun m11=>?_⟩
 refine ⟨fun q=>ng hb h e.a [12,13] (by decide) 21 _ (by have q:e.kind=12:=(by simpa using q); unfold namesP; rw [q]; rfl),fun m12=>?_⟩
 refine ⟨fun q=>ng hb h e.a [12,13] (by decide) 21 _ (by have q:e.kind=13:=(by simpa using q); unfold namesP; rw [q]; rfl),fun m13=>?_⟩
 refine ⟨fun q=>nb hb h e.a 12 14 21 _ (by have q:e.kind=14:=(by simpa using q); unfold namesP; rw [q]; rfl),fun m14=>?_⟩
 refine ⟨?_,Sub.refl _⟩
 have z0:¬e.kind=6:=by simpa using m0
 have z1:¬e.kind=22:=by simpa using m1
 have z2:¬e.kind=23:=by simpa using m2
 have z3:¬e.kind=24:=by simpa using m3
 have z4:¬e.kind=7:=by simpa using m4
 have z5:¬e.kind=25:=by simpa using m5
 have z6:¬e.kind=26:=by simpa using m6
 have z7:¬e.kind=27:=by simpa using m7
 have z8:¬e.kind=28:=by simpa using m8
 have z9:¬e.kind=8:=by simpa using m9
 have z10:¬e.kind=9:=by simpa using m10
 have z11:¬e.kind=29:=by simpa using m11
 have z12:¬e.kind=12:=by simpa using m12
 have z13:¬e.kind=13:=by simpa using m13
 have z14:¬e.kind=14:=by simpa using m14
 unfold namesP
 rw [if_neg (by omega),if_neg (by omega),if_neg (by omega),if_neg (by omega),if_neg (by omega),if_neg (by omega),if_neg (by omega),if_neg (by omega),if_neg (by omega),if_neg (by omega)]
theorem may_nil (e:Ev):mayP [] e=!(!validM e||e.id != 1||!(e.kind==1)):=by
 unfold mayP
 simp only [List.length_nil]
 cases validM e<;>cases hk:e.kind==1<;>cases hi:e.id==1<;>simp [bne,hk,hi]
theorem may_ne {pre : List Ev} {e : Ev} (h : pre≠[]) : mayP pre e=if (!validM e||e.id != pre.length+1||e.kind==1)=true then false
  else if (decide (e.time<(lastP pre).time)||closeM (lastP pre).kind||e.kind==2&&e.a != pre.length)=true then false
  else if (cmdM e.kind&&!(e.kind==16&&e.a==-4)&&((lastP pre).kind != 2&&!cmdM (lastP pre).kind||e.time != (lastP pre).time))=true then false
  else namesP pre e:=by
 have hl:pre.length≠0:=by cases pre with
  | nil=>exact absurd rfl h
  | cons _ _=>simp
 have hz:((pre.length:Int)==0)=false:=by simp; omega
 conv=>lhs; unfold mayP
 rw [hz,if_neg h]
 simp [bne,hz]
theorem lastP_snoc (pre:List Ev) (x:Ev):lastP (pre++[x])=x:=by simp [lastP]
theorem t128 {pre : List Ev} (hb : pre.length≤100000000000000000) {H : Heap} {b : Nat} (h : Book H b pre) (e : Ev) :
  Tr Tryz.prog 128 #[.pointer (some ⟨b,0,none⟩),e.val] H (fun v H'=>v=.bool (mayP pre e)∧Sub H H'):=by
 obtain ⟨A,n,c,m,es,cl,h1,h2,h3,h4⟩:=h.out
 have hn:=h2.len; subst hn
 apply v128; unfold F128
 refine ⟨_,rfl,A,pre.length,c,at_fld 0 h1 rfl,?_⟩
 rw [show IntKind.i64.wrap ((pre.length:Int)+1)=(pre.length:Int)+1 from wrapi (by omega) (by omega)]
 refine ⟨_,t109 e H,_,fun _=>rfl,overP pre,fun _=>at_fld 2 h1 rfl,?_⟩
 rcases List.eq_nil_or_concat pre with rfl|⟨p,x,rfl⟩
 ·have hv:=may_nil e
  refine ⟨fun q=>⟨?_,Sub.refl _⟩,fun q=>⟨fun _=>⟨?_,Sub.refl _⟩,fun q=>(by simp at q)⟩⟩
  ·rw [hv]
   have:(!validM e||e.id != 1||!(e.kind==1))=true:=by simpa [overP] using q
   rw [this]; rfl
  ·rw [hv]
   have:(!validM e||e.id != 1||!(e.kind==1))=false:=by simpa [overP] using q
   rw [this]; rfl
 ·have hne:p++[x]≠[]:=by simp
  have hv:=may_ne (e:=e) hne
  rw [List.concat_eq_append] at *
  rw [lastP_snoc] at hv
  have hl:(p++[x]).length=p.length+1:=by simp
  have hz:(((p++[x]).length:Int)==0)=false:=by simp; omega
  rw [overP_snoc,hz]
  refine ⟨fun q=>⟨?_,Sub.refl _⟩,fun q=>⟨fun q=>(by cases q),fun _=>?_⟩⟩
  ·rw [hv]
   split
   ·rfl
   ·rename_i hn
    have:closeM x.kind=true:=by
     cases hc:closeM x.kind with
     | true=>rfl
     | false=>exact absurd (by simpa [hc] using q) hn
    rw [this,if_pos (by simp)]
  ·have q1 : (!validM e||e.id != ((p++[x]).length : Int)+1||e.kind==1)=false := by
    cases hc:(!validM e||e.id != ((p++[x]).length:Int)+1)<;>cases hk:(e.kind==1)<;>simp_all
   have q2:closeM x.kind=false:=by
    cases hc:closeM x.kind<;>simp_all
   rw [if_neg (by rw [q1]; simp),q2,Bool.or_false] at hv
   have hx:(p++[x])[p.length]?=some x:=by simp
   obtain ⟨a',ha',hat'⟩:=h2.at_ _ x hx
   have hw:IntKind.i64.wrap (((p++[x]).length:Int)-1)=(p.length:Int):=by rw [wrapi (by omega) (by omega)]; omega
   rw [hw]
   refine ⟨_,rfl,A,(p++[x]).length,c,at_fld 0 h1 rfl,a',⟨ha',by omega,by omega⟩,_,_,_,_,_,_,_,_,_,hat',fun q3=>⟨?_,Sub.refl _⟩,fun q3=>?_⟩
   ·rw [hv,if_pos q3]
   ·rw [if_neg (by rw [q3]; simp)] at hv
    refine ⟨_,t89 e.kind H,fun q4=>?_,fun q4=>⟨_,t154 hb h e,?_,Sub.refl _⟩⟩
    ·rw [q4,Bool.true_and] at hv
     refine ⟨_,fun _=>t89 x.kind H,fun q5=>⟨?_,Sub.refl _⟩,fun q5=>⟨_,t154 hb h e,?_,Sub.refl _⟩⟩
     ·rw [hv,if_pos q5]
     ·rw [hv,if_neg (by rw [q5]; simp)]
    ·rw [hv,if_neg (by rw [q4]; simp)]
set_option linter.unusedVariables false
open IntKind
noncomputable def c91:Cx:={ P:=Tryz.prog,res:=[],pub:=[],loops:=[],quiet:=[],asm:=true }
def F91 (event opts input now:Int) (H:Heap) (K:Value→Heap→Prop):Prop:=K (.agg #[event,opts,input,now,(1:Int),(1:Int),now,(0:Int),(0:Int),(0:Int)]) H

theorem v91 {event opts input now:Int} {H:Heap} {K:Value→Heap→Prop} (h:F91 event opts input now H K):Tr Tryz.prog 91 #[.int .i64 event,.int .i64 opts,.int .i64 input,.int .i64 now] H K :=
 tr_of_eq (C:=c91) Tryz.func91 (by kernel_rfl) h
noncomputable def c52:Cx:={ P:=Tryz.prog,res:=[],pub:=[],loops:=[],quiet:=[],asm:=true }
def F52 (eId eTime eKind eA eB eC eD eE eF:Int) (H:Heap) (K:Value→Heap→Prop):Prop:=K (.bool (decide (eKind≥19)||eKind==16&&eA==(-4))) H

theorem v52 {eId eTime eKind eA eB eC eD eE eF:Int} {H:Heap} {K:Value→Heap→Prop} (h:F52 eId eTime eKind eA eB eC eD eE eF H K):Tr Tryz.prog 52 #[.agg #[.int .i64 eId,.int .i64 eTime,.int .i64 eKind,.int .i64 eA,.int .i64 eB,.int .i64 eC,.int .i64 eD,.int .i64 eE,.int .i64 eF]] H K :=
 tr_of_eq (C:=c52) Tryz.func52 (by kernel_rfl) h
noncomputable def c54:Cx:={ P:=Tryz.prog,res:=[],pub:=[],loops:=[],quiet:=[],asm:=true }
def F54 (id now:Int) (H:Heap) (K:Value→Heap→Prop):Prop:=K (.agg #[id,now,(16:Int),(-4:Int),(0:Int),(0:Int),(0:Int),(0:Int),(0:Int)]) H

theorem v54 {id now:Int} {H:Heap} {K:Value→Heap→Prop} (h:F54 id now H K):Tr Tryz.prog 54 #[.int .i64 id,.int .i64 now] H K :=
 tr_of_eq (C:=c54) Tryz.func54 (by kernel_rfl) h
noncomputable def c100:Cx:={ P:=Tryz.prog,res:=[],pub:=[],loops:=[],quiet:=[],asm:=true }
def F100 (kind:Int) (H:Heap) (K:Value→Heap→Prop):Prop:=((kind==15)=true→K (.int .i64 2) H) ∧
 ((kind==15)=false→((kind==16)=true→K (.int .i64 3) H) ∧((kind==16)=false→((kind==17)=true→K (.int .i64 4) H) ∧((kind==17)=false→((kind==30)=true→K (.int .i64 5) H) ∧((kind==30)=false→((kind==31)=true→K (.int .i64 6) H) ∧((kind==31)=false→K (.int .i64 7) H)))))

theorem v100 {kind:Int} {H:Heap} {K:Value→Heap→Prop} (h:F100 kind H K):Tr Tryz.prog 100 #[.int .i64 kind] H K :=
 tr_of_eq (C:=c100) Tryz.func100 (by kernel_rfl) h
noncomputable def c26:Cx:={ P:=Tryz.prog,res:=[],pub:=[],loops:=[],quiet:=[],asm:=true }
def F26 (rNumber rType rStatus:Int) (rId:ByteArray) (rBegun rEnded rDeadline rParent rEvent rSeen rValue rAttrs0 rAttrs1 rAttrs2 rAttrs3:Int) (rEventsA:Option Addr) (rEventsn rEventsc:Nat) (rActsA:Option Addr) (rActsn rActsc:Nat) (rTimersA:Option Addr) (rTimersn rTimersc:Nat) (rKidsA:Option Addr) (rKidsn rKidsc:Nat) (rUpdatesA:Option Addr) (rUpdatesn rUpdatesc:Nat) (H:Heap) (K:Value→Heap→Prop):Prop:=K (.bool (rStatus==1)) H

theorem v26 {rNumber rType rStatus:Int} {rId:ByteArray} {rBegun rEnded rDeadline rParent rEvent rSeen rValue rAttrs0 rAttrs1 rAttrs2 rAttrs3:Int} {rEventsA:Option Addr} {rEventsn rEventsc:Nat} {rActsA:Option Addr} {rActsn rActsc:Nat} {rTimersA:Option Addr} {rTimersn rTimersc:Nat} {rKidsA:Option Addr} {rKidsn rKidsc:Nat} {rUpdatesA:Option Addr} {rUpdatesn rUpdatesc:Nat} {H:Heap} {K:Value→Heap→Prop} (h:F26 rNumber rType rStatus rId rBegun rEnded rDeadline rParent rEvent rSeen rValue rAttrs0 rAttrs1 rAttrs2 rAttrs3 rEventsA rEventsn rEventsc rActsA rActsn rActsc rTimersA rTimersn rTimersc rKidsA rKidsn rKidsc rUpdatesA rUpdatesn rUpdatesc H K):Tr Tryz.prog 26 #[.agg #[.int .i64 rNumber,.int .i64 rType,.int .i64 rStatus,.string rId,.int .i64 rBegun,.int .i64 rEnded,.int .i64 rDeadline,.int .i64 rParent,.int .i64 rEvent,.int .i64 rSeen,.int .i64 rValue,.int .i64 rAttrs0,.int .i64 rAttrs1,.int .i64 rAttrs2,.int .i64 rAttrs3,.slice rEventsA rEventsn rEventsc,.slice rActsA rActsn rActsc,.slice rTimersA rTimersn rTimersc,.slice rKidsA rKidsn rKidsc,.slice rUpdatesA rUpdatesn rUpdatesc]] H K :=
 tr_of_eq (C:=c26) Tryz.func26 (by kernel_rfl) h
noncomputable def c96:Cx:={ P:=Tryz.prog,res:=[],pub:=[],loops:=[⟨1,[(16,.int .i64)],[10,17,18,19,20,21,22,23,24,25,26,27,28,29,30,31,32,33,34,35,36,37,38,39,40,41,42,43,44,45,46,47,48,49,50,51,52,53],[]⟩],quiet:=[],draws:=[⟨4,[3,8,13],[],true,true⟩],asm:=true }
def F96 (r:Option Addr) (id state value status:Int) (H:Heap) (K:Value→Heap→Prop):Prop :=
 ∃(a:Addr),r=some a ∧∃(A:Option Addr) (n c:Nat),At H (a.add 19) [.slice A n c] ∧∃(Rel:Int→Heap→Prop) (mu:Int→Heap→Nat),Rel (0:Int) H ∧∀(x:Int) (H1:Heap),Rel x H1→(decide (x<(↑n:Int))=true→∃(a1:Addr),r=some a1 ∧∃(A1:Option Addr) (n1 c1:Nat),At H1 (a1.add 19) [.slice A1 n1 c1] ∧∃(a2:Addr),InB A1 a2 x n1 ∧∃(x1:Int),At H1 ((a2.add (x.toNat*4)).add 0) [x1] ∧((x1==id)=true→∃(Hs:Heap),Ax.Sub Hs H1 ∧∃(a3:Addr),r=some a3 ∧∃(a4:Addr),r=some a4 ∧∃(a5:Addr),r=some a5 ∧∃(A2:Option Addr) (n2 c2:Nat),At Hs (a3.add 19) [.slice A2 n2 c2] ∧
 ∃(A3:Option Addr) (n3 c3:Nat),At Hs (a4.add 19) [.slice A3 n3 c3] ∧∃(A4:Option Addr) (n4 c4:Nat),At Hs (a5.add 19) [.slice A4 n4 c4] ∧∃(a6:Addr),InB A2 a6 x n2 ∧StL H1 ((a6.add (x.toNat*4)).add 1) [state] fun H1_1=>Ax.Sub Hs H1_1 ∧∃(a7:Addr),InB A3 a7 x n3 ∧StL H1_1 ((a7.add (x.toNat*4)).add 2) [value] fun H11=>Ax.Sub Hs H11 ∧∃(a8:Addr),InB A4 a8 x n4 ∧StL H11 ((a8.add (x.toNat*4)).add 3) [status] fun H12=>Ax.Sub Hs H12 ∧Rel (i64.wrap (x+1)) H12 ∧mu (i64.wrap (x+1)) H12<mu x H1) ∧((x1==id)=false→Rel (i64.wrap (x+1)) H1 ∧mu (i64.wrap (x+1)) H1<mu x H1)) ∧
 (decide (x<(↑n:Int))=false→K (.tuple #[]) H1)

theorem v96 {r:Option Addr} {id state value status:Int} {H:Heap} {K:Value→Heap→Prop} (h:F96 r id state value status H K):Tr Tryz.prog 96 #[.pointer r,.int .i64 id,.int .i64 state,.int .i64 value,.int .i64 status] H K :=
 tr_of_eq (C:=c96) Tryz.func96 (by kernel_rfl) h
noncomputable def c97:Cx:={ P:=Tryz.prog,res:=[],pub:=[],loops:=[⟨1,[(12,.int .i64)],[6,13,14,15,16,17,18,19,20,21,22,23,24,25,26,27,28,29,30,31,32,33],[]⟩],quiet:=[],asm:=true,dyn:=[25] }
def F97 (r:Option Addr) (id:Int) (change:Value) (H:Heap) (K:Value→Heap→Prop):Prop :=
 ∃(a:Addr),r=some a ∧∃(A:Option Addr) (n c:Nat),At H (a.add 18) [.slice A n c] ∧∃(Rel:Int→Heap→Prop) (mu:Int→Heap→Nat),Rel (0:Int) H ∧∀(x:Int) (H1:Heap),Rel x H1→(decide (x<(↑n:Int))=true→∃(a1:Addr),r=some a1 ∧∃(A1:Option Addr) (n1 c1:Nat),At H1 (a1.add 18) [.slice A1 n1 c1] ∧∃(a2:Addr),InB A1 a2 x n1 ∧∃(x1:Int),At H1 ((a2.add (x.toNat*5)).add 0) [x1] ∧((x1==id)=true→∃(a3:Addr),r=some a3 ∧∃(A2:Option Addr) (n2 c2:Nat),At H1 (a3.add 18) [.slice A2 n2 c2] ∧∃(a4:Addr),InB A2 a4 x n2 ∧∃(g:Nat) (all:List Value),
 isFn Tryz.prog change [.pointer (some (a4.add (x.toNat*5)))] g all ∧Tr Tryz.prog g { toList:=all } H1 fun v H'=>v=.tuple #[] ∧Rel (i64.wrap (x+1)) H' ∧mu (i64.wrap (x+1)) H'<mu x H1) ∧((x1==id)=false→Rel (i64.wrap (x+1)) H1 ∧mu (i64.wrap (x+1)) H1<mu x H1)) ∧(decide (x<(↑n:Int))=false→K (.tuple #[]) H1)

theorem v97 {r:Option Addr} {id:Int} {change:Value} {H:Heap} {K:Value→Heap→Prop} (h:F97 r id change H K):Tr Tryz.prog 97 #[.pointer r,.int .i64 id,change] H K :=
 tr_of_eq (C:=c97) Tryz.func97 (by kernel_rfl) h
noncomputable def c43:Cx:={ P:=Tryz.prog,res:=[],pub:=[2,3],loops:=[],quiet:=[52,53,89,91,100],draws:=[⟨1,[0,1,5],[],true,true⟩,⟨7,[0,1,2,3,5,7,9,11],[],true,true⟩,⟨8,[0,1,3],[],true,true⟩,⟨10,[0,1,6,8,10,12],[],true,true⟩,⟨12,[0,1,6,8],[],true,true⟩,⟨14,[0,1,6,8,10],[],true,true⟩,⟨20,[0,1],[],true,true⟩,⟨23,[0,1],[],true,true⟩,⟨29,[0,2,4],[],true,true⟩,⟨31,[0,1,6],[],true,true⟩,⟨45,[0,1,2,4,7,9],[],true,true⟩,⟨46,[0,1],[],true,true⟩],asm:=true,cuts:=[⟨2,[],[6,7,8,9,10,11,12,13,14,15],[]⟩,⟨4,[],[16,17,18,19,20,21,22,23,24,25,26,27,28,29,30,31,32,33],[]⟩,⟨43,[],[4,35,36,37,38,39,40,41,42,43,44,45,46,47,48,49,50,51,52,53,54,55,56,57,58,59,60,61,62,63,64,65,66,67,68,69,70,71,72,73,74,75,76,77,78,79,80,81,82,83,84,85,86,87,88,89,90,91,92,93,94,95,96,97,98,99,100,101,102,103,104,105,106,107,108,109,110,111,112,113,114,115,116,117,118,119,120,121,122,123,124,125,126,127,128,129,130,131,132,133,134,135,136,137,138,139,140,141,142,143,144,145,146,147,148,149,150,151,152,153,154,155,156,157,158,159,160,161,162,163,164,165,166,167,168,169,170,171,172,173,174,175,176,177,178,179,180,181,182,183,184,185,186,187,188,189,190,191,192,193,194,195,196,197,198,199,200,201,202,203,204,205,206,207,208,209,210,211,212,213,214,215,216,217,218,219,220,221,222,223,224,225,226,227,228,229,230],[]⟩] }
def F43 (r:Option Addr) (eId eTime eKind eA eB eC eD eE eF:Int) (H:Heap) (K:Value→Heap→Prop):Prop:=∀b,H b=none→∀H1,H1=H.upd b (.cells #[.pointer r] 65)→∀b1,H1 b1=none→∀H11,H11=H1.upd b1 (.cells #[eId,eTime,eKind,eA,eB,eC,eD,eE,eF] 47) →
 ∃(Mid:Heap→Prop),(∃(Hs:Heap),Ax.Sub Hs H11 ∧∃(v:Option Addr),At Hs (b:Addr) [.pointer v] ∧∃(v1:Option Addr),At Hs (b:Addr) [.pointer v1] ∧∃(a:Addr),v1=some a ∧∃(x x1 x2 x3 x4 x5 x6 x7 x8:Int),At Hs (b1:Addr) [x,x1,x2,x3,x4,x5,x6,x7,x8] ∧(∃(A:Option Addr),∃(n c:Nat),At H11 (a.add 15) [.slice A n c] ∧Ax.Sub Hs H11 ∧Ax.Sub Hs H11 ∧appC 47 9 72 H11 A n c [x,x1,x2,x3,x4,x5,x6,x7,x8] 1 fun A' n' c' H'=>Ax.Sub Hs H' ∧∃(a1:Addr),v=some a1 ∧StL H' (a1.add 15) [.slice A' n' c'] fun H12=>Ax.Sub Hs H12 ∧Mid H12) ∧Ax.Sub Hs H11 ∧∃(A1:Option Addr) (n1 c2:Nat),
 At H11 (a.add 15) [.slice A1 n1 c2] ∧Ax.Sub Hs H11 ∧appC 47 9 72 H11 A1 n1 c2 [x,x1,x2,x3,x4,x5,x6,x7,x8] 1 fun A'1 n'1 c'1 H'1=>Ax.Sub Hs H'1 ∧∃(a2:Addr),v=some a2 ∧StL H'1 (a2.add 15) [.slice A'1 n'1 c'1] fun H13=>Ax.Sub Hs H13 ∧Mid H13) ∧∀(H1:Heap),Mid H1→∃(Mid1:Heap→Prop),(∃(x9:Int),At H1 ((b1:Addr).add 2) [x9] ∧∃(x10:Int),((!x9==2)=true→At H1 ((b1:Addr).add 2) [x10]) ∧∃(b2:Bool),((!x9==2)=true→Tr Tryz.prog 89 #[x10] H1 fun v2 H'2=>v2=.bool b2 ∧Ax.Sub H1 H'2) ∧∃(x11 x12 x13 x14 x15 x16 x17 x18 x19:Int),
 ((!x9==2&&b2)=true→At H1 (b1:Addr) [x11,x12,x13,x14,x15,x16,x17,x18,x19]) ∧∃(b3:Bool),((!x9==2&&b2)=true→Tr Tryz.prog 52 #[.agg #[x11,x12,x13,x14,x15,x16,x17,x18,x19]] H1 fun v3 H'3=>v3=.bool b3 ∧Ax.Sub H1 H'3) ∧((x9==2||b2&&!b3)=true→∃(v4:Option Addr),At H1 (b:Addr) [.pointer v4] ∧∃(x20:Int),At H1 ((b1:Addr).add 0) [x20] ∧∃(a3:Addr),v4=some a3 ∧StL H1 (a3.add 9) [x20] fun H14=>Mid1 H14) ∧((x9==2||b2&&!b3)=false→Mid1 H1)) ∧∀(H2:Heap),Mid1 H2→∃(Mid2:Heap→Prop),(∃(x21:Int),At H2 ((b1:Addr).add 2) [x21] ∧((x21==1)=true→∃(Hs1:Heap),
 Ax.Sub Hs1 H2 ∧∃(v5:Option Addr),At Hs1 (b:Addr) [.pointer v5] ∧∃(v6:Option Addr),At Hs1 (b:Addr) [.pointer v6] ∧∃(v7:Option Addr),At Hs1 (b:Addr) [.pointer v7] ∧∃(v8:Option Addr),At Hs1 (b:Addr) [.pointer v8] ∧∃(x22:Int),At Hs1 ((b1:Addr).add 3) [x22] ∧∃(a4:Addr),v5=some a4 ∧∃(x23:Int),At Hs1 ((b1:Addr).add 5) [x23] ∧∃(x24:Int),At Hs1 ((b1:Addr).add 6) [x24] ∧∃(x25:Int),At Hs1 ((b1:Addr).add 7) [x25] ∧StL H2 (a4.add 1) [x22] fun H15=>Ax.Sub Hs1 H15 ∧∃(a5:Addr),v6=some a5 ∧StL H15 (a5.add 6) [x23] fun H16=>Ax.Sub Hs1 H16 ∧∃(a6:Addr),v7=some a6 ∧
 StL H16 (a6.add 7) [x24] fun H17=>Ax.Sub Hs1 H17 ∧∃(a7:Addr),v8=some a7 ∧StL H17 (a7.add 8) [x25] fun H18=>Ax.Sub Hs1 H18 ∧∃(Hs2:Heap),Ax.Sub Hs2 H18 ∧∃(v9:Option Addr),At Hs2 (b:Addr) [.pointer v9] ∧∃(v10:Option Addr),At Hs2 (b:Addr) [.pointer v10] ∧∃(x26:Int),At Hs2 ((b1:Addr).add 1) [x26] ∧∃(a8:Addr),v9=some a8 ∧StL H18 (a8.add 4) [x26] fun H19=>Ax.Sub Hs2 H19 ∧∃(a9:Addr),v10=some a9 ∧StL H19 (a9.add 2) [(1:Int)] fun H110=>Ax.Sub Hs2 H110 ∧Mid2 H110) ∧((x21==1)=false→((x21==3)=true→∃(Hs3:Heap),Ax.Sub Hs3 H2 ∧∃(v11:Option Addr),At Hs3 (b:Addr) [.pointer v11] ∧
 ∃(v12:Option Addr),At Hs3 (b:Addr) [.pointer v12] ∧∃(a10:Addr),v12=some a10 ∧∃(x27:Int),At Hs3 ((b1:Addr).add 0) [x27] ∧∃(x28:Int),At Hs3 ((b1:Addr).add 3) [x28] ∧∃(x29:Int),At Hs3 ((b1:Addr).add 4) [x29] ∧∃(x30:Int),At Hs3 ((b1:Addr).add 1) [x30] ∧(∃(A2:Option Addr),∃(n2 c11:Nat),At H2 (a10.add 16) [.slice A2 n2 c11] ∧Ax.Sub Hs3 H2 ∧∃(x31 x32 x33 x34 x35 x36 x37 x38 x39 x40:Int),TrQ Tryz.prog 91 #[x27,x28,x29,x30] H2 (.agg #[x31,x32,x33,x34,x35,x36,x37,x38,x39,x40]) ∧Ax.Sub Hs3 H2 ∧Ax.Sub Hs3 H2 ∧
 appC 53 10 80 H2 A2 n2 c11 [x31,x32,x33,x34,x35,x36,x37,x38,x39,x40] 1 fun A'2 n'2 c'2 H'5=>Ax.Sub Hs3 H'5 ∧∃(a11:Addr),v11=some a11 ∧StL H'5 (a11.add 16) [.slice A'2 n'2 c'2] fun H111=>Ax.Sub Hs3 H111 ∧Mid2 H111) ∧∃(x41 x42 x43 x44 x45 x46 x47 x48 x49 x50:Int),TrQ Tryz.prog 91 #[x27,x28,x29,x30] H2 (.agg #[x41,x42,x43,x44,x45,x46,x47,x48,x49,x50]) ∧Ax.Sub Hs3 H2 ∧(∃(A3:Option Addr),∃(n3 c13:Nat),At H2 (a10.add 16) [.slice A3 n3 c13] ∧Ax.Sub Hs3 H2 ∧Ax.Sub Hs3 H2 ∧appC 53 10 80 H2 A3 n3 c13 [x41,x42,x43,x44,x45,x46,x47,x48,x49,x50] 1 fun A'3 n'3 c'3 H'7=>Ax.Sub Hs3 H'7 ∧∃(a12:Addr),
 v11=some a12 ∧StL H'7 (a12.add 16) [.slice A'3 n'3 c'3] fun H112=>Ax.Sub Hs3 H112 ∧Mid2 H112) ∧Ax.Sub Hs3 H2 ∧∃(A4:Option Addr) (n4 c15:Nat),At H2 (a10.add 16) [.slice A4 n4 c15] ∧Ax.Sub Hs3 H2 ∧appC 53 10 80 H2 A4 n4 c15 [x41,x42,x43,x44,x45,x46,x47,x48,x49,x50] 1 fun A'4 n'4 c'4 H'8=>Ax.Sub Hs3 H'8 ∧∃(a13:Addr),v11=some a13 ∧StL H'8 (a13.add 16) [.slice A'4 n'4 c'4] fun H113=>Ax.Sub Hs3 H113 ∧Mid2 H113) ∧((x21==3)=false→((x21==4)=true→∃(Hs4:Heap),Ax.Sub Hs4 H2 ∧∃(v15:Option Addr),At Hs4 (b:Addr) [.pointer v15] ∧∃(v16:Option Addr),At Hs4 (b:Addr) [.pointer v16] ∧
 ∃(a14:Addr),v16=some a14 ∧∃(x51:Int),At Hs4 ((b1:Addr).add 0) [x51] ∧∃(x52:Int),At Hs4 ((b1:Addr).add 3) [x52] ∧(∃(A5:Option Addr),∃(n5 c17:Nat),At H2 (a14.add 17) [.slice A5 n5 c17] ∧Ax.Sub Hs4 H2 ∧Ax.Sub Hs4 H2 ∧appC 83 2 16 H2 A5 n5 c17 [x51,x52] 1 fun A'5 n'5 c'5 H'9=>Ax.Sub Hs4 H'9 ∧∃(a15:Addr),v15=some a15 ∧StL H'9 (a15.add 17) [.slice A'5 n'5 c'5] fun H114=>Ax.Sub Hs4 H114 ∧Mid2 H114) ∧Ax.Sub Hs4 H2 ∧∃(A6:Option Addr) (n6 c19:Nat),At H2 (a14.add 17) [.slice A6 n6 c19] ∧Ax.Sub Hs4 H2 ∧appC 83 2 16 H2 A6 n6 c19 [x51,x52] 1 fun A'6 n'6 c'6 H'10=>Ax.Sub Hs4 H'10 ∧∃(a16:Addr),
 v15=some a16 ∧StL H'10 (a16.add 17) [.slice A'6 n'6 c'6] fun H115=>Ax.Sub Hs4 H115 ∧Mid2 H115) ∧((x21==4)=false→((x21==5)=true→∃(Hs5:Heap),Ax.Sub Hs5 H2 ∧∃(v17:Option Addr),At Hs5 (b:Addr) [.pointer v17] ∧∃(v18:Option Addr),At Hs5 (b:Addr) [.pointer v18] ∧∃(a17:Addr),v18=some a17 ∧∃(x53:Int),At Hs5 ((b1:Addr).add 0) [x53] ∧∃(x54:Int),At Hs5 ((b1:Addr).add 3) [x54] ∧∃(x55:Int),At Hs5 ((b1:Addr).add 4) [x55] ∧(∃(A7:Option Addr),∃(n7 c21:Nat),At H2 (a17.add 18) [.slice A7 n7 c21] ∧Ax.Sub Hs5 H2 ∧Ax.Sub Hs5 H2 ∧
 appC 98 5 40 H2 A7 n7 c21 [x53,x54,x55,(0:Int),.bool false] 1 fun A'7 n'7 c'7 H'11=>Ax.Sub Hs5 H'11 ∧∃(a18:Addr),v17=some a18 ∧StL H'11 (a18.add 18) [.slice A'7 n'7 c'7] fun H116=>Ax.Sub Hs5 H116 ∧∃(x56:Int),At H116 ((b1:Addr).add 0) [x56] ∧Tr Tryz.prog 90 #[(1:Int),x56,(0:Int),(0:Int),(0:Int),.pointer (some (b:Addr))] H116 fun v19 H'12 =>∃(A8:Option Addr) (n8 c23:Nat),v19=.slice A8 n8 c23 ∧K (.slice A8 n8 c23) H'12) ∧Ax.Sub Hs5 H2 ∧∃(A9:Option Addr) (n9 c24:Nat),At H2 (a17.add 18) [.slice A9 n9 c24] ∧Ax.Sub Hs5 H2 ∧
 appC 98 5 40 H2 A9 n9 c24 [x53,x54,x55,(0:Int),.bool false] 1 fun A'8 n'8 c'8 H'13=>Ax.Sub Hs5 H'13 ∧∃(a19:Addr),v17=some a19 ∧StL H'13 (a19.add 18) [.slice A'8 n'8 c'8] fun H117=>Ax.Sub Hs5 H117 ∧∃(x57:Int),At H117 ((b1:Addr).add 0) [x57] ∧Tr Tryz.prog 90 #[(1:Int),x57,(0:Int),(0:Int),(0:Int),.pointer (some (b:Addr))] H117 fun v20 H'14 =>∃(A10:Option Addr) (n10 c26:Nat),v20=.slice A10 n10 c26 ∧K (.slice A10 n10 c26) H'14) ∧((x21==5)=false→((x21==6)=true→∃(Hs6:Heap),Ax.Sub Hs6 H2 ∧∃(v21:Option Addr),At Hs6 (b:Addr) [.pointer v21] ∧∃(v22:Option Addr),
 At Hs6 (b:Addr) [.pointer v22] ∧∃(a20:Addr),v22=some a20 ∧∃(A11:Option Addr) (n11 c27:Nat),At H2 (a20.add 16) [.slice A11 n11 c27] ∧Ax.Sub Hs6 H2 ∧Tr Tryz.prog 92 #[.slice A11 n11 c27,.func (Fn.func (93:Nat)) #[] #[.pointer (some (b1:Addr))]] H2 fun v23 H'15 =>∃(A12:Option Addr) (n12 c28:Nat),v23=.slice A12 n12 c28 ∧Ax.Sub Hs6 H'15 ∧∃(a21:Addr),v21=some a21 ∧StL H'15 (a21.add 16) [.slice A12 n12 c28] fun H118=>Ax.Sub Hs6 H118 ∧Mid2 H118) ∧((x21==6)=false→((x21==22)=true→∃(Hs7:Heap),Ax.Sub Hs7 H2 ∧∃(v24:Option Addr),At Hs7 (b:Addr) [.pointer v24] ∧∃(v25:Option Addr),
 At Hs7 (b:Addr) [.pointer v25] ∧∃(a22:Addr),v25=some a22 ∧∃(A13:Option Addr) (n13 c30:Nat),At H2 (a22.add 16) [.slice A13 n13 c30] ∧Ax.Sub Hs7 H2 ∧Tr Tryz.prog 92 #[.slice A13 n13 c30,.func (Fn.func (93:Nat)) #[] #[.pointer (some (b1:Addr))]] H2 fun v26 H'16 =>∃(A14:Option Addr) (n14 c31:Nat),v26=.slice A14 n14 c31 ∧Ax.Sub Hs7 H'16 ∧∃(a23:Addr),v24=some a23 ∧StL H'16 (a23.add 16) [.slice A14 n14 c31] fun H119=>Ax.Sub Hs7 H119 ∧Mid2 H119) ∧((x21==22)=false→((x21==23)=true→∃(Hs8:Heap),Ax.Sub Hs8 H2 ∧∃(v27:Option Addr),At Hs8 (b:Addr) [.pointer v27] ∧∃(v28:Option Addr),
 At Hs8 (b:Addr) [.pointer v28] ∧∃(a24:Addr),v28=some a24 ∧∃(A15:Option Addr) (n15 c33:Nat),At H2 (a24.add 16) [.slice A15 n15 c33] ∧Ax.Sub Hs8 H2 ∧Tr Tryz.prog 92 #[.slice A15 n15 c33,.func (Fn.func (93:Nat)) #[] #[.pointer (some (b1:Addr))]] H2 fun v29 H'17 =>∃(A16:Option Addr) (n16 c34:Nat),v29=.slice A16 n16 c34 ∧Ax.Sub Hs8 H'17 ∧∃(a25:Addr),v27=some a25 ∧StL H'17 (a25.add 16) [.slice A16 n16 c34] fun H120=>Ax.Sub Hs8 H120 ∧Mid2 H120) ∧((x21==23)=false→((x21==24)=true→∃(Hs9:Heap),Ax.Sub Hs9 H2 ∧∃(v30:Option Addr),At Hs9 (b:Addr) [.pointer v30] ∧∃(v31:Option Addr),
 At Hs9 (b:Addr) [.pointer v31] ∧∃(a26:Addr),v31=some a26 ∧∃(A17:Option Addr) (n17 c36:Nat),At H2 (a26.add 16) [.slice A17 n17 c36] ∧Ax.Sub Hs9 H2 ∧Tr Tryz.prog 92 #[.slice A17 n17 c36,.func (Fn.func (93:Nat)) #[] #[.pointer (some (b1:Addr))]] H2 fun v32 H'18 =>∃(A18:Option Addr) (n18 c37:Nat),v32=.slice A18 n18 c37 ∧Ax.Sub Hs9 H'18 ∧∃(a27:Addr),v30=some a27 ∧StL H'18 (a27.add 16) [.slice A18 n18 c37] fun H121=>Ax.Sub Hs9 H121 ∧Mid2 H121) ∧((x21==24)=false→((x21==7)=true→∃(Hs10:Heap),Ax.Sub Hs10 H2 ∧∃(v33:Option Addr),At Hs10 (b:Addr) [.pointer v33] ∧
 ∃(v34:Option Addr),At Hs10 (b:Addr) [.pointer v34] ∧∃(a28:Addr),v34=some a28 ∧∃(A19:Option Addr) (n19 c39:Nat),At H2 (a28.add 17) [.slice A19 n19 c39] ∧Ax.Sub Hs10 H2 ∧Tr Tryz.prog 94 #[.slice A19 n19 c39,.func (Fn.func (95:Nat)) #[] #[.pointer (some (b1:Addr))]] H2 fun v35 H'19 =>∃(A20:Option Addr) (n20 c40:Nat),v35=.slice A20 n20 c40 ∧Ax.Sub Hs10 H'19 ∧∃(a29:Addr),v33=some a29 ∧StL H'19 (a29.add 17) [.slice A20 n20 c40] fun H122=>Ax.Sub Hs10 H122 ∧Mid2 H122) ∧((x21==7)=false→((x21==25)=true→∃(Hs11:Heap),Ax.Sub Hs11 H2 ∧∃(v36:Option Addr),
 At Hs11 (b:Addr) [.pointer v36] ∧∃(v37:Option Addr),At Hs11 (b:Addr) [.pointer v37] ∧∃(a30:Addr),v37=some a30 ∧∃(A21:Option Addr) (n21 c42:Nat),At H2 (a30.add 17) [.slice A21 n21 c42] ∧Ax.Sub Hs11 H2 ∧Tr Tryz.prog 94 #[.slice A21 n21 c42,.func (Fn.func (95:Nat)) #[] #[.pointer (some (b1:Addr))]] H2 fun v38 H'20 =>∃(A22:Option Addr) (n22 c43:Nat),v38=.slice A22 n22 c43 ∧Ax.Sub Hs11 H'20 ∧∃(a31:Addr),v36=some a31 ∧StL H'20 (a31.add 17) [.slice A22 n22 c43] fun H123=>Ax.Sub Hs11 H123 ∧Mid2 H123) ∧((x21==25)=false→((x21==8)=true→∃(x58:Int),At H2 ((b1:Addr).add 3) [x58] ∧
 Tr Tryz.prog 90 #[(3:Int),x58,(0:Int),(0:Int),(0:Int),.pointer (some (b:Addr))] H2 fun v39 H'21 =>∃(A23:Option Addr) (n23 c45:Nat),v39=.slice A23 n23 c45 ∧K (.slice A23 n23 c45) H'21) ∧((x21==8)=false→((x21==9)=true→∃(x59:Int),At H2 ((b1:Addr).add 0) [x59] ∧∃(x60:Int),At H2 ((b1:Addr).add 3) [x60] ∧∃(x61:Int),At H2 ((b1:Addr).add 4) [x61] ∧∃(x62:Int),At H2 ((b1:Addr).add 5) [x62] ∧Tr Tryz.prog 90 #[(2:Int),x59,x60,x61,x62,.pointer (some (b:Addr))] H2 fun v40 H'22 =>∃(A24:Option Addr) (n24 c46:Nat),v40=.slice A24 n24 c46 ∧K (.slice A24 n24 c46) H'22) ∧
 ((x21==9)=false→((x21==10)=true→∃(Hs12:Heap),Ax.Sub Hs12 H2 ∧∃(v41:Option Addr),At Hs12 (b:Addr) [.pointer v41] ∧∃(a32:Addr),v41=some a32 ∧∃(x63:Int),At Hs12 ((b1:Addr).add 3) [x63] ∧∃(x64:Int),At Hs12 ((b1:Addr).add 4) [x64] ∧((0:Int)≤x63 ∧x63<(↑(4:Nat):Int)) ∧StL H2 ((a32.add 11).add (x63.toNat*1)) [x64] fun H124=>Ax.Sub Hs12 H124 ∧Mid2 H124) ∧((x21==10)=false→((x21==21)=true→∃(Hs13:Heap),Ax.Sub Hs13 H2 ∧∃(v42:Option Addr),At Hs13 (b:Addr) [.pointer v42] ∧∃(v43:Option Addr),At Hs13 (b:Addr) [.pointer v43] ∧∃(a33:Addr),v43=some a33 ∧∃(x65:Int),
 At Hs13 ((b1:Addr).add 0) [x65] ∧(∃(A25:Option Addr),∃(n25 c48:Nat),At H2 (a33.add 19) [.slice A25 n25 c48] ∧Ax.Sub Hs13 H2 ∧Ax.Sub Hs13 H2 ∧appC 107 4 32 H2 A25 n25 c48 [x65,(0:Int),(0:Int),(0:Int)] 1 fun A'9 n'9 c'9 H'23=>Ax.Sub Hs13 H'23 ∧∃(a34:Addr),v42=some a34 ∧StL H'23 (a34.add 19) [.slice A'9 n'9 c'9] fun H125=>Ax.Sub Hs13 H125 ∧Mid2 H125) ∧Ax.Sub Hs13 H2 ∧∃(A26:Option Addr) (n26 c50:Nat),At H2 (a33.add 19) [.slice A26 n26 c50] ∧Ax.Sub Hs13 H2 ∧appC 107 4 32 H2 A26 n26 c50 [x65,(0:Int),(0:Int),(0:Int)] 1 fun A'10 n'10 c'10 H'24=>Ax.Sub Hs13 H'24 ∧∃(a35:Addr),v42=some a35 ∧
 StL H'24 (a35.add 19) [.slice A'10 n'10 c'10] fun H126=>Ax.Sub Hs13 H126 ∧Mid2 H126) ∧((x21==21)=false→((x21==12)=true→∃(v44:Option Addr),At H2 (b:Addr) [.pointer v44] ∧∃(x66:Int),At H2 ((b1:Addr).add 3) [x66] ∧Tr Tryz.prog 96 #[.pointer v44,x66,(1:Int),(0:Int),(0:Int)] H2 fun v45 H'25=>v45=.tuple #[] ∧Mid2 H'25) ∧((x21==12)=false→((x21==13)=true→∃(v46:Option Addr),At H2 (b:Addr) [.pointer v46] ∧∃(x67:Int),At H2 ((b1:Addr).add 3) [x67] ∧∃(x68:Int),At H2 ((b1:Addr).add 4) [x68] ∧
 Tr Tryz.prog 96 #[.pointer v46,x67,(2:Int),x68,(0:Int)] H2 fun v47 H'26=>v47=.tuple #[] ∧Mid2 H'26) ∧((x21==13)=false→((x21==14)=true→∃(v48:Option Addr),At H2 (b:Addr) [.pointer v48] ∧∃(x69:Int),At H2 ((b1:Addr).add 3) [x69] ∧∃(x70:Int),At H2 ((b1:Addr).add 4) [x70] ∧∃(x71:Int),At H2 ((b1:Addr).add 5) [x71] ∧Tr Tryz.prog 96 #[.pointer v48,x69,(3:Int),x70,x71] H2 fun v49 H'27=>v49=.tuple #[] ∧Mid2 H'27) ∧((x21==14)=false→((x21==26)=true→∃(v50:Option Addr),At H2 (b:Addr) [.pointer v50] ∧∃(x72:Int),At H2 ((b1:Addr).add 3) [x72] ∧
 Tr Tryz.prog 97 #[.pointer v50,x72,.func (Fn.func (98:Nat)) #[] #[.pointer (some (b1:Addr))]] H2 fun v51 H'28=>v51=.tuple #[] ∧Mid2 H'28) ∧((x21==26)=false→((x21==27)=true→∃(v52:Option Addr),At H2 (b:Addr) [.pointer v52] ∧∃(x73:Int),At H2 ((b1:Addr).add 3) [x73] ∧Tr Tryz.prog 97 #[.pointer v52,x73,.func (Fn.func (99:Nat)) #[] #[]] H2 fun v53 H'29=>v53=.tuple #[] ∧Mid2 H'29) ∧((x21==27)=false→((x21==28)=true→∃(v54:Option Addr),At H2 (b:Addr) [.pointer v54] ∧∃(x74:Int),At H2 ((b1:Addr).add 3) [x74] ∧
 Tr Tryz.prog 97 #[.pointer v54,x74,.func (Fn.func (99:Nat)) #[] #[]] H2 fun v55 H'30=>v55=.tuple #[] ∧Mid2 H'30) ∧((x21==28)=false→Mid2 H2))))))))))))))))))))) ∧∀(H3:Heap),Mid2 H3→∃(x75:Int),At H3 ((b1:Addr).add 2) [x75] ∧∃(b4:Bool),TrQ Tryz.prog 53 #[x75] H3 (.bool b4) ∧((!b4)=true→K (.slice none 0 0) H3) ∧((!b4)=false→∃(Hs14:Heap),Ax.Sub Hs14 H3 ∧∃(v57:Option Addr),At Hs14 (b:Addr) [.pointer v57] ∧∃(v58:Option Addr),At Hs14 (b:Addr) [.pointer v58] ∧∃(v59:Option Addr),At Hs14 (b:Addr) [.pointer v59] ∧∃(x76:Int),At Hs14 ((b1:Addr).add 2) [x76] ∧∃(x77:Int),
 At Hs14 ((b1:Addr).add 3) [x77] ∧∃(x78:Int),At Hs14 ((b1:Addr).add 1) [x78] ∧∃(x79:Int),TrQ Tryz.prog 100 #[x76] H3 (.int .i64 x79) ∧Ax.Sub Hs14 H3 ∧∃(a36:Addr),v57=some a36 ∧StL H3 (a36.add 2) [x79] fun H127=>Ax.Sub Hs14 H127 ∧∃(a37:Addr),v58=some a37 ∧StL H127 (a37.add 10) [x77] fun H128=>Ax.Sub Hs14 H128 ∧∃(a38:Addr),v59=some a38 ∧StL H128 (a38.add 5) [x78] fun H129=>Ax.Sub Hs14 H129 ∧∃(Hs15:Heap),Ax.Sub Hs15 H129 ∧∃(v61:Option Addr),At Hs15 (b:Addr) [.pointer v61] ∧∃(a39:Addr),v61=some a39 ∧∃(v62:Option Addr),At Hs15 (b:Addr) [.pointer v62] ∧
 StL H129 (a39.add 16) [.slice none 0 0] fun H130=>Ax.Sub Hs15 H130 ∧∃(a40:Addr),v62=some a40 ∧StL H130 (a40.add 17) [.slice none 0 0] fun H131=>Ax.Sub Hs15 H131 ∧∃(v63:Option Addr),At H131 (b:Addr) [.pointer v63] ∧∃(a41:Addr),v63=some a41 ∧∃(x80:Int),At H131 (a41.add 7) [x80] ∧∃(x81:Int),((!x80==0)=true→At H131 ((b1:Addr).add 2) [x81]) ∧((x80==0||x81==18)=true→K (.slice none 0 0) H131) ∧((x80==0||x81==18)=false→Tr Tryz.prog 90 #[(4:Int),(0:Int),(0:Int),(0:Int),(0:Int),.pointer (some (b:Addr))] H131 fun v64 H'33 =>∃(A27:Option Addr) (n27 c57:Nat),
 v64=.slice A27 n27 c57 ∧K (.slice A27 n27 c57) H'33))

theorem v43 {r:Option Addr} {eId eTime eKind eA eB eC eD eE eF:Int} {H:Heap} {K:Value→Heap→Prop} (h:F43 r eId eTime eKind eA eB eC eD eE eF H K):Tr Tryz.prog 43 #[.pointer r,.agg #[.int .i64 eId,.int .i64 eTime,.int .i64 eKind,.int .i64 eA,.int .i64 eB,.int .i64 eC,.int .i64 eD,.int .i64 eE,.int .i64 eF]] H K :=
 tr_of_eq (C:=c43) Tryz.func43 (by kernel_rfl) h
noncomputable def c90:Cx:={ P:=Tryz.prog,res:=[],pub:=[22],loops:=[],quiet:=[],asm:=true }
def F90 (kind event a b c:Int) (cap0:Addr) (H:Heap) (K:Value→Heap→Prop):Prop :=
 ∃(v:Option Addr),At H cap0 [.pointer v] ∧∃(a1:Addr),v=some a1 ∧∃(x:Int),At H (a1.add 0) [x] ∧∀b1,H b1=none→∀H1,H1=H.upd b1 (.cells #[(0:Int),kind,x,event,a,b,c] 160)→K (.slice (some (b1:Addr)) (1:Nat) (1:Nat)) H1

theorem v90 {kind event a b c:Int} {cap0:Addr} {H:Heap} {K:Value→Heap→Prop} (h:F90 kind event a b c cap0 H K):Tr Tryz.prog 90 #[.int .i64 kind,.int .i64 event,.int .i64 a,.int .i64 b,.int .i64 c,.pointer (some cap0)] H K :=
 tr_of_eq (C:=c90) Tryz.func90 (by kernel_rfl) h
noncomputable def c93:Cx:={ P:=Tryz.prog,res:=[],pub:=[],loops:=[],quiet:=[],asm:=true }
def F93 (aEvent aOpts aInput aAt aAttempt aPhase aSince aBeat aDetail aAgain:Int) (cap0:Addr) (H:Heap) (K:Value→Heap→Prop):Prop :=
 ∃(x:Int),At H (cap0.add 3) [x] ∧K (.bool (aEvent==x)) H

theorem v93 {aEvent aOpts aInput aAt aAttempt aPhase aSince aBeat aDetail aAgain:Int} {cap0:Addr} {H:Heap} {K:Value→Heap→Prop} (h:F93 aEvent aOpts aInput aAt aAttempt aPhase aSince aBeat aDetail aAgain cap0 H K):Tr Tryz.prog 93 #[.agg #[.int .i64 aEvent,.int .i64 aOpts,.int .i64 aInput,.int .i64 aAt,.int .i64 aAttempt,.int .i64 aPhase,.int .i64 aSince,.int .i64 aBeat,.int .i64 aDetail,.int .i64 aAgain],.pointer (some cap0)] H K :=
 tr_of_eq (C:=c93) Tryz.func93 (by kernel_rfl) h
noncomputable def c95:Cx:={ P:=Tryz.prog,res:=[],pub:=[],loops:=[],quiet:=[],asm:=true }
def F95 (tEvent tAt:Int) (cap0:Addr) (H:Heap) (K:Value→Heap→Prop):Prop :=
 ∃(x:Int),At H (cap0.add 3) [x] ∧K (.bool (tEvent==x)) H

theorem v95 {tEvent tAt:Int} {cap0:Addr} {H:Heap} {K:Value→Heap→Prop} (h:F95 tEvent tAt cap0 H K):Tr Tryz.prog 95 #[.agg #[.int .i64 tEvent,.int .i64 tAt],.pointer (some cap0)] H K :=
 tr_of_eq (C:=c95) Tryz.func95 (by kernel_rfl) h
noncomputable def c98:Cx:={ P:=Tryz.prog,res:=[],pub:=[],loops:=[],quiet:=[],asm:=true }
def F98 (k:Option Addr) (cap0:Addr) (H:Heap) (K:Value→Heap→Prop):Prop :=
 ∃(x:Int),At H (cap0.add 4) [x] ∧∃(a:Addr),k=some a ∧StL H (a.add 3) [x] fun H1=>K (.tuple #[]) H1

theorem v98 {k:Option Addr} {cap0:Addr} {H:Heap} {K:Value→Heap→Prop} (h:F98 k cap0 H K):Tr Tryz.prog 98 #[.pointer k,.pointer (some cap0)] H K :=
 tr_of_eq (C:=c98) Tryz.func98 (by kernel_rfl) h
noncomputable def c99:Cx:={ P:=Tryz.prog,res:=[],pub:=[],loops:=[],quiet:=[],asm:=true }
def F99 (k:Option Addr) (H:Heap) (K:Value→Heap→Prop):Prop :=
 ∃(a:Addr),k=some a ∧StL H (a.add 4) [.bool true] fun H1=>K (.tuple #[]) H1

theorem v99 {k:Option Addr} {H:Heap} {K:Value→Heap→Prop} (h:F99 k H K):Tr Tryz.prog 99 #[.pointer k] H K :=
 tr_of_eq (C:=c99) Tryz.func99 (by kernel_rfl) h
noncomputable def c92:Cx:={ P:=Tryz.prog,res:=[],pub:=[],loops:=[],quiet:=[],asm:=true }
def F92 (lA:Option Addr) (ln lc:Nat) (is0:Value) (H:Heap) (K:Value→Heap→Prop):Prop:=Tr Tryz.prog 55 #[.slice lA ln lc] H fun v H' =>
 ∃(A:Option Addr) (n c:Nat),v=.slice A n c ∧Tr Tryz.prog 131 #[.slice A n c,is0] H' fun v1 H'1 =>∃(A1:Option Addr) (n1 c1:Nat),v1=.slice A1 n1 c1 ∧K (.slice A1 n1 c1) H'1

theorem v92 {lA:Option Addr} {ln lc:Nat} {is0:Value} {H:Heap} {K:Value→Heap→Prop} (h:F92 lA ln lc is0 H K):Tr Tryz.prog 92 #[.slice lA ln lc,is0] H K :=
 tr_of_eq (C:=c92) Tryz.func92 (by kernel_rfl) h
noncomputable def c94:Cx:={ P:=Tryz.prog,res:=[],pub:=[],loops:=[],quiet:=[],asm:=true }
def F94 (lA:Option Addr) (ln lc:Nat) (is0:Value) (H:Heap) (K:Value→Heap→Prop):Prop:=Tr Tryz.prog 81 #[.slice lA ln lc] H fun v H' =>
 ∃(A:Option Addr) (n c:Nat),v=.slice A n c ∧Tr Tryz.prog 132 #[.slice A n c,is0] H' fun v1 H'1 =>∃(A1:Option Addr) (n1 c1:Nat),v1=.slice A1 n1 c1 ∧K (.slice A1 n1 c1) H'1

theorem v94 {lA:Option Addr} {ln lc:Nat} {is0:Value} {H:Heap} {K:Value→Heap→Prop} (h:F94 lA ln lc is0 H K):Tr Tryz.prog 94 #[.slice lA ln lc,is0] H K :=
 tr_of_eq (C:=c94) Tryz.func94 (by kernel_rfl) h
noncomputable def c55:Cx:={ P:=Tryz.prog,res:=[],pub:=[5],loops:=[],quiet:=[],asm:=true }
def F55 (sA:Option Addr) (sn sc:Nat) (H:Heap) (K:Value→Heap→Prop):Prop:=(sA.isNone=true→K (.slice none 0 0) H) ∧
 (sA.isNone=false→∀b,H b=none→∀H1,H1=H.upd b (.cells #[] 53)→appS 53 10 80 H1 (some (b:Addr)) (0:Nat) (0:Nat) sA sn fun A' n' c' H'=>K (.slice A' n' c') H')

theorem v55 {sA:Option Addr} {sn sc:Nat} {H:Heap} {K:Value→Heap→Prop} (h:F55 sA sn sc H K):Tr Tryz.prog 55 #[.slice sA sn sc] H K :=
 tr_of_eq (C:=c55) Tryz.func55 (by kernel_rfl) h
noncomputable def c81:Cx:={ P:=Tryz.prog,res:=[],pub:=[5],loops:=[],quiet:=[],asm:=true }
def F81 (sA:Option Addr) (sn sc:Nat) (H:Heap) (K:Value→Heap→Prop):Prop:=(sA.isNone=true→K (.slice none 0 0) H) ∧
 (sA.isNone=false→∀b,H b=none→∀H1,H1=H.upd b (.cells #[] 83)→appS 83 2 16 H1 (some (b:Addr)) (0:Nat) (0:Nat) sA sn fun A' n' c' H'=>K (.slice A' n' c') H')

theorem v81 {sA:Option Addr} {sn sc:Nat} {H:Heap} {K:Value→Heap→Prop} (h:F81 sA sn sc H K):Tr Tryz.prog 81 #[.slice sA sn sc] H K :=
 tr_of_eq (C:=c81) Tryz.func81 (by kernel_rfl) h
noncomputable def c131:Cx:={ P:=Tryz.prog,res:=[],pub:=[],loops:=[⟨5,[(5,.int .i64),(6,.int .i64)],[7,16,17,18,19,20,21,22,23,24,25,26,27,28,29,30,31,32,33,34,35],[]⟩],quiet:=[],asm:=true,dyn:=[26] }
def F131 (sA:Option Addr) (sn sc:Nat) (del:Value) (H:Heap) (K:Value→Heap→Prop):Prop:=Tr Tryz.prog 159 #[.slice sA sn sc,del] H fun v H' =>
 ∃(x:Int),v=.int .i64 x ∧((x==(-1))=true→K (.slice sA sn sc) H') ∧((x==(-1))=false→∃(Rel:Int→Int→Heap→Prop) (mu:Int→Int→Heap→Nat),Rel x (i64.wrap (x+1)) H' ∧∀(x1 x2:Int) (H1:Heap),Rel x1 x2 H1→(decide (x2<(↑sn:Int))=true→∃(a:Addr),InB sA a x2 sn ∧∃(x3 x4 x5 x6 x7 x8 x9 x10 x11 x12:Int),At H1 (a.add (x2.toNat*10)) [x3,x4,x5,x6,x7,x8,x9,x10,x11,x12] ∧∃(g:Nat) (all:List Value),isFn Tryz.prog del [.agg #[x3,x4,x5,x6,x7,x8,x9,x10,x11,x12]] g all ∧Tr Tryz.prog g { toList:=all } H1 fun v1 H'1 =>∃(b:Bool),v1=.bool b ∧((!b)=true→∃(a1:Addr),
 InB sA a1 x1 sn ∧StL H'1 (a1.add (x1.toNat*10)) [x3,x4,x5,x6,x7,x8,x9,x10,x11,x12] fun H1_1=>Rel (i64.wrap (x1+1)) (i64.wrap (x2+1)) H1_1 ∧mu (i64.wrap (x1+1)) (i64.wrap (x2+1)) H1_1<mu x1 x2 H1) ∧((!b)=false→Rel x1 (i64.wrap (x2+1)) H'1 ∧mu x1 (i64.wrap (x2+1)) H'1<mu x1 x2 H1)) ∧(decide (x2<(↑sn:Int))=false→((0:Int)≤x1 ∧x1≤(↑sn:Int)) ∧Sm Tryz.prog (Builtin.clear_ #[(29:Nat)] 0 #[.slice (if sc=x1.toNat then sA else Option.map (fun (x:Addr)=>x.add (x1.toNat*10)) sA) (sn-x1.toNat) (sc-x1.toNat)]) H1 fun v2 H'2=>((0:Int)≤x1 ∧x1≤(↑sc:Int)) ∧
 K (.slice (if sc=(0:Nat) then sA else Option.map (fun (x:Addr)=>x.add ((0:Nat)*10)) sA) (x1.toNat-(0:Nat)) (sc-(0:Nat))) H'2))

theorem v131 {sA:Option Addr} {sn sc:Nat} {del:Value} {H:Heap} {K:Value→Heap→Prop} (h:F131 sA sn sc del H K):Tr Tryz.prog 131 #[.slice sA sn sc,del] H K :=
 tr_of_eq (C:=c131) Tryz.func131 (by kernel_rfl) h
noncomputable def c132:Cx:={ P:=Tryz.prog,res:=[],pub:=[],loops:=[⟨5,[(5,.int .i64),(6,.int .i64)],[7,16,17,18,19,20,21,22,23,24,25,26,27,28,29,30,31,32,33,34,35],[]⟩],quiet:=[],asm:=true,dyn:=[26] }
def F132 (sA:Option Addr) (sn sc:Nat) (del:Value) (H:Heap) (K:Value→Heap→Prop):Prop:=Tr Tryz.prog 160 #[.slice sA sn sc,del] H fun v H' =>
 ∃(x:Int),v=.int .i64 x ∧((x==(-1))=true→K (.slice sA sn sc) H') ∧((x==(-1))=false→∃(Rel:Int→Int→Heap→Prop) (mu:Int→Int→Heap→Nat),Rel x (i64.wrap (x+1)) H' ∧∀(x1 x2:Int) (H1:Heap),Rel x1 x2 H1→(decide (x2<(↑sn:Int))=true→∃(a:Addr),InB sA a x2 sn ∧∃(x3 x4:Int),At H1 (a.add (x2.toNat*2)) [x3,x4] ∧∃(g:Nat) (all:List Value),isFn Tryz.prog del [.agg #[x3,x4]] g all ∧Tr Tryz.prog g { toList:=all } H1 fun v1 H'1 =>∃(b:Bool),v1=.bool b ∧((!b)=true→∃(a1:Addr),InB sA a1 x1 sn ∧
 StL H'1 (a1.add (x1.toNat*2)) [x3,x4] fun H1_1=>Rel (i64.wrap (x1+1)) (i64.wrap (x2+1)) H1_1 ∧mu (i64.wrap (x1+1)) (i64.wrap (x2+1)) H1_1<mu x1 x2 H1) ∧((!b)=false→Rel x1 (i64.wrap (x2+1)) H'1 ∧mu x1 (i64.wrap (x2+1)) H'1<mu x1 x2 H1)) ∧(decide (x2<(↑sn:Int))=false→((0:Int)≤x1 ∧x1≤(↑sn:Int)) ∧Sm Tryz.prog (Builtin.clear_ #[(30:Nat)] 0 #[.slice (if sc=x1.toNat then sA else Option.map (fun (x:Addr)=>x.add (x1.toNat*2)) sA) (sn-x1.toNat) (sc-x1.toNat)]) H1 fun v2 H'2=>((0:Int)≤x1 ∧x1≤(↑sc:Int)) ∧
 K (.slice (if sc=(0:Nat) then sA else Option.map (fun (x:Addr)=>x.add ((0:Nat)*2)) sA) (x1.toNat-(0:Nat)) (sc-(0:Nat))) H'2))

theorem v132 {sA:Option Addr} {sn sc:Nat} {del:Value} {H:Heap} {K:Value→Heap→Prop} (h:F132 sA sn sc del H K):Tr Tryz.prog 132 #[.slice sA sn sc,del] H K :=
 tr_of_eq (C:=c132) Tryz.func132 (by kernel_rfl) h
noncomputable def c159:Cx:={ P:=Tryz.prog,res:=[],pub:=[],loops:=[⟨2,[(8,.int .i64)],[4,5,9,10,11,12,13,14,15,16,17,18],[]⟩],quiet:=[],asm:=true,dyn:=[11] }
def F159 (sA:Option Addr) (sn sc:Nat) (f:Value) (H:Heap) (K:Value→Heap→Prop):Prop :=
 ∃(Rel:Int→Heap→Prop) (mu:Int→Heap→Nat),Rel (0:Int) H ∧∀(x:Int) (H1:Heap),Rel x H1→(decide (x<(↑sn:Int))=true→∃(a:Addr),InB sA a x sn ∧∃(x1 x2 x3 x4 x5 x6 x7 x8 x9 x10:Int),At H1 (a.add (x.toNat*10)) [x1,x2,x3,x4,x5,x6,x7,x8,x9,x10] ∧∃(g:Nat) (all:List Value),isFn Tryz.prog f [.agg #[x1,x2,x3,x4,x5,x6,x7,x8,x9,x10]] g all ∧Tr Tryz.prog g { toList:=all } H1 fun v H' =>∃(b:Bool),v=.bool b ∧(b=true→K (.int .i64 x) H') ∧(b=false→Rel (i64.wrap (x+1)) H' ∧mu (i64.wrap (x+1)) H'<mu x H1)) ∧(decide (x<(↑sn:Int))=false→K (.int .i64 (-1)) H1)

theorem v159 {sA:Option Addr} {sn sc:Nat} {f:Value} {H:Heap} {K:Value→Heap→Prop} (h:F159 sA sn sc f H K):Tr Tryz.prog 159 #[.slice sA sn sc,f] H K :=
 tr_of_eq (C:=c159) Tryz.func159 (by kernel_rfl) h
noncomputable def c160:Cx:={ P:=Tryz.prog,res:=[],pub:=[],loops:=[⟨2,[(8,.int .i64)],[4,5,9,10,11,12,13,14,15,16,17,18],[]⟩],quiet:=[],asm:=true,dyn:=[11] }
def F160 (sA:Option Addr) (sn sc:Nat) (f:Value) (H:Heap) (K:Value→Heap→Prop):Prop :=
 ∃(Rel:Int→Heap→Prop) (mu:Int→Heap→Nat),Rel (0:Int) H ∧∀(x:Int) (H1:Heap),Rel x H1→(decide (x<(↑sn:Int))=true→∃(a:Addr),InB sA a x sn ∧∃(x1 x2:Int),At H1 (a.add (x.toNat*2)) [x1,x2] ∧∃(g:Nat) (all:List Value),isFn Tryz.prog f [.agg #[x1,x2]] g all ∧Tr Tryz.prog g { toList:=all } H1 fun v H' =>∃(b:Bool),v=.bool b ∧(b=true→K (.int .i64 x) H') ∧(b=false→Rel (i64.wrap (x+1)) H' ∧mu (i64.wrap (x+1)) H'<mu x H1)) ∧(decide (x<(↑sn:Int))=false→K (.int .i64 (-1)) H1)

theorem v160 {sA:Option Addr} {sn sc:Nat} {f:Value} {H:Heap} {K:Value→Heap→Prop} (h:F160 sA sn sc f H K):Tr Tryz.prog 160 #[.slice sA sn sc,f] H K :=
 tr_of_eq (C:=c160) Tryz.func160 (by kernel_rfl) h
noncomputable def c51:Cx:={ P:=Tryz.prog,res:=[],pub:=[5],loops:=[],quiet:=[],asm:=true }
def F51 (sA:Option Addr) (sn sc:Nat) (H:Heap) (K:Value→Heap→Prop):Prop:=(sA.isNone=true→K (.slice none 0 0) H) ∧
 (sA.isNone=false→∀b,H b=none→∀H1,H1=H.upd b (.cells #[] 47)→appS 47 9 72 H1 (some (b:Addr)) (0:Nat) (0:Nat) sA sn fun A' n' c' H'=>K (.slice A' n' c') H')

theorem v51 {sA:Option Addr} {sn sc:Nat} {H:Heap} {K:Value→Heap→Prop} (h:F51 sA sn sc H K):Tr Tryz.prog 51 #[.slice sA sn sc] H K :=
 tr_of_eq (C:=c51) Tryz.func51 (by kernel_rfl) h
end Go.Proofs.YtkofafcgcnciaaaGreatDoor
set_option maxRecDepth 100000
namespace Go.Ax
open Go.RowKit
theorem keepsRow {H:Heap} {w:World} (h:Holds H w) {b:Nat} {c:Array Value} {T:TypeId} (hb:H b=some (.cells c T (0,0))) (c':Array Value):Keeps H w (H.upd b (.cells c' T (0,0))) (w.setRow b c'):=by
 have hw:=h _ _ hb
 refine ⟨fun b' o e=>?_,fun b' hb' e=>?_,by simp,rfl,rfl,rfl⟩
 ·by_cases hbb:b'=b
  ·subst hbb; rw [Heap.upd_same] at e; injection e with e; subst e; exact setRow_heap w b' c c' T _ hw
  ·rw [Heap.upd_other hbb] at e
   exact (setRow_other w b b' c' hbb).trans (h b' o e)
 ·have hne:b'≠b:=fun q=>by subst q; rw [hb] at e; cases e
  exact ⟨setRow_other w b b' c' hne,by rw [Heap.upd_other hne]; exact e⟩
theorem sm_clear {P : Program} {H : Heap} {b off : Nat} {cur : Array Value} {T t e : TypeId} (hb : H b=some (.cells cur T (0, 0))) (hu : P.underlying t=some (.slice e)) {z : Value} (hz : (P.info? e).bind (·.zero)=some z) (h1 : ∀v∈z.cells.toList, v.oneCell'=true) (n c : Nat) (ho : off+(n+1)*z.cells.size≤cur.size) :
  Sm P (Builtin.clear_ #[t] 0 #[.slice (some ⟨b,off,none⟩) (n+1) c]) H (fun _ H'=>∃zs:List Value,zs.length=(n+1)*z.cells.size∧H'=H.upd b (.cells (splice cur off zs) T (0,0))):=by
 refine ⟨fun w hw=>?_⟩
 have hl:(Builtin.zeroCells z.cells (n+1)).toList.length=(n+1)*z.cells.size:=by simp [Builtin.zeroCells]
 have hone:∀v∈(Builtin.zeroCells z.cells (n+1)).toList,v.oneCell'=true:=fun v hv=>by
  simp only [Builtin.zeroCells,Array.toList_map,List.mem_map] at hv
  obtain ⟨i,hi,rfl⟩:=hv
  have hi:i<(n+1)*z.cells.size:=by simpa using hi
  have hp:0<z.cells.size:=by
   rcases Nat.eq_zero_or_pos z.cells.size with q|q
   ·rw [q] at hi; omega
   ·exact q
  have hm:i % z.cells.size<z.cells.size:=Nat.mod_lt _ hp
  rw [getElem!_pos z.cells _ hm]
  exact h1 _ (by simp)
 have hst:=run_storeCells_at P b off T (Builtin.zeroCells z.cells (n+1)).toList 0 cur w (hw _ _ hb) (by rw [hl]; omega) hone
 cases hq:P.info? e with
 | none=>rw [hq] at hz; cases hz
 | some i =>
  have hz':i.zero=some z:=by simpa [hq] using hz
  refine ⟨.tuple #[],H.upd b (.cells (splice cur off (Builtin.zeroCells z.cells (n+1)).toList) T (0,0)),_,?_,keepsRow hw hb _,_,hl,rfl⟩
  simp only [Builtin.clear_,List.getElem?_toArray,List.getElem?_cons_zero,Sem.run_bind,run_underlying hu,Result.andThen_ok]
  have hzr:(zeroValue e).run P w=.ok z w:=by simp [zeroValue,typeInfo,hq,hz']
  simp only [hzr,Result.andThen_ok,hst,Sem.run_pure]
  rfl
theorem add0 (a:Addr) (sz:Nat):a.add (0*sz)=a:=by rw [Nat.zero_mul]; rfl
theorem head0 {A:Option Addr} {c sz:Nat}:(if c=0 then A else A.map fun x=>x.add (0*sz))=A:=by
 split
 ·rfl
 ·cases A with
  | none=>rfl
  | some a=>rw [Option.map_some,add0]
structure Pred {α:Type} (P:Program) (G:Heap) (del:Value) (cells:α→List Value) (pr:α→Bool):Prop where
 run:∀(x:α) (H:Heap),Sub G H→∃g all,isFn P del [.agg ⟨cells x⟩] g all∧Tr P g ⟨all⟩ H fun v H'=>v=.bool (pr x)∧Sub H H'
theorem Pred.grow {α:Type} {P:Program} {G G':Heap} {del:Value} {cells:α→List Value} {pr:α→Bool} (h:Pred P G del cells pr) (s:Sub G G'):Pred P G' del cells pr:=⟨fun x H k=>h.run x H (s.trans k)⟩
theorem flat_splice {α : Type} {cells : α→List Value} {sz : Nat} (hsz : ∀x, (cells x).length=sz) {l : List α} {i : Nat} {x : α} (hi : i<l.length) {cur : Array Value} {off : Nat} (h4 : ∀(j : Nat) (v : Value), (l.flatMap cells)[j]?=some v→cur[off+j]?=some v) (hs : off+l.length*sz≤cur.size) :
  ∀(j:Nat) (v:Value),((l.set i x).flatMap cells)[j]?=some v→(splice cur (off+i*sz) (cells x))[off+j]?=some v:=by
 intro j v hv
 obtain ⟨t,y,q1,q2,q3⟩:=flat_inv hsz _ j v hv
 have hl3:=get_lt q3
 rw [hsz] at hl3
 have m1:(i+1)*sz≤l.length*sz:=Nat.mul_le_mul_right _ hi
 rw [Nat.add_mul,Nat.one_mul] at m1
 have hroom:(off+i*sz)+(cells x).length≤cur.size:=by rw [hsz]; omega
 rw [splice_get hroom,hsz]
 rw [List.getElem?_set] at q1
 by_cases ht:i=t
 ·subst ht
  rw [if_pos rfl,if_pos hi] at q1
  cases q1
  rw [if_neg (by omega),if_pos (by omega)]
  rw [←q3]; congr 1; omega
 ·rw [if_neg ht] at q1
  have old:=h4 (t*sz+(j-t*sz)) v (flat_at hsz l t y _ v q1 q3)
  have e:off+(t*sz+(j-t*sz))=off+j:=by omega
  rw [e] at old
  rcases Nat.lt_or_ge t i with q|q
  ·have m2:(t+1)*sz≤i*sz:=Nat.mul_le_mul_right _ q
   rw [Nat.add_mul,Nat.one_mul] at m2
   rw [if_pos (by omega)]; exact old
  ·have m2:(i+1)*sz≤t*sz:=Nat.mul_le_mul_right _ (by omega)
   rw [Nat.add_mul,Nat.one_mul] at m2
   rw [if_neg (by omega),if_neg (by omega)]; exact old
end Go.Ax
namespace Go.Proofs.YtkofafcgcnciaaaGreatDoor
open Go.Ax
section
variable {α:Type} {cells:α→List Value} {sz:Nat} {G0 H:Heap} {q:SlH} {l:List α}
theorem Hand.flen (hsz:∀x,(cells x).length=sz) (h0:0<sz) (hd:Hand G0 H q sz (l.flatMap cells)):q.n=l.length:=by
 have:=hd.sl.len
 rw [flat_size hsz] at this
 exact (Nat.eq_of_mul_eq_mul_right h0 this).symm
theorem Hand.putN (hsz : ∀x, (cells x).length=sz) (h0 : 0<sz) (hd : Hand G0 H q sz (l.flatMap cells)) {i : Nat} (hi : i<l.length) (x : α) {a : Addr} (ha : q.A=some a) {Q : Heap→Prop} (r : ∀H', Hand G0 H' q sz ((l.set i x).flatMap cells)→Q H') :
  ∃(cur:Array Value) (T:TypeId),H (a.add (i*sz)).block=some (.cells cur T (0,0))∧(a.add (i*sz)).spot=none∧(a.add (i*sz)).off+(cells x).length≤cur.size∧∀H1,H1=H.upd (a.add (i*sz)).block (.cells (splice cur (a.add (i*sz)).off (cells x)) T (0,0))→Q H1:=by
 have ok:=hd.sl
 have hq:=hd.flen hsz h0
 rcases ok.at_ with ⟨a1,_⟩|⟨b,off,cur,T,a1,a2,a3,a4⟩
 ·rw [a1] at ha; cases ha
 ·rw [a1] at ha; cases ha
  have b0:((⟨b,off,none⟩:Addr).add (i*sz)).block=b:=by unfold Addr.add; split<;>rfl
  have o0:((⟨b,off,none⟩:Addr).add (i*sz)).off=off+i*sz:=by unfold Addr.add; split<;>simp_all
  have s0:((⟨b,off,none⟩:Addr).add (i*sz)).spot=none:=by unfold Addr.add; split<;>rfl
  rw [b0,o0,s0]
  have hcap:q.n*sz≤q.c*sz:=Nat.mul_le_mul_right _ ok.cap
  have hs:off+l.length*sz≤cur.size:=by rw [←hq]; omega
  have m1:(i+1)*sz≤l.length*sz:=Nat.mul_le_mul_right _ hi
  rw [Nat.add_mul,Nat.one_mul] at m1
  have hsz':off+i*sz+(cells x).length≤cur.size:=by rw [hsz]; omega
  have hblk:q.blk=some b:=by unfold SlH.blk; rw [a1]; rfl
  refine ⟨cur,T,a2,rfl,hsz',fun H1 e=>r H1 ?_⟩
  subst e
  refine ⟨base_upd hd.g (hd.free b hblk) _,⟨?_,ok.cap,.inr ⟨b,off,_,T,a1,Heap.upd_same,by rw [splice_size hsz']; exact a3,flat_splice hsz hi a4 hs⟩⟩,hd.free⟩
  rw [flat_size hsz,List.length_set,hq]
theorem Hand.cut (hsz : ∀x, (cells x).length=sz) (h0 : 0<sz) (hd : Hand G0 H q sz (l.flatMap cells)) {i : Nat} (hi : i<l.length) {P : Program} {t e : TypeId} (hu : P.underlying t=some (.slice e)) {z : Value} (hz : (P.info? e).bind (·.zero)=some z) (h1 : ∀v∈z.cells.toList, v.oneCell'=true) (hzs : z.cells.size=sz)
  {K:Heap→Prop} (k:∀H',Hand G0 H' ⟨q.A,i,q.c⟩ sz ((l.take i).flatMap cells)→K H') :
  Sm P (Builtin.clear_ #[t] 0 #[.slice (if q.c=i then q.A else q.A.map fun x=>x.add (i*sz)) (q.n-i) (q.c-i)]) H fun _ H'=>K H':=by
 have ok:=hd.sl
 have hq:=hd.flen hsz h0
 have hc:=ok.cap
 rcases ok.at_ with ⟨a1,a2,a3⟩|⟨b,off,cur,T,a1,a2,a3,a4⟩
 ·omega
 ·have hne:¬q.c=i:=by omega
  have hA:(if q.c=i then q.A else q.A.map fun x=>x.add (i*sz))=some ⟨b,off+i*sz,none⟩:=by
   rw [if_neg hne,a1,Option.map_some,addr_add]
  rw [hA,show q.n-i=(q.n-i-1)+1 by omega]
  have hcap:q.n*sz≤q.c*sz:=Nat.mul_le_mul_right _ ok.cap
  have hm:i*sz+(q.n-i)*sz=q.n*sz:=by rw [←Nat.add_mul]; congr 1; omega
  have hr:off+i*sz+(q.n-i-1+1)*z.cells.size≤cur.size:=by rw [hzs,show q.n-i-1+1=q.n-i by omega]; omega
  refine smMono (sm_clear a2 hu hz h1 (q.n-i-1) (q.c-i) hr) fun _ H' ⟨zs,hl,e⟩=>k H' ?_
  subst e
  have hblk:q.blk=some b:=by unfold SlH.blk; rw [a1]; rfl
  refine ⟨base_upd hd.g (hd.free b hblk) _,⟨?_,by show i≤q.c; omega,.inr ⟨b,off,_,T,a1,Heap.upd_same,by rw [splice_size (by rw [hl]; omega)]; exact a3,fun j v hv=>?_⟩⟩,hd.free⟩
  ·rw [flat_size hsz,List.length_take]; show min i l.length*sz=i*sz; rw [Nat.min_eq_left (by omega)]
  ·have hj:=get_lt hv
   rw [flat_size hsz,List.length_take,Nat.min_eq_left (by omega)] at hj
   rw [splice_get (by rw [hl]; omega),if_pos (by omega)]
   refine a4 j v ?_
   have hsplit:l.flatMap cells=(l.take i).flatMap cells++(l.drop i).flatMap cells:=by rw [←List.flatMap_append,List.take_append_drop]
   rw [hsplit,List.getElem?_append_left (get_lt hv)]; exact hv
end
theorem clone_in {G : Heap} {A : Option Addr} {n sz bytes : Nat} {T : TypeId} {cs : List Value} (hs : Src G A cs) (hlen : cs.length=n*sz) (hn : A=none→n=0) (h1 : allOne cs=true) (hb : n*bytes≤140737488355328) (hl : n≤9223372036854775807) {K : Value→Heap→Prop} (k : ∀q H', q.n=n→Hand G H' q sz cs→K q.v H') :
  (A.isNone=true→K (.slice none 0 0) G)∧(A.isNone=false→∀b,G b=none→∀H1,H1=G.upd b (.cells #[] T (0,0))→appS T sz bytes H1 (some ⟨b,0,none⟩) 0 0 A n fun A' n' c' H'=>K (.slice A' n' c') H'):=by
 refine ⟨fun e=>?_,fun e b hb0 H1 e1=>⟨cs,src_sub hs (by rw [e1]; exact Sub.upd_new hb0),hlen,⟨[],.inl rfl,by simp,hlen,h1,by rw [Nat.zero_add]; exact hb,by omega,fun hle=>?_,fun hlt b' cap rest hbn hle hr=>?_⟩⟩⟩
 ·have hA:A=none:=by simpa using e
  have h0:=hn hA
  subst h0
  have hcs:cs=[]:=List.length_eq_zero_iff.1 (by omega)
  subst hcs
  exact k ⟨none,0,0⟩ G rfl (Hand.nil (Sub.refl _) sz)
 ·have h0:n=0:=by omega
  subst h0
  have hcs:cs=[]:=List.length_eq_zero_iff.1 (by omega)
  subst hcs
  refine .inl ⟨rfl,k ⟨some ⟨b,0,none⟩,0,0⟩ H1 rfl ⟨by rw [e1]; exact Sub.upd_new hb0,⟨by simp,Nat.le_refl _,.inr ⟨b,0,#[],T,rfl,by rw [e1]; exact Heap.upd_same,by simp,fun j v hv=>by simp at hv⟩⟩,fun i hi=>?_⟩⟩
  unfold SlH.blk at hi; cases hi; exact hb0
 ·have s1:Sub G H1:=by rw [e1]; exact Sub.upd_new hb0
  refine k ⟨some ⟨b',0,none⟩,0+n,cap⟩ _ (by simp) ⟨s1.trans (Sub.upd_new hbn),⟨by show cs.length=(0+n)*sz; rw [Nat.zero_add]; exact hlen,hle,.inr ⟨b',0,_,T,rfl,Heap.upd_same,?_,fun j v hv=>?_⟩⟩,fun i hi=>?_⟩
  ·simp only [List.size_toArray,List.length_append,List.length_nil,hr,hlen,Nat.zero_add]
   rw [←Nat.add_mul]
   have:n+(cap-(0+n))=cap:=by omega
   rw [Nat.zero_add] at this
   rw [this]; exact Nat.le_refl _
  ·have hj:=get_lt hv
   simp only [List.nil_append,List.getElem?_toArray,Nat.zero_add]
   rw [List.getElem?_append_left hj]; exact hv
  ·unfold SlH.blk at hi; cases hi; exact none_below s1 hbn
section
variable {α:Type} {cells:α→List Value} {sz:Nat} {P:Program} {G0 H:Heap} {q:SlH} {l:List α} {del:Value} {pr:α→Bool}
structure RIdx (pr:α→Bool) (l:List α) (H:Heap) (x:Int) (H1:Heap):Prop where
 s:Sub H H1
 k:∃k:Nat,x=k∧k≤l.length∧∀j y,j<k→l[j]?=some y→pr y=false
structure IxR (pr:α→Bool) (l:List α) (H:Heap) (v:Value) (H1:Heap):Prop where
 s:Sub H H1
 out:(v=.int .i64 (-1)∧∀y∈l,pr y=false)∨∃(i:Nat) (x:α),v=.int .i64 (i:Int)∧l[i]?=some x∧pr x=true∧∀j y,j<i→l[j]?=some y→pr y=false
theorem RIdx.zero:RIdx pr l H 0 H:=⟨Sub.refl _,0,rfl,Nat.zero_le _,fun j _ h=>absurd h (by omega)⟩
theorem RIdx.next {H1 H2 : Heap} {k : Nat} (r : RIdx pr l H k H1) (s : Sub H1 H2) (hb : l.length≤9223372036854775806) {x : α} (hx : l[k]?=some x) (hp : pr x=false) :
  RIdx pr l H (IntKind.i64.wrap ((k:Int)+1)) H2∧((l.length:Int)-IntKind.i64.wrap ((k:Int)+1)).toNat<((l.length:Int)-(k:Int)).toNat:=by
 obtain ⟨k',hk',_,hs⟩:=r.k
 have:k'=k:=by omega
 subst this
 have:=get_lt hx
 rw [wrapi (by omega) (by omega)]
 refine ⟨⟨r.s.trans s,k'+1,by omega,by omega,fun j y hj hy=>?_⟩,by omega⟩
 by_cases h:j=k'
 ·subst h; rw [hx] at hy; cases hy; exact hp
 ·exact hs j y (by omega) hy
theorem RIdx.done {H1:Heap} {k:Nat} (r:RIdx pr l H k H1) (hk:l.length≤k):IxR pr l H (.int .i64 (-1)) H1:=by
 obtain ⟨k',hk',_,hs⟩:=r.k
 refine ⟨r.s,.inl ⟨rfl,fun y hy=>?_⟩⟩
 obtain ⟨j,hj⟩:=List.getElem?_of_mem hy
 exact hs j y (by have:=get_lt hj; omega) hj
theorem RIdx.hit {H1 H2:Heap} {k:Nat} (r:RIdx pr l H k H1) (s:Sub H1 H2) {x:α} (hx:l[k]?=some x) (hp:pr x=true):IxR pr l H (.int .i64 (k:Int)) H2:=by
 obtain ⟨k',hk',_,hs⟩:=r.k
 have:k'=k:=by omega
 subst this
 exact ⟨r.s.trans s,.inr ⟨k',x,rfl,hx,hp,hs⟩⟩
structure RDel (cells:α→List Value) (sz:Nat) (pr:α→Bool) (G0:Heap) (q:SlH) (l:List α) (x y:Int) (H1:Heap):Prop where
 out:∃(i j:Nat) (arr:List α),x=i∧y=j∧i<j∧j≤l.length∧arr.length=l.length∧Hand G0 H1 q sz (arr.flatMap cells)∧arr.take i=(l.take j).filter (fun z=>!pr z)∧∀t,j≤t→arr[t]?=l[t]?
theorem RDel.start {H1:Heap} (hd:Hand G0 H1 q sz (l.flatMap cells)) {i:Nat} {x:α} (hx:l[i]?=some x) (hp:pr x=true) (hf:∀j y,j<i→l[j]?=some y→pr y=false):RDel cells sz pr G0 q l i ((i+1:Nat):Int) H1:=by
 refine ⟨i,i+1,l,rfl,rfl,by omega,get_lt hx,rfl,hd,?_,fun _ _=>rfl⟩
 rw [List.take_add_one,hx,List.filter_append]
 have e1:(l.take i).filter (fun z=>!pr z)=l.take i:=List.filter_eq_self.2 fun y hy=>by
  obtain ⟨j,hj⟩:=List.getElem?_of_mem hy
  have hlt:=get_lt hj
  rw [List.length_take] at hlt
  rw [List.getElem?_take_of_lt (by omega)] at hj
  rw [hf j y (by omega) hj]; rfl
 rw [e1]
 simp [hp]
theorem RDel.keep {H1 : Heap} {i j : Nat} {arr : List α} (hj : j<l.length) (hij : i<j) (hlen : arr.length=l.length) (hd : Hand G0 H1 q sz (arr.flatMap cells)) (ht : arr.take i=(l.take j).filter (fun z => !pr z)) (hr : ∀t, j≤t→arr[t]?=l[t]?) {x : α} (hx : l[j]?=some x) (hp : pr x=true) :
  RDel cells sz pr G0 q l i ((j+1:Nat):Int) H1:=by
 refine ⟨i,j+1,arr,rfl,rfl,by omega,by omega,hlen,hd,?_,fun t h=>hr t (by omega)⟩
 rw [List.take_add_one,hx,List.filter_append,ht]
 simp [hp]
theorem RDel.move {H1 : Heap} {i j : Nat} {arr : List α} (hj : j<l.length) (hij : i<j) (hlen : arr.length=l.length) {x : α} (hd : Hand G0 H1 q sz ((arr.set i x).flatMap cells)) (ht : arr.take i=(l.take j).filter (fun z => !pr z)) (hr : ∀t, j≤t→arr[t]?=l[t]?) (hx : l[j]?=some x) (hp : pr x=false) :
  RDel cells sz pr G0 q l ((i+1:Nat):Int) ((j+1:Nat):Int) H1:=by
 refine ⟨i+1,j+1,arr.set i x,rfl,rfl,by omega,by omega,by rw [List.length_set]; exact hlen,hd,?_,fun t h=>?_⟩
 ·rw [List.take_add_one,List.take_add_one,hx,List.filter_append,←ht,List.take_set_of_le (by omega)]
  rw [List.getElem?_set,if_pos rfl,if_pos (by omega)]
  simp [hp]
 ·rw [List.getElem?_set,if_neg (by omega)]; exact hr t (by omega)
theorem RDel.ended {H1:Heap} {i j:Nat} {arr:List α} (hj:l.length≤j) (ht:arr.take i=(l.take j).filter (fun z=>!pr z)) (hd:Hand G0 H1 ⟨q.A,i,q.c⟩ sz ((arr.take i).flatMap cells)):Hand G0 H1 ⟨q.A,i,q.c⟩ sz ((l.filter fun z=>!pr z).flatMap cells):=by
 rw [ht,List.take_of_length_le hj] at hd; exact hd
theorem filter_all (h:∀y∈l,pr y=false):(l.filter fun z=>!pr z)=l:=List.filter_eq_self.2 fun y hy=>by rw [h y hy]; rfl
end
section
variable {G0 H:Heap} {q:SlH} {del:Value}
theorem t159 {l:List AcM} {pr:AcM→Bool} (hd:Hand G0 H q 10 (l.flatMap AcM.cells)) (hp:Pred Tryz.prog G0 del AcM.cells pr) (hb:l.length≤9223372036854775806):Tr Tryz.prog 159 #[q.v,del] H fun v H'=>IxR pr l H v H':=by
 have hn:=hd.flen (cells:=AcM.cells) (fun _=>rfl) (by decide)
 apply v159; unfold F159
 refine ⟨RIdx pr l H,fun x _=>((l.length:Int)-x).toNat,RIdx.zero,fun x H1 r=>?_⟩
 obtain ⟨k,rfl,hk,-⟩:=r.k
 refine ⟨fun hlt=>?_,fun hge=>r.done (by have:=of_decide_eq_false hge; omega)⟩
 have hlt:(k:Int)<(q.n:Int):=of_decide_eq_true hlt
 obtain ⟨x,hx⟩:=get_some (l:=l) (i:=k) (by omega)
 obtain ⟨a,ha,hat⟩:=src_elem (cells:=AcM.cells) (sz:=10) (fun _=>rfl) (by decide) (src_sub hd.sl.src r.s) k x hx
 obtain ⟨g,all,hf,ht⟩:=hp.run x H1 (hd.g.trans r.s)
 exact ⟨a,⟨ha,by omega,hlt⟩,_,_,_,_,_,_,_,_,_,_,hat,g,all,hf,ht.mono fun v H2 ⟨hv,s⟩=>⟨_,hv,fun e=>r.hit s hx e,fun e=>r.next s hb hx e⟩⟩
theorem t160 {l:List TmM} {pr:TmM→Bool} (hd:Hand G0 H q 2 (l.flatMap TmM.cells)) (hp:Pred Tryz.prog G0 del TmM.cells pr) (hb:l.length≤9223372036854775806):Tr Tryz.prog 160 #[q.v,del] H fun v H'=>IxR pr l H v H':=by
 have hn:=hd.flen (cells:=TmM.cells) (fun _=>rfl) (by decide)
 apply v160; unfold F160
 refine ⟨RIdx pr l H,fun x _=>((l.length:Int)-x).toNat,RIdx.zero,fun x H1 r=>?_⟩
 obtain ⟨k,rfl,hk,-⟩:=r.k
 refine ⟨fun hlt=>?_,fun hge=>r.done (by have:=of_decide_eq_false hge; omega)⟩
 have hlt:(k:Int)<(q.n:Int):=of_decide_eq_true hlt
 obtain ⟨x,hx⟩:=get_some (l:=l) (i:=k) (by omega)
 obtain ⟨a,ha,hat⟩:=src_elem (cells:=TmM.cells) (sz:=2) (fun _=>rfl) (by decide) (src_sub hd.sl.src r.s) k x hx
 obtain ⟨g,all,hf,ht⟩:=hp.run x H1 (hd.g.trans r.s)
 exact ⟨a,⟨ha,by omega,hlt⟩,_,_,hat,g,all,hf,ht.mono fun v H2 ⟨hv,s⟩=>⟨_,hv,fun e=>r.hit s hx e,fun e=>r.next s hb hx e⟩⟩
structure DelR {α:Type} (cells:α→List Value) (sz:Nat) (pr:α→Bool) (G0:Heap) (l:List α) (v:Value) (H':Heap):Prop where
 out:∃q:SlH,v=q.v∧Hand G0 H' q sz ((l.filter fun z=>!pr z).flatMap cells)
theorem zcells {e:TypeId} {n:Nat} {cs:List Value} (h:((Tryz.prog.info? e).bind (·.zero)).map (fun z=>z.cells.toList)=some cs) (hn:cs.length=n) (h1:allOne cs=true):∃z,(Tryz.prog.info? e).bind (·.zero)=some z∧(∀v∈z.cells.toList,v.oneCell'=true)∧z.cells.size=n:=by
 cases hz:(Tryz.prog.info? e).bind (·.zero) with
 | none=>rw [hz] at h; cases h
 | some z =>
  rw [hz] at h
  injection h with h
  subst h
  exact ⟨z,rfl,fun v hv=>one_cell (allOne_mem _ h1 v hv),by rw [←hn]; simp⟩
theorem t131 {l:List AcM} {pr:AcM→Bool} (hd:Hand G0 H q 10 (l.flatMap AcM.cells)) (hp:Pred Tryz.prog G0 del AcM.cells pr) (hb:l.length≤9223372036854775806):Tr Tryz.prog 131 #[q.v,del] H fun v H'=>DelR AcM.cells 10 pr G0 l v H':=by
 have hn:=hd.flen (cells:=AcM.cells) (fun _=>rfl) (by decide)
 have hcap:=hd.sl.cap
 apply v131; unfold F131
 refine (t159 hd hp hb).mono fun v H1 ix=>?_
 rcases ix.out with ⟨hv,hall⟩|⟨i,x,hv,hx,hpx,hf⟩
 ·exact ⟨_,hv,fun _=>⟨q,rfl,by rw [filter_all hall]; exact hd.sub ix.s⟩,fun e=>absurd e (by simp)⟩
 have hil:=get_lt hx
 refine ⟨_,hv,fun e=>absurd e (by simp),fun _=>⟨RDel AcM.cells 10 pr G0 q l,fun _ y _=>((l.length:Int)-y).toNat,?_,fun x1 x2 H2 r=>?_⟩⟩
 ·rw [show IntKind.i64.wrap ((i:Int)+1)=((i+1:Nat):Int) by rw [wrapi (by omega) (by omega)]; rfl]
  exact RDel.start (hd.sub ix.s) hx hpx hf
 obtain ⟨i,j,arr,rfl,rfl,hij,hjl,hlen,hd2,ht,hr⟩:=r.out
 have hw2:IntKind.i64.wrap ((j:Int)+1)=((j+1:Nat):Int):=by rw [wrapi (by omega) (by omega)]; rfl
 have hw1:IntKind.i64.wrap ((i:Int)+1)=((i+1:Nat):Int):=by rw [wrapi (by omega) (by omega)]; rfl
 have ms:((l.length:Int)-((j+1:Nat):Int)).toNat<((l.length:Int)-(j:Int)).toNat∨¬j<l.length:=by omega
 rw [hw2,hw1]
 refine ⟨fun hlt=>?_,fun hge=>?_⟩
 ·have hlt:(j:Int)<(q.n:Int):=of_decide_eq_true hlt
  have hjl:j<l.length:=by omega
  have ms:=ms.resolve_right (by omega)
  obtain ⟨x,hx⟩:=get_some (l:=l) (i:=j) hjl
  obtain ⟨a,ha,hat⟩:=src_elem (cells:=AcM.cells) (sz:=10) (fun _=>rfl) (by decide) hd2.sl.src j x (by rw [hr j (Nat.le_refl _)]; exact hx)
  obtain ⟨g,all,hfn,htr⟩:=hp.run x H2 hd2.g
  refine ⟨a,⟨ha,by omega,hlt⟩,_,_,_,_,_,_,_,_,_,_,hat,g,all,hfn,htr.mono fun v H3 ⟨hv,s⟩=>⟨_,hv,fun e=>⟨a,⟨ha,by omega,by omega⟩,?_⟩,fun e=>⟨RDel.keep hjl hij hlen (hd2.sub s) ht hr hx (by simpa using e),ms⟩⟩⟩
  exact (hd2.sub s).putN (cells:=AcM.cells) (fun _=>rfl) (by decide) (i:=i) (by omega) x ha fun H4 hd4=>⟨RDel.move hjl hij hlen hd4 ht hr hx (by simpa using e),ms⟩
 ·have hge:¬(j:Int)<(q.n:Int):=of_decide_eq_false hge
  obtain ⟨z,hz,hz1,hzs⟩:=zcells (e:=53) (n:=10) (cs:=AcM.cells ⟨0,0,0,0,0,0,0,0,0,0⟩) (by kernel_rfl) rfl rfl
  refine ⟨⟨by omega,by omega⟩,hd2.cut (cells:=AcM.cells) (fun _=>rfl) (by decide) (i:=i) (by omega) Tryz.underlying29 hz hz1 hzs fun H3 hd3=>⟨⟨by omega,by omega⟩,⟨q.A,i,q.c⟩,?_,RDel.ended (by omega) ht hd3⟩⟩
  rw [head0]; rfl
theorem t132 {l:List TmM} {pr:TmM→Bool} (hd:Hand G0 H q 2 (l.flatMap TmM.cells)) (hp:Pred Tryz.prog G0 del TmM.cells pr) (hb:l.length≤9223372036854775806):Tr Tryz.prog 132 #[q.v,del] H fun v H'=>DelR TmM.cells 2 pr G0 l v H':=by
 have hn:=hd.flen (cells:=TmM.cells) (fun _=>rfl) (by decide)
 have hcap:=hd.sl.cap
 apply v132; unfold F132
 refine (t160 hd hp hb).mono fun v H1 ix=>?_
 rcases ix.out with ⟨hv,hall⟩|⟨i,x,hv,hx,hpx,hf⟩
 ·exact ⟨_,hv,fun _=>⟨q,rfl,by rw [filter_all hall]; exact hd.sub ix.s⟩,fun e=>absurd e (by simp)⟩
 have hil:=get_lt hx
 refine ⟨_,hv,fun e=>absurd e (by simp),fun _=>⟨RDel TmM.cells 2 pr G0 q l,fun _ y _=>((l.length:Int)-y).toNat,?_,fun x1 x2 H2 r=>?_⟩⟩
 ·rw [show IntKind.i64.wrap ((i:Int)+1)=((i+1:Nat):Int) by rw [wrapi (by omega) (by omega)]; rfl]
  exact RDel.start (hd.sub ix.s) hx hpx hf
 obtain ⟨i,j,arr,rfl,rfl,hij,hjl,hlen,hd2,ht,hr⟩:=r.out
 have hw2:IntKind.i64.wrap ((j:Int)+1)=((j+1:Nat):Int):=by rw [wrapi (by omega) (by omega)]; rfl
 have hw1:IntKind.i64.wrap ((i:Int)+1)=((i+1:Nat):Int):=by rw [wrapi (by omega) (by omega)]; rfl
 have ms:((l.length:Int)-((j+1:Nat):Int)).toNat<((l.length:Int)-(j:Int)).toNat∨¬j<l.length:=by omega
 rw [hw2,hw1]
 refine ⟨fun hlt=>?_,fun hge=>?_⟩
 ·have hlt:(j:Int)<(q.n:Int):=of_decide_eq_true hlt
  have hjl:j<l.length:=by omega
  have ms:=ms.resolve_right (by omega)
  obtain ⟨x,hx⟩:=get_some (l:=l) (i:=j) hjl
  obtain ⟨a,ha,hat⟩:=src_elem (cells:=TmM.cells) (sz:=2) (fun _=>rfl) (by decide) hd2.sl.src j x (by rw [hr j (Nat.le_refl _)]; exact hx)
  obtain ⟨g,all,hfn,htr⟩:=hp.run x H2 hd2.g
  refine ⟨a,⟨ha,by omega,hlt⟩,_,_,hat,g,all,hfn,htr.mono fun v H3 ⟨hv,s⟩=>⟨_,hv,fun e=>⟨a,⟨ha,by omega,by omega⟩,?_⟩,fun e=>⟨RDel.keep hjl hij hlen (hd2.sub s) ht hr hx (by simpa using e),ms⟩⟩⟩
  exact (hd2.sub s).putN (cells:=TmM.cells) (fun _=>rfl) (by decide) (i:=i) (by omega) x ha fun H4 hd4=>⟨RDel.move hjl hij hlen hd4 ht hr hx (by simpa using e),ms⟩
 ·have hge:¬(j:Int)<(q.n:Int):=of_decide_eq_false hge
  obtain ⟨z,hz,hz1,hzs⟩:=zcells (e:=83) (n:=2) (cs:=TmM.cells ⟨0,0⟩) (by kernel_rfl) rfl rfl
  refine ⟨⟨by omega,by omega⟩,hd2.cut (cells:=TmM.cells) (fun _=>rfl) (by decide) (i:=i) (by omega) Tryz.underlying30 hz hz1 hzs fun H3 hd3=>⟨⟨by omega,by omega⟩,⟨q.A,i,q.c⟩,?_,RDel.ended (by omega) ht hd3⟩⟩
  rw [head0]; rfl
theorem acs_one:∀l:List AcM,allOne (l.flatMap AcM.cells)=true
 | []=>rfl
 | x::l=>by rw [List.flatMap_cons]; exact acs_one l
theorem tms_one:∀l:List TmM,allOne (l.flatMap TmM.cells)=true
 | []=>rfl
 | x::l=>by rw [List.flatMap_cons]; exact tms_one l
theorem _root_.Go.Ax.SlOk.nil_n {H:Heap} {h:SlH} {sz:Nat} {cs:List Value} (k:SlOk H h sz cs) (e:h.A=none):h.n=0:=by
 rcases k.at_ with a|⟨b,off,cur,T,a1,_⟩
 ·exact a.2.1
 ·rw [a1] at e; cases e
theorem t92 {G:Heap} {l:List AcM} {pr:AcM→Bool} (hs:SlOk G q 10 (l.flatMap AcM.cells)) (hp:Pred Tryz.prog G del AcM.cells pr) (hb:l.length*80≤140737488355328):Tr Tryz.prog 92 #[q.v,del] G fun v H'=>DelR AcM.cells 10 pr G l v H':=by
 have hl:(l.flatMap AcM.cells).length=l.length*10:=flat_size (cells:=AcM.cells) (sz:=10) (fun _=>rfl) _
 have hn:q.n=l.length:=by have:=hs.len; omega
 apply v92; unfold F92
 refine Tr.mono (K:=fun v H1=>∃q1:SlH,v=q1.v∧Hand G H1 q1 10 (l.flatMap AcM.cells)) ?_ fun v H1 ⟨q1,hv,hd⟩=>⟨_,_,_,hv,(t131 hd hp (by omega)).mono fun v H2 ⟨q2,hv2,hd2⟩=>⟨_,_,_,hv2,⟨q2,rfl,hd2⟩⟩⟩
 apply v55; unfold F55
 exact clone_in (bytes:=80) (K:=fun v H1=>∃q1:SlH,v=q1.v∧Hand G H1 q1 10 (l.flatMap AcM.cells)) hs.src hs.len hs.nil_n (acs_one _) (by omega) (by omega) fun q1 H1 _ hd=>⟨q1,rfl,hd⟩
theorem t94 {G:Heap} {l:List TmM} {pr:TmM→Bool} (hs:SlOk G q 2 (l.flatMap TmM.cells)) (hp:Pred Tryz.prog G del TmM.cells pr) (hb:l.length*16≤140737488355328):Tr Tryz.prog 94 #[q.v,del] G fun v H'=>DelR TmM.cells 2 pr G l v H':=by
 have hl:(l.flatMap TmM.cells).length=l.length*2:=flat_size (cells:=TmM.cells) (sz:=2) (fun _=>rfl) _
 have hn:q.n=l.length:=by have:=hs.len; omega
 apply v94; unfold F94
 refine Tr.mono (K:=fun v H1=>∃q1:SlH,v=q1.v∧Hand G H1 q1 2 (l.flatMap TmM.cells)) ?_ fun v H1 ⟨q1,hv,hd⟩=>⟨_,_,_,hv,(t132 hd hp (by omega)).mono fun v H2 ⟨q2,hv2,hd2⟩=>⟨_,_,_,hv2,⟨q2,rfl,hd2⟩⟩⟩
 apply v81; unfold F81
 exact clone_in (bytes:=16) (K:=fun v H1=>∃q1:SlH,v=q1.v∧Hand G H1 q1 2 (l.flatMap TmM.cells)) hs.src hs.len hs.nil_n (tms_one _) (by omega) (by omega) fun q1 H1 _ hd=>⟨q1,rfl,hd⟩
end
end Go.Proofs.YtkofafcgcnciaaaGreatDoor
